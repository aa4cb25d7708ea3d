/- node.Split. -/
import Derived.Test.YtecfhfddgolpfaaGreatNodeL
namespace Go.Proofs.YtecfhfddgolpfaaGreat
open Go.RowKit

def lastK (x : Nd) : Nat := if x.leaf then x.keys.length - 1 else x.keys.length - 2
def mxK (x : Nd) (k : Nat) : Nat := max (nsize (fstN x k)) (nsize (sndN x k))
theorem parts_any (x : Nd) (ak av ac : Option Addr) (ck cv cc : Nat) (kvs vvs : List Value) (w : World) (h : NodeAt w x ak ck av cv ac cc kvs vvs) (hs : Small x) (hx : Shaped x) (k : Nat) (hk0 : 1 ≤ k) (hk : k ≤ lastK x) (hl1 : 1 ≤ lastK x) :
    Calls Tryz.prog 104 #[nodeV x ak ck av cv ac cc, .int .i64 k] w fun e w' => ∃ v1 kv v2, e = .returned (.tuple #[v1, kv, v2]) ∧ NodeR w' v1 (fstN x k) ∧ Bts w' kv (x.keys.getD k []) ∧ NodeR w' v2 (sndN x k) ∧ Ext w w' := by
  unfold lastK at hk hl1
  cases hl : x.leaf with
  | true =>
    rw [hl] at hk hl1
    simp only [if_true] at hk hl1
    have hlt : k < x.keys.length := by omega
    have e : x.keys.getD k [] = x.keys[k] := by simp [hlt]
    rw [e]
    exact parts_leaf x ak av ac ck cv cc kvs vvs w h hs hl (hx.leafv hl).1 k hk0 hlt
  | false =>
    rw [hl] at hk hl1
    simp only [Bool.false_eq_true, if_false] at hk hl1
    have hlt : k < x.keys.length := by omega
    have e : x.keys.getD k [] = x.keys[k] := by simp [hlt]
    rw [e]
    exact parts_inner x ak av ac ck cv cc kvs vvs w h hs hl (hx.inn hl).2.1 k hk0 (by omega)
theorem fstN_small {x : Nd} (h : Small x) (k : Nat) : Small (fstN x k) := by
  have hk := h.k
  have hv := h.v
  have hn := h.n
  have hvn := h.vn
  have hcn := h.cn
  have tk : ∀ (l : List Bytes) (i : Nat), (∀ i, (l.getD i []).length ≤ 4000) → ((l.take k).getD i []).length ≤ 4000 := fun l i hh => by
    have := hh i
    simp only [List.getD_eq_getElem?_getD, List.getElem?_take] at this ⊢
    split
    · exact this
    · simp
  unfold fstN
  split
  · exact ⟨by simp; omega, fun i => tk _ i hk, fun i => tk _ i hv, by simp; omega, by simp⟩
  · exact ⟨by simp; omega, fun i => tk _ i hk, fun i => by simp, by simp, by simp; omega⟩
theorem sndN_small {x : Nd} (h : Small x) (k : Nat) : Small (sndN x k) := by
  have hk := h.k
  have hv := h.v
  have hn := h.n
  have hvn := h.vn
  have hcn := h.cn
  have tk : ∀ (l : List Bytes) (i k : Nat), (∀ i, (l.getD i []).length ≤ 4000) → ((l.drop k).getD i []).length ≤ 4000 := fun l i k hh => by
    have := hh (k + i)
    simp only [List.getD_eq_getElem?_getD, List.getElem?_drop] at this ⊢
    exact this
  unfold sndN
  split
  · exact ⟨by simp; omega, fun i => tk _ i _ hk, fun i => tk _ i _ hv, by simp; omega, by simp⟩
  · exact ⟨by simp; omega, fun i => tk _ i _ hk, fun i => by simp, by simp, by simp; omega⟩
theorem fstN_leaf (x : Nd) (k : Nat) : (fstN x k).leaf = x.leaf := by unfold fstN; split <;> simp [*]
theorem sndN_leaf (x : Nd) (k : Nat) : (sndN x k).leaf = x.leaf := by unfold sndN; split <;> simp [*]
theorem fstN_vals {x : Nd} (hx : Shaped x) (k : Nat) : (fstN x k).leaf = true → (fstN x k).vals.length = (fstN x k).keys.length := by
  intro hl
  rw [fstN_leaf] at hl
  unfold fstN
  rw [if_pos hl]
  simp [(hx.leafv hl).1]
theorem sndN_vals {x : Nd} (hx : Shaped x) (k : Nat) : (sndN x k).leaf = true → (sndN x k).vals.length = (sndN x k).keys.length := by
  intro hl
  rw [sndN_leaf] at hl
  unfold sndN
  rw [if_pos hl]
  simp [(hx.leafv hl).1]
theorem nsize_small {x : Nd} (h : Small x) : nsize x ≤ 100000000 := by
  have := h.szTo_le x.keys.length
  have := h.n
  unfold nsize
  omega

theorem upd_set44 (w : World) (B C : Nat) (a b c d a' b' c' d' : Value) : Upd (fun k => k = B ∨ k = C) w (((((((((w.setCell ⟨B, 0, none⟩ a).setCell ⟨B, 1, none⟩ b).setCell ⟨B, 2, none⟩ c).setCell ⟨B, 3, none⟩ d).setCell ⟨C, 0, none⟩ a').setCell ⟨C, 1, none⟩ b').setCell ⟨C, 2, none⟩ c').setCell ⟨C, 3, none⟩ d')) := by
  have h1 := (upd_set4 w B a b c d).mono (fun i _ h => (.inl h : i = B ∨ i = C))
  have h2 := upd_set4 ((((w.setCell ⟨B, 0, none⟩ a).setCell ⟨B, 1, none⟩ b).setCell ⟨B, 2, none⟩ c).setCell ⟨B, 3, none⟩ d) C a' b' c' d'
  exact h1.trans h2 (fun i h => .inl (.inr h))
theorem keep4 {w : World} {B : Nat} {a b c d : Value} {p : Addr} {v : Value} (h : w.cell? p = some v) (hB : p.block ≠ B) : ((((w.setCell ⟨B, 0, none⟩ a).setCell ⟨B, 1, none⟩ b).setCell ⟨B, 2, none⟩ c).setCell ⟨B, 3, none⟩ d).cell? p = some v :=
  (upd_set4 w B a b c d).cell h hB

set_option maxRecDepth 100000 in
set_option maxHeartbeats 2500000 in
theorem split_any (x : Nd) (ak av ac : Option Addr) (ck cv cc : Nat) (kvs vvs : List Value) (w : World) (h : NodeAt w x ak ck av cv ac cc kvs vvs) (hs : Small x) (hx : Shaped x) (hl1 : 1 ≤ lastK x) :
    Calls Tryz.prog 75 #[nodeV x ak ck av cv ac cc] w fun e w' => ∃ k, 1 ≤ k ∧ k ≤ lastK x ∧ (∀ j, 1 ≤ j → j ≤ lastK x → mxK x k ≤ mxK x j) ∧ ∃ sk sv sc kvs vvs kv sk' sv' sc' kvs' vvs',
      e = .returned (.tuple #[.agg #[.bool x.leaf, sk, sv, sc], kv, .agg #[.bool x.leaf, sk', sv', sc'], .bool true]) ∧ NOwn w' w.heap.size sk sv sc kvs vvs (fstN x k) ∧ Bts w' kv (x.keys.getD k []) ∧ NOwn w' w.heap.size sk' sv' sc' kvs' vvs' (sndN x k) ∧ Ext w w' := by
  have hn := hs.n
  have q1 : ∀ wz, Ext w wz → Calls Tryz.prog 103 #[nodeV x ak ck av cv ac cc] wz fun e w' => e = .returned (.bool true) ∧ Ext wz w' := fun wz hz =>
    shaped_yes x ak av ac ck cv cc kvs vvs wz (h.ext hz) hs hx
  have q2 : ∀ wz k, Ext w wz → 1 ≤ k → k ≤ lastK x → Calls Tryz.prog 104 #[nodeV x ak ck av cv ac cc, .int .i64 k] wz fun e w' => ∃ v1 kv v2, e = .returned (.tuple #[v1, kv, v2]) ∧ NodeR w' v1 (fstN x k) ∧ Bts w' kv (x.keys.getD k []) ∧ NodeR w' v2 (sndN x k) ∧ Ext wz w' := fun wz k hz h1 h2 =>
    parts_any x ak av ac ck cv cc kvs vvs wz (h.ext hz) hs hx k h1 h2 hl1
  unfold nodeV at q1 q2 ⊢
  obtain ⟨W0, hW0⟩ : ∃ W0, W0 = w.alloc (.cells #[.bool x.leaf, .slice ak x.keys.length ck, .slice av x.vals.length cv, .slice ac x.kids.length cc] 144) := ⟨_, rfl⟩
  obtain ⟨W1, hW1⟩ : ∃ W1, W1 = (W0.alloc (.cells #[.bool false, .slice none 0 0, .slice none 0 0, .slice none 0 0] 144)).alloc (.cells #[.bool false, .slice none 0 0, .slice none 0 0, .slice none 0 0] 144) := ⟨_, rfl⟩
  have hU0 : Ext w W0 := by rw [hW0]; exact (Upd.refl _ w).alloc _
  have hU01 : Ext W0 W1 := by rw [hW1]; exact ((Upd.refl _ W0).alloc _).alloc _
  have hsz : W0.heap.size = w.heap.size + 1 := by rw [hW0]; simp
  have c0 : W1.cell? ⟨w.heap.size, 0, none⟩ = some (.bool x.leaf) := hU01.cell (by rw [hW0, World.cell?_alloc_new]; rfl) (fun f => f)
  have c1 : W1.cell? ⟨w.heap.size, 1, none⟩ = some (.slice ak x.keys.length ck) := hU01.cell (by rw [hW0, World.cell?_alloc_new]; rfl) (fun f => f)
  have c2 : W1.cell? ⟨w.heap.size, 2, none⟩ = some (.slice av x.vals.length cv) := hU01.cell (by rw [hW0, World.cell?_alloc_new]; rfl) (fun f => f)
  have c3 : W1.cell? ⟨w.heap.size, 3, none⟩ = some (.slice ac x.kids.length cc) := hU01.cell (by rw [hW0, World.cell?_alloc_new]; rfl) (fun f => f)
  have hr1 : W1.heap[w.heap.size + 1]? = some (.cells #[.bool false, .slice none 0 0, .slice none 0 0, .slice none 0 0] 144 (0, 0)) := by
    rw [hW1, ← hsz]
    exact ((Upd.refl (fun _ => False) _).alloc _).heap (heap_alloc_new W0 _) (fun f => f)
  have hr2 : W1.heap[w.heap.size + 2]? = some (.cells #[.bool false, .slice none 0 0, .slice none 0 0, .slice none 0 0] 144 (0, 0)) := by
    rw [hW1]
    have := heap_alloc_new (W0.alloc (.cells #[.bool false, .slice none 0 0, .slice none 0 0, .slice none 0 0] 144)) (.cells #[.bool false, .slice none 0 0, .slice none 0 0, .slice none 0 0] 144)
    have e : (W0.alloc (.cells #[.bool false, .slice none 0 0, .slice none 0 0, .slice none 0 0] 144)).heap.size = w.heap.size + 2 := by simp [hsz]
    rw [e] at this
    exact this
  have hUw : Ext w W1 := hU0.trans hU01 (fun _ f => f.elim)
  obtain ⟨L, hL⟩ : ∃ L, L = lastK x := ⟨_, rfl⟩
  have hLn : L ≤ 4000 := by rw [hL]; unfold lastK; split <;> omega
  have hLc : L = (if x.leaf then x.keys.length - 1 else x.keys.length - 2) := hL
  rw [← hL] at hl1 q2 ⊢
  have q1' := q1 W1 hUw
  have hsize : ∀ k, 1 ≤ k → k ≤ L → mxK x k ≤ 100000000 := fun k _ _ => by
    have h1 := nsize_small (fstN_small hs k)
    have h2 := nsize_small (sndN_small hs k)
    unfold mxK
    omega
  have HSZ := Lib.hid hsize
  have HS := Lib.hid hs
  have HX := Lib.hid hx
  have Q1 := Lib.hid q1'
  have Q2 := Lib.hid q2
  have HW := Lib.hid (And.intro hW0 hW1)
  have HUW := Lib.hid hUw
  have HR := Lib.hid (And.intro hr1 hr2)
  have HLE := Lib.hid hL
  clear q1 q1' q2 hU0 hU01 hUw hr1 hr2 h hsz hW0 hW1 hL hs hx hsize
  have hlt0 : w.heap.size < W1.heap.size := heap_lt HR.out.1 |> (by omega : w.heap.size + 1 < W1.heap.size → w.heap.size < W1.heap.size)
  cases hl : x.leaf with
  | false =>
    rw [hl] at c0 hLc
    simp only [Bool.false_eq_true, if_false] at hLc
    have HLF := Lib.hid hl
    have hq := Q1.out
    rw [hl] at hq
    have HQ := Lib.hid hq
    have hw := HW.out
    rw [hl] at hw
    have HWW := Lib.hid hw
    have HLC := Lib.hid hLc
    clear hq hw hl
    have e0 : 2 ≤ x.keys.length := by omega
    have e1 : IntKind.i64.wrap ((x.keys.length : Int) - 1) = ((x.keys.length - 1 : Nat) : Int) := by rw [IntKind.wrap_i64]; omega
    have e2 : IntKind.i64.wrap (((x.keys.length - 1 : Nat) : Int) - 1) = ((x.keys.length - 2 : Nat) : Int) := by rw [IntKind.wrap_i64]; omega
    clear hLc
    go_enter Tryz.func75, Tryz.ntmps75
    go_wp2_with fail
    rw [← HWW.out.1, ← HWW.out.2, ← HLC.out]
    refine HQ.out.mono ?_
    rintro e W2 ⟨rfl, hU12⟩
    have d0 := hU12.cell c0 (fun f => f)
    have d1 := hU12.cell c1 (fun f => f)
    have d2 := hU12.cell c2 (fun f => f)
    have d3 := hU12.cell c3 (fun f => f)
    have HU12 := Lib.hid hU12
    have hl1I : ¬ ((L : Int) < 1) := by omega
    clear hU12 c0 c1 c2 c3 e1 e2
    go_wp2_with fail
    go_loopw [7, 8, 9] (fun bb ss i wr => ∃ (b s k : Nat), bb = .int .i64 b ∧ ss = .int .i64 s ∧ i = .int .i64 k ∧ 1 ≤ k ∧ k ≤ L + 1 ∧ Ext W2 wr ∧ s ≤ 100000000 ∧ ((k = 1 ∧ b = 0) ∨ (1 ≤ b ∧ b < k ∧ s = mxK x b ∧ ∀ j, 1 ≤ j → j < k → mxK x b ≤ mxK x j))) (fun _ _ i _ => L + 1 - (intOf i).toNat)
    case atStart => exact ⟨0, 0, 1, rfl, rfl, rfl, by omega, by omega, Upd.refl _ _, by omega, .inl ⟨rfl, rfl⟩⟩
    case round =>
      obtain ⟨b, s, k, rfl, rfl, rfl, hk1, hk2, hU, hsb, hcase⟩ := hrel
      have r0 := hU.cell d0 (fun f => f)
      have r1 := hU.cell d1 (fun f => f)
      have r2 := hU.cell d2 (fun f => f)
      have r3 := hU.cell d3 (fun f => f)
      have hUall := (HUW.out.trans HU12.out (fun _ f => f.elim)).trans hU (fun _ f => f.elim)
      by_cases hlt : k ≤ L
      · have hq := Q2.out wr k hUall hk1 hlt
        rw [HLF.out] at hq
        have hQ2 := Lib.hid hq
        have HU := Lib.hid hU
        have HUA := Lib.hid hUall
        have HC := Lib.hid hcase
        have hkI : (k : Int) ≤ (L : Int) := by omega
        clear hq hU hUall hcase d0 d1 d2 d3
        go_wp2_with fail
        refine hQ2.out.mono ?_
        rintro e w2 ⟨v1, kv, v2, rfl, h1, h2, h3, hU2⟩
        obtain ⟨ak1, ck1, av1, cv1, ac1, cc1, kvs1, vvs1, rfl, hn1⟩ := h1
        obtain ⟨ak2, ck2, av2, cv2, ac2, cc2, kvs2, vvs2, rfl, hn2⟩ := h3
        obtain ⟨pk, qk, rfl, -⟩ := h2.open
        unfold nodeV
        obtain ⟨F1, hF1⟩ : ∃ F1, F1 = fstN x k := ⟨_, rfl⟩
        obtain ⟨F2, hF2⟩ : ∃ F2, F2 = sndN x k := ⟨_, rfl⟩
        rw [← hF1] at hn1 ⊢
        rw [← hF2] at hn2 ⊢
        have g1 : F1.leaf = x.leaf := by rw [hF1]; exact fstN_leaf x k
        have g2 : F2.leaf = x.leaf := by rw [hF2]; exact sndN_leaf x k
        rw [HLF.out] at g1 g2
        rw [g1, g2]
        have z1 := fun (wz : World) (hz : Ext w2 wz) => size_any F1 ak1 av1 ac1 ck1 cv1 cc1 kvs1 vvs1 wz (hn1.ext hz) (by rw [hF1]; exact fstN_small HS.out k) (by rw [hF1]; exact fstN_vals HX.out k)
        have z2 := fun (wz : World) (hz : Ext w2 wz) => size_any F2 ak2 av2 ac2 ck2 cv2 cc2 kvs2 vvs2 wz (hn2.ext hz) (by rw [hF2]; exact sndN_small HS.out k) (by rw [hF2]; exact sndN_vals HX.out k)
        have hmx : mxK x k = max (nsize F1) (nsize F2) := by rw [hF1, hF2]; rfl
        unfold nodeV at z1 z2
        rw [g1] at z1
        rw [g2] at z2
        have Z1 := Lib.hid z1
        have Z2 := Lib.hid z2
        have HMX := Lib.hid hmx
        have HU2 := Lib.hid hU2
        have HB := HSZ.out k hk1 hlt
        rw [hmx] at HB
        clear z1 z2 hmx hU2 hn1 hn2 h2 hF1 hF2 g1 g2
        obtain ⟨W10, hW10⟩ : ∃ W10, W10 = (w2.alloc (.cells #[.bool false, .slice ak1 F1.keys.length ck1, .slice av1 F1.vals.length cv1, .slice ac1 F1.kids.length cc1] 144)).alloc (.cells #[.bool false, .slice ak2 F2.keys.length ck2, .slice av2 F2.vals.length cv2, .slice ac2 F2.kids.length cc2] 144) := ⟨_, rfl⟩
        have hE10 : Ext w2 W10.drew := by rw [hW10]; exact (((Upd.refl _ w2).alloc _).alloc _).drew
        have hk1' : W10.drew.heap[w2.heap.size]? = some (.cells #[.bool false, .slice ak1 F1.keys.length ck1, .slice av1 F1.vals.length cv1, .slice ac1 F1.kids.length cc1] 144 (0, 0)) := by
          rw [hW10]; exact ((Upd.refl (fun _ => False) _).alloc _).drew.heap (heap_alloc_new w2 _) (fun f => f)
        have hk2' : W10.drew.heap[w2.heap.size + 1]? = some (.cells #[.bool false, .slice ak2 F2.keys.length ck2, .slice av2 F2.vals.length cv2, .slice ac2 F2.kids.length cc2] 144 (0, 0)) := by
          rw [hW10]
          have := heap_alloc_new (w2.alloc (.cells #[.bool false, .slice ak1 F1.keys.length ck1, .slice av1 F1.vals.length cv1, .slice ac1 F1.kids.length cc1] 144)) (.cells #[.bool false, .slice ak2 F2.keys.length ck2, .slice av2 F2.vals.length cv2, .slice ac2 F2.kids.length cc2] 144)
          have e : (w2.alloc (.cells #[.bool false, .slice ak1 F1.keys.length ck1, .slice av1 F1.vals.length cv1, .slice ac1 F1.kids.length cc1] 144)).heap.size = w2.heap.size + 1 := by simp
          rw [e] at this
          exact this
        have hS0 : W10.drew.cell? ⟨w2.heap.size, 0, none⟩ = some (.bool false) ∧ W10.drew.cell? ⟨w2.heap.size, 1, none⟩ = some (.slice ak1 F1.keys.length ck1) ∧ W10.drew.cell? ⟨w2.heap.size, 2, none⟩ = some (.slice av1 F1.vals.length cv1) ∧ W10.drew.cell? ⟨w2.heap.size, 3, none⟩ = some (.slice ac1 F1.kids.length cc1) ∧ W10.drew.cell? ⟨w2.heap.size + 1, 0, none⟩ = some (.bool false) ∧ W10.drew.cell? ⟨w2.heap.size + 1, 1, none⟩ = some (.slice ak2 F2.keys.length ck2) ∧ W10.drew.cell? ⟨w2.heap.size + 1, 2, none⟩ = some (.slice av2 F2.vals.length cv2) ∧ W10.drew.cell? ⟨w2.heap.size + 1, 3, none⟩ = some (.slice ac2 F2.kids.length cc2) := ⟨one_cells hk1' 0 _ rfl, one_cells hk1' 1 _ rfl, one_cells hk1' 2 _ rfl, one_cells hk1' 3 _ rfl, one_cells hk2' 0 _ rfl, one_cells hk2' 1 _ rfl, one_cells hk2' 2 _ rfl, one_cells hk2' 3 _ rfl⟩
        have HE10 := Lib.hid hE10
        obtain ⟨y1, hy1⟩ : ∃ y, y = nsize F1 := ⟨_, rfl⟩
        obtain ⟨y2, hy2⟩ : ∃ y, y = nsize F2 := ⟨_, rfl⟩
        have ZZ1 := Z1.out
        have ZZ2 := Z2.out
        have HM := HMX.out
        rw [← hy1] at ZZ1 HB HM
        rw [← hy2] at ZZ2 HB HM
        have Z1 := Lib.hid ZZ1
        have Z2 := Lib.hid ZZ2
        obtain ⟨m, hm⟩ : ∃ m, m = max y1 y2 := ⟨_, rfl⟩
        have hmxv : (if y1 < y2 then (y2 : Int) else (y1 : Int)) = (m : Int) := by rw [hm]; split <;> omega
        rw [← hm] at HB HM
        clear hm
        have HMX := Lib.hid HM
        clear hE10 hk1' hk2' hy1 hy2 ZZ1 ZZ2 HM
        go_wp2_with fail
        rw [← hW10]
        clear hW10
        go_region_held3 (fun w' => w'.cell? ⟨w2.heap.size, 0, none⟩ = some (.bool false) ∧ w'.cell? ⟨w2.heap.size, 1, none⟩ = some (.slice ak1 F1.keys.length ck1) ∧ w'.cell? ⟨w2.heap.size, 2, none⟩ = some (.slice av1 F1.vals.length cv1) ∧ w'.cell? ⟨w2.heap.size, 3, none⟩ = some (.slice ac1 F1.kids.length cc1) ∧ w'.cell? ⟨w2.heap.size + 1, 0, none⟩ = some (.bool false) ∧ w'.cell? ⟨w2.heap.size + 1, 1, none⟩ = some (.slice ak2 F2.keys.length ck2) ∧ w'.cell? ⟨w2.heap.size + 1, 2, none⟩ = some (.slice av2 F2.vals.length cv2) ∧ w'.cell? ⟨w2.heap.size + 1, 3, none⟩ = some (.slice ac2 F2.kids.length cc2))
          (first
            | assumption
            | go_keep)
          (first
            | (go_at_call 74
               refine (Z2.out _ (HE10.out.trans HA.out (fun _ f => f.elim))).mono ?_
               rintro e wb ⟨rfl, hUb⟩
               have hSb : wb.cell? ⟨w2.heap.size, 0, none⟩ = some (.bool false) ∧ wb.cell? ⟨w2.heap.size, 1, none⟩ = some (.slice ak1 F1.keys.length ck1) ∧ wb.cell? ⟨w2.heap.size, 2, none⟩ = some (.slice av1 F1.vals.length cv1) ∧ wb.cell? ⟨w2.heap.size, 3, none⟩ = some (.slice ac1 F1.kids.length cc1) ∧ wb.cell? ⟨w2.heap.size + 1, 0, none⟩ = some (.bool false) ∧ wb.cell? ⟨w2.heap.size + 1, 1, none⟩ = some (.slice ak2 F2.keys.length ck2) ∧ wb.cell? ⟨w2.heap.size + 1, 2, none⟩ = some (.slice av2 F2.vals.length cv2) ∧ wb.cell? ⟨w2.heap.size + 1, 3, none⟩ = some (.slice ac2 F2.kids.length cc2) := ⟨hUb.cell hSa.1 (fun f => f), hUb.cell hSa.2.1 (fun f => f), hUb.cell hSa.2.2.1 (fun f => f), hUb.cell hSa.2.2.2.1 (fun f => f), hUb.cell hSa.2.2.2.2.1 (fun f => f), hUb.cell hSa.2.2.2.2.2.1 (fun f => f), hUb.cell hSa.2.2.2.2.2.2.1 (fun f => f), hUb.cell hSa.2.2.2.2.2.2.2 (fun f => f)⟩
               have HBB := Lib.hid hUb
               clear hUb)
            | (go_at_call 74
               refine (Z1.out _ HE10.out).mono ?_
               rintro e wa ⟨rfl, hUa⟩
               have hSa : wa.cell? ⟨w2.heap.size, 0, none⟩ = some (.bool false) ∧ wa.cell? ⟨w2.heap.size, 1, none⟩ = some (.slice ak1 F1.keys.length ck1) ∧ wa.cell? ⟨w2.heap.size, 2, none⟩ = some (.slice av1 F1.vals.length cv1) ∧ wa.cell? ⟨w2.heap.size, 3, none⟩ = some (.slice ac1 F1.kids.length cc1) ∧ wa.cell? ⟨w2.heap.size + 1, 0, none⟩ = some (.bool false) ∧ wa.cell? ⟨w2.heap.size + 1, 1, none⟩ = some (.slice ak2 F2.keys.length ck2) ∧ wa.cell? ⟨w2.heap.size + 1, 2, none⟩ = some (.slice av2 F2.vals.length cv2) ∧ wa.cell? ⟨w2.heap.size + 1, 3, none⟩ = some (.slice ac2 F2.kids.length cc2) := ⟨hUa.cell hS0.1 (fun f => f), hUa.cell hS0.2.1 (fun f => f), hUa.cell hS0.2.2.1 (fun f => f), hUa.cell hS0.2.2.2.1 (fun f => f), hUa.cell hS0.2.2.2.2.1 (fun f => f), hUa.cell hS0.2.2.2.2.2.1 (fun f => f), hUa.cell hS0.2.2.2.2.2.2.1 (fun f => f), hUa.cell hS0.2.2.2.2.2.2.2 (fun f => f)⟩
               have HA := Lib.hid hUa
               clear hUa))
        have HEE := Lib.hid ((HU2.out.trans HE10.out (fun _ f => f.elim)).trans (HA.out.trans HBB.out (fun _ f => f.elim)) (fun _ f => f.elim))
        clear hSb hS0
        have hUn := HU.out.trans HEE.out (fun _ f => f.elim)
        have HUN := Lib.hid hUn
        clear hUn
        by_cases hb0 : b = 0
        · subst hb0
          go_wp2_with fail
          go_roundw
          case rel => exact ⟨k, m, k + 1, rfl, rfl, by go_num, by omega, by omega, HUN.out, HB, .inr ⟨hk1, by omega, HMX.out.symm, fun j hj1 hj2 => by
            rcases HC.out with ⟨h1, h2⟩ | ⟨h1, h2, h3, h4⟩
            · have : j = k := by omega
              subst this; exact Nat.le_refl _
            · omega⟩⟩
          case measure => simp [intOf]; omega
        · have hb0I : ¬ ((b : Int) = 0) := by omega
          have hb1 : 1 ≤ b := by omega
          have hC2 := HC.out
          have HC2 : Hid (b < k ∧ s = mxK x b ∧ ∀ j, 1 ≤ j → j < k → mxK x b ≤ mxK x j) := Lib.hid (by rcases hC2 with ⟨h1, h2⟩ | ⟨h1, h2, h3, h4⟩; exact absurd h2 hb0; exact ⟨h2, h3, h4⟩)
          clear hC2
          by_cases hms : m < s
          · have hmsI : (m : Int) < (s : Int) := by omega
            go_wp2_with fail
            go_roundw
            case rel => exact ⟨k, m, k + 1, rfl, rfl, by go_num, by omega, by omega, HUN.out, HB, .inr ⟨hk1, by omega, HMX.out.symm, fun j hj1 hj2 => by
              obtain ⟨h2, h3, h4⟩ := HC2.out
              by_cases hjk : j = k
              · subst hjk; exact Nat.le_refl _
              · have h5 := h4 j hj1 (by omega)
                have h6 := HMX.out
                omega⟩⟩
            case measure => simp [intOf]; omega
          · have hmsI : ¬ (m : Int) < (s : Int) := by omega
            go_wp2_with fail
            go_roundw
            case rel => exact ⟨b, s, k + 1, rfl, rfl, by go_num, by omega, by omega, HUN.out, hsb, .inr ⟨hb1, by have := HC2.out.1; omega, HC2.out.2.1, fun j hj1 hj2 => by
              obtain ⟨h2, h3, h4⟩ := HC2.out
              by_cases hjk : j = k
              · subst hjk
                have h6 := HMX.out
                omega
              · exact h4 j hj1 (by omega)⟩⟩
            case measure => simp [intOf]; omega
      · have hkL : k = L + 1 := by omega
        subst hkL
        obtain ⟨hb1, hb2, hs2, hmin⟩ : 1 ≤ b ∧ b < L + 1 ∧ s = mxK x b ∧ ∀ j, 1 ≤ j → j < L + 1 → mxK x b ≤ mxK x j := by
          rcases hcase with ⟨h1, h2⟩ | h
          · omega
          · exact h
        have hq := Q2.out wr b hUall hb1 (by omega)
        rw [HLF.out] at hq
        obtain ⟨K, hK⟩ : ∃ K, K = x.keys.getD b [] := ⟨_, rfl⟩
        rw [← hK] at hq
        have HK := Lib.hid hK
        clear hK
        have hQ2 := Lib.hid hq
        have HU := Lib.hid hU
        have HUA := Lib.hid hUall
        have HMIN := Lib.hid hmin
        have hkI : ¬ ((L : Int) + 1 ≤ (L : Int)) := by omega
        have hkI2 : ¬ (((L + 1 : Nat) : Int) ≤ (L : Int)) := by omega
        clear hq hU hUall hcase d0 d1 d2 d3 hs2 hmin
        go_wp2_with fail
        refine hQ2.out.mono ?_
        rintro e w2 ⟨v1, kv, v2, rfl, h1, h2, h3, hU2⟩
        obtain ⟨ak1, ck1, av1, cv1, ac1, cc1, kvs1, vvs1, rfl, hn1⟩ := h1
        obtain ⟨ak2, ck2, av2, cv2, ac2, cc2, kvs2, vvs2, rfl, hn2⟩ := h3
        obtain ⟨pk, qk, rfl, -⟩ := h2.open
        unfold nodeV
        obtain ⟨F1, hF1⟩ : ∃ F1, F1 = fstN x b := ⟨_, rfl⟩
        obtain ⟨F2, hF2⟩ : ∃ F2, F2 = sndN x b := ⟨_, rfl⟩
        have hsm1 : Small F1 := by rw [hF1]; exact fstN_small HS.out b
        have hsm2 : Small F2 := by rw [hF2]; exact sndN_small HS.out b
        have hkl : K.length ≤ 4000 := by have := HS.out.k b; rw [← HK.out] at this; exact this
        rw [← hF1] at hn1 ⊢
        rw [← hF2] at hn2 ⊢
        have g1 : F1.leaf = x.leaf := by rw [hF1]; exact fstN_leaf x b
        have g2 : F2.leaf = x.leaf := by rw [hF2]; exact sndN_leaf x b
        rw [HLF.out] at g1 g2
        rw [g1, g2]
        have z1 := fun (wz : World) (hz : Ext w2 wz) => own_any F1 ak1 av1 ac1 ck1 cv1 cc1 kvs1 vvs1 wz (hn1.ext hz) hsm1
        have z2 := fun (wz : World) (hz : Ext w2 wz) => own_any F2 ak2 av2 ac2 ck2 cv2 cc2 kvs2 vvs2 wz (hn2.ext hz) hsm2
        have z3 := fun (wz : World) (hz : Ext w2 wz) => cloneb_any (.slice pk K.length qk) K wz (h2.ext hz) (by omega)
        unfold nodeV at z1 z2
        rw [g1] at z1
        rw [g2] at z2
        have Z1 := Lib.hid z1
        have Z2 := Lib.hid z2
        have Z3 := Lib.hid z3
        have HF := Lib.hid (And.intro hF1 hF2)
        obtain ⟨W10, hW10⟩ : ∃ W10, W10 = (w2.alloc (.cells #[.bool false, .slice ak1 F1.keys.length ck1, .slice av1 F1.vals.length cv1, .slice ac1 F1.kids.length cc1] 144)).alloc (.cells #[.bool false, .slice ak2 F2.keys.length ck2, .slice av2 F2.vals.length cv2, .slice ac2 F2.kids.length cc2] 144) := ⟨_, rfl⟩
        have hE10 : Ext w2 W10.drew := by rw [hW10]; exact (((Upd.refl _ w2).alloc _).alloc _).drew
        have hk1' : W10.drew.heap[w2.heap.size]? = some (.cells #[.bool false, .slice ak1 F1.keys.length ck1, .slice av1 F1.vals.length cv1, .slice ac1 F1.kids.length cc1] 144 (0, 0)) := by
          rw [hW10]; exact ((Upd.refl (fun _ => False) _).alloc _).drew.heap (heap_alloc_new w2 _) (fun f => f)
        have hk2' : W10.drew.heap[w2.heap.size + 1]? = some (.cells #[.bool false, .slice ak2 F2.keys.length ck2, .slice av2 F2.vals.length cv2, .slice ac2 F2.kids.length cc2] 144 (0, 0)) := by
          rw [hW10]
          have := heap_alloc_new (w2.alloc (.cells #[.bool false, .slice ak1 F1.keys.length ck1, .slice av1 F1.vals.length cv1, .slice ac1 F1.kids.length cc1] 144)) (.cells #[.bool false, .slice ak2 F2.keys.length ck2, .slice av2 F2.vals.length cv2, .slice ac2 F2.kids.length cc2] 144)
          have e : (w2.alloc (.cells #[.bool false, .slice ak1 F1.keys.length ck1, .slice av1 F1.vals.length cv1, .slice ac1 F1.kids.length cc1] 144)).heap.size = w2.heap.size + 1 := by simp
          rw [e] at this
          exact this
        have hS0 : W10.drew.cell? ⟨w2.heap.size, 0, none⟩ = some (.bool false) ∧ W10.drew.cell? ⟨w2.heap.size, 1, none⟩ = some (.slice ak1 F1.keys.length ck1) ∧ W10.drew.cell? ⟨w2.heap.size, 2, none⟩ = some (.slice av1 F1.vals.length cv1) ∧ W10.drew.cell? ⟨w2.heap.size, 3, none⟩ = some (.slice ac1 F1.kids.length cc1) ∧ W10.drew.cell? ⟨w2.heap.size + 1, 0, none⟩ = some (.bool false) ∧ W10.drew.cell? ⟨w2.heap.size + 1, 1, none⟩ = some (.slice ak2 F2.keys.length ck2) ∧ W10.drew.cell? ⟨w2.heap.size + 1, 2, none⟩ = some (.slice av2 F2.vals.length cv2) ∧ W10.drew.cell? ⟨w2.heap.size + 1, 3, none⟩ = some (.slice ac2 F2.kids.length cc2) := ⟨one_cells hk1' 0 _ rfl, one_cells hk1' 1 _ rfl, one_cells hk1' 2 _ rfl, one_cells hk1' 3 _ rfl, one_cells hk2' 0 _ rfl, one_cells hk2' 1 _ rfl, one_cells hk2' 2 _ rfl, one_cells hk2' 3 _ rfl⟩
        have hEall : Ext W1 W10.drew := ((HU12.out.trans HU.out (fun _ f => f.elim)).trans hU2 (fun _ f => f.elim)).trans hE10 (fun _ f => f.elim)
        obtain ⟨B1, hB1⟩ : ∃ B, B = w.heap.size + 1 := ⟨_, rfl⟩
        obtain ⟨B2, hB2⟩ : ∃ B, B = w.heap.size + 1 + 1 := ⟨_, rfl⟩
        have hrA := hEall.heap HR.out.1 (fun f => f)
        have hrB := hEall.heap HR.out.2 (fun f => f)
        have eB2 : w.heap.size + 2 = B2 := hB2.symm
        rw [← hB1] at hrA
        rw [eB2] at hrB
        have HR1 := Lib.hid hrA
        have HR2 := Lib.hid hrB
        clear hrA hrB
        have hszz := hEall.size
        have hsz2 := ((HU12.out.trans HU.out (fun _ f => f.elim)).trans hU2 (fun _ f => f.elim)).size
        have HEALL := Lib.hid (HUW.out.trans hEall (fun _ f => f.elim))
        have hr2lt := heap_lt HR.out.2
        have HE10 := Lib.hid hE10
        have HU2 := Lib.hid hU2
        have m1 : B1 ≠ w2.heap.size := by omega
        have m2 : B2 ≠ w2.heap.size := by omega
        have m3 : B1 ≠ w2.heap.size + 1 := by omega
        have m4 : B2 ≠ w2.heap.size + 1 := by omega
        have m5 : B1 ≠ B2 := by omega
        have m6 : B2 ≠ B1 := by omega
        have HB12 := Lib.hid (And.intro hB1 hB2)
        clear hB1 hB2 eB2
        clear hE10 hk1' hk2' z1 z2 z3 hU2 hn1 hn2 h2 hF1 hF2 g1 g2 hEall hsm1 hsm2
        go_wp2_with fail
        rw [← hW10, ← HB12.out.2, ← HB12.out.1]
        clear hW10
        have HBD := Lib.hid (And.intro hb1 (And.intro hb2 (And.intro hszz (And.intro hsz2 hr2lt))))
        clear r0 r1 r2 r3 hlt hk1 hk2 hsb hb1 hb2 hszz hsz2 hr2lt e0 hlt0 hkI hkI2 hl1I hkl hl1 hLn hn
        have f1 : w2.heap.size ≠ B1 := m1.symm
        have f2 : w2.heap.size ≠ B2 := m2.symm
        have f3 : w2.heap.size + 1 ≠ B1 := m3.symm
        have f4 : w2.heap.size + 1 ≠ B2 := m4.symm
        obtain ⟨s0, s1, s2, s3, s4, s5, s6, s7⟩ := hS0
        go_region_law (first
          | (go_simp
             first
             | (go_at_call 51
                refine (Z3.out _ (HE10.out.trans HA.out.2 (fun _ f => f.elim))).mono ?_
                rintro e wb ⟨vb, rfl, hob, hnb, hUb⟩
                have hbb : Bts wb vb K := own_rd hob
                have hbb' := hbb
                obtain ⟨pb, qb, rfl, -⟩ := hbb'.open
                have q4 := hUb.cell p4 (fun f => f)
                have q5 := hUb.cell p5 (fun f => f)
                have q6 := hUb.cell p6 (fun f => f)
                have q7 := hUb.cell p7 (fun f => f)
                have HBB := Lib.hid (And.intro hbb hUb)
                clear hob hnb hUb hbb hbb' p4 p5 p6 p7)
             | (go_at_call 105
                refine (Z2.out _ (HE10.out.trans (HA.out.2.trans HBB.out.2 (fun _ f => f.elim)) (fun _ f => f.elim))).mono ?_
                rintro e wc ⟨sk2, sv2, sc2, kvs2', vvs2', rfl, hno2, hUc⟩
                obtain ⟨a1, b1, a2, b2, a3, b3, rfl, rfl, rfl, -⟩ := hno2.node
                have HCC := Lib.hid (And.intro hno2 hUc)
                have hrr := (HA.out.2.trans HBB.out.2 (fun _ f => f.elim)).trans hUc (fun _ f => f.elim)
                have hh1 := hrr.heap HR1.out (fun f => f)
                have hh2 := hrr.heap HR2.out (fun f => f)
                have y0 := one_cells hh1 0 _ rfl
                have y1 := one_cells hh1 1 _ rfl
                have y2 := one_cells hh1 2 _ rfl
                have y3 := one_cells hh1 3 _ rfl
                have t0 := one_cells hh2 0 _ rfl
                have t1 := one_cells hh2 1 _ rfl
                have t2 := one_cells hh2 2 _ rfl
                have t3 := one_cells hh2 3 _ rfl
                have yf0 : wc.frozen? ⟨B1, 0, none⟩ = false := frozen_heap hh1
                have yf1 : wc.frozen? ⟨B1, 1, none⟩ = false := frozen_heap hh1
                have yf2 : wc.frozen? ⟨B1, 2, none⟩ = false := frozen_heap hh1
                have yf3 : wc.frozen? ⟨B1, 3, none⟩ = false := frozen_heap hh1
                have tf0 : wc.frozen? ⟨B2, 0, none⟩ = false := frozen_heap hh2
                have tf1 : wc.frozen? ⟨B2, 1, none⟩ = false := frozen_heap hh2
                have tf2 : wc.frozen? ⟨B2, 2, none⟩ = false := frozen_heap hh2
                have tf3 : wc.frozen? ⟨B2, 3, none⟩ = false := frozen_heap hh2
                have HNB := Lib.hid (And.intro hh1 hh2)
                clear hno2 hUc hrr hh1 hh2 q4 q5 q6 q7)
             | (go_at_call 105
                refine (Z1.out _ HE10.out).mono ?_
                rintro e wa ⟨sk1, sv1, sc1, kvs1', vvs1', rfl, hno1, hUa⟩
                obtain ⟨x1, w1, x2, w2', x3, w3, rfl, rfl, rfl, -⟩ := hno1.node
                have p4 := hUa.cell s4 (fun f => f)
                have p5 := hUa.cell s5 (fun f => f)
                have p6 := hUa.cell s6 (fun f => f)
                have p7 := hUa.cell s7 (fun f => f)
                have HA := Lib.hid (And.intro hno1 hUa)
                clear hno1 hUa s0 s1 s2 s3 s4 s5 s6 s7)
             dsimp only))
        all_goals
          clear yf0 yf1 yf2 yf3 tf0 tf1 tf2 tf3
          go_wp2_with fail
          refine bodyPost_ret (v := .tuple #[.agg #[.bool false, .slice x1 F1.keys.length w1, .slice x2 F1.vals.length w2', .slice x3 F1.kids.length w3], .slice pb K.length qb, .agg #[.bool false, .slice a1 F2.keys.length b1, .slice a2 F2.vals.length b2, .slice a3 F2.kids.length b3], .bool true]) (by simp [results, Tryz.results75, go_sem, y0, y1, y2, y3, t0, t1, t2, t3]) rfl ?_
          obtain ⟨hno1, hUa⟩ := HA.out
          obtain ⟨hbb, hUb⟩ := HBB.out
          obtain ⟨hno2, hUc⟩ := HCC.out
          obtain ⟨hb1, hb2, hszz, hsz2, hr2lt⟩ := HBD.out
          obtain ⟨hB1, hB2⟩ := HB12.out
          obtain ⟨hF1, hF2⟩ := HF.out
          obtain ⟨hh1, hh2⟩ := HNB.out
          have hUs := upd_set44 wc B1 B2 (.bool false) (.slice x1 F1.keys.length w1) (.slice x2 F1.vals.length w2') (.slice x3 F1.kids.length w3) (.bool false) (.slice a1 F2.keys.length b1) (.slice a2 F2.vals.length b2) (.slice a3 F2.kids.length b3)
          have hsd : W10.drew.heap.size = W10.heap.size := rfl
          have hsa := hUa.size
          have hsb := hUb.size
          have hby : ∀ bb cs fr, (bb = B1 ∨ bb = B2) → wc.heap[bb]? ≠ some (.cells cs 5 fr) := by
            rintro bb cs fr (rfl | rfl) e
            · rw [hh1] at e; simp at e
            · rw [hh2] at e; simp at e
          have hn1 : NOwn wc w.heap.size (.slice x1 F1.keys.length w1) (.slice x2 F1.vals.length w2') (.slice x3 F1.kids.length w3) kvs1' vvs1' F1 := ((hno1.ext hUb).ext hUc).mono (by omega)
          have hn2 : NOwn wc w.heap.size (.slice a1 F2.keys.length b1) (.slice a2 F2.vals.length b2) (.slice a3 F2.kids.length b3) kvs2' vvs2' F2 := hno2.mono (by omega)
          have hr1 := hn1.upd hUs (fun k hk e => by have := hno1.kb k hk; omega) (fun k hk e => by have := hno1.vb k hk; omega) (fun k hk e => by have := hno1.cb k hk; omega) hby
          have hr2 := hn2.upd hUs (fun k hk e => by have := hno2.kb k hk; omega) (fun k hk e => by have := hno2.vb k hk; omega) (fun k hk e => by have := hno2.cb k hk; omega) hby
          refine ⟨b, hb1, by omega, fun j h1 h2 => HMIN.out j h1 (by omega), _, _, _, _, _, _, _, _, _, _, _, rfl, by rw [← hF1]; exact hr1, by rw [← HK.out]; exact (hbb.ext hUc).upd hUs hby, by rw [← hF2]; exact hr2, ?_⟩
          exact (((HEALL.out.trans hUa (fun _ f => f.elim)).trans hUb (fun _ f => f.elim)).trans hUc (fun _ f => f.elim)).trans hUs (fun i hi => .inr (by omega))
  | true =>
    rw [hl] at c0 hLc
    simp only [if_true] at hLc
    have HLF := Lib.hid hl
    have hq := Q1.out
    rw [hl] at hq
    have HQ := Lib.hid hq
    have hw := HW.out
    rw [hl] at hw
    have HWW := Lib.hid hw
    have HLC := Lib.hid hLc
    clear hq hw hl
    have e0 : 2 ≤ x.keys.length := by omega
    have e1 : IntKind.i64.wrap ((x.keys.length : Int) - 1) = ((x.keys.length - 1 : Nat) : Int) := by rw [IntKind.wrap_i64]; omega
    have e2 : IntKind.i64.wrap (((x.keys.length - 1 : Nat) : Int) - 1) = ((x.keys.length - 2 : Nat) : Int) := by rw [IntKind.wrap_i64]; omega
    clear hLc
    go_enter Tryz.func75, Tryz.ntmps75
    go_wp2_with fail
    rw [← HWW.out.1, ← HWW.out.2, ← HLC.out]
    refine HQ.out.mono ?_
    rintro e W2 ⟨rfl, hU12⟩
    have d0 := hU12.cell c0 (fun f => f)
    have d1 := hU12.cell c1 (fun f => f)
    have d2 := hU12.cell c2 (fun f => f)
    have d3 := hU12.cell c3 (fun f => f)
    have HU12 := Lib.hid hU12
    have hl1I : ¬ ((L : Int) < 1) := by omega
    clear hU12 c0 c1 c2 c3 e1 e2
    go_wp2_with fail
    go_loopw [7, 8, 9] (fun bb ss i wr => ∃ (b s k : Nat), bb = .int .i64 b ∧ ss = .int .i64 s ∧ i = .int .i64 k ∧ 1 ≤ k ∧ k ≤ L + 1 ∧ Ext W2 wr ∧ s ≤ 100000000 ∧ ((k = 1 ∧ b = 0) ∨ (1 ≤ b ∧ b < k ∧ s = mxK x b ∧ ∀ j, 1 ≤ j → j < k → mxK x b ≤ mxK x j))) (fun _ _ i _ => L + 1 - (intOf i).toNat)
    case atStart => exact ⟨0, 0, 1, rfl, rfl, rfl, by omega, by omega, Upd.refl _ _, by omega, .inl ⟨rfl, rfl⟩⟩
    case round =>
      obtain ⟨b, s, k, rfl, rfl, rfl, hk1, hk2, hU, hsb, hcase⟩ := hrel
      have r0 := hU.cell d0 (fun f => f)
      have r1 := hU.cell d1 (fun f => f)
      have r2 := hU.cell d2 (fun f => f)
      have r3 := hU.cell d3 (fun f => f)
      have hUall := (HUW.out.trans HU12.out (fun _ f => f.elim)).trans hU (fun _ f => f.elim)
      by_cases hlt : k ≤ L
      · have hq := Q2.out wr k hUall hk1 hlt
        rw [HLF.out] at hq
        have hQ2 := Lib.hid hq
        have HU := Lib.hid hU
        have HUA := Lib.hid hUall
        have HC := Lib.hid hcase
        have hkI : (k : Int) ≤ (L : Int) := by omega
        clear hq hU hUall hcase d0 d1 d2 d3
        go_wp2_with fail
        refine hQ2.out.mono ?_
        rintro e w2 ⟨v1, kv, v2, rfl, h1, h2, h3, hU2⟩
        obtain ⟨ak1, ck1, av1, cv1, ac1, cc1, kvs1, vvs1, rfl, hn1⟩ := h1
        obtain ⟨ak2, ck2, av2, cv2, ac2, cc2, kvs2, vvs2, rfl, hn2⟩ := h3
        obtain ⟨pk, qk, rfl, -⟩ := h2.open
        unfold nodeV
        obtain ⟨F1, hF1⟩ : ∃ F1, F1 = fstN x k := ⟨_, rfl⟩
        obtain ⟨F2, hF2⟩ : ∃ F2, F2 = sndN x k := ⟨_, rfl⟩
        rw [← hF1] at hn1 ⊢
        rw [← hF2] at hn2 ⊢
        have g1 : F1.leaf = x.leaf := by rw [hF1]; exact fstN_leaf x k
        have g2 : F2.leaf = x.leaf := by rw [hF2]; exact sndN_leaf x k
        rw [HLF.out] at g1 g2
        rw [g1, g2]
        have z1 := fun (wz : World) (hz : Ext w2 wz) => size_any F1 ak1 av1 ac1 ck1 cv1 cc1 kvs1 vvs1 wz (hn1.ext hz) (by rw [hF1]; exact fstN_small HS.out k) (by rw [hF1]; exact fstN_vals HX.out k)
        have z2 := fun (wz : World) (hz : Ext w2 wz) => size_any F2 ak2 av2 ac2 ck2 cv2 cc2 kvs2 vvs2 wz (hn2.ext hz) (by rw [hF2]; exact sndN_small HS.out k) (by rw [hF2]; exact sndN_vals HX.out k)
        have hmx : mxK x k = max (nsize F1) (nsize F2) := by rw [hF1, hF2]; rfl
        unfold nodeV at z1 z2
        rw [g1] at z1
        rw [g2] at z2
        have Z1 := Lib.hid z1
        have Z2 := Lib.hid z2
        have HMX := Lib.hid hmx
        have HU2 := Lib.hid hU2
        have HB := HSZ.out k hk1 hlt
        rw [hmx] at HB
        clear z1 z2 hmx hU2 hn1 hn2 h2 hF1 hF2 g1 g2
        obtain ⟨W10, hW10⟩ : ∃ W10, W10 = (w2.alloc (.cells #[.bool true, .slice ak1 F1.keys.length ck1, .slice av1 F1.vals.length cv1, .slice ac1 F1.kids.length cc1] 144)).alloc (.cells #[.bool true, .slice ak2 F2.keys.length ck2, .slice av2 F2.vals.length cv2, .slice ac2 F2.kids.length cc2] 144) := ⟨_, rfl⟩
        have hE10 : Ext w2 W10.drew := by rw [hW10]; exact (((Upd.refl _ w2).alloc _).alloc _).drew
        have hk1' : W10.drew.heap[w2.heap.size]? = some (.cells #[.bool true, .slice ak1 F1.keys.length ck1, .slice av1 F1.vals.length cv1, .slice ac1 F1.kids.length cc1] 144 (0, 0)) := by
          rw [hW10]; exact ((Upd.refl (fun _ => False) _).alloc _).drew.heap (heap_alloc_new w2 _) (fun f => f)
        have hk2' : W10.drew.heap[w2.heap.size + 1]? = some (.cells #[.bool true, .slice ak2 F2.keys.length ck2, .slice av2 F2.vals.length cv2, .slice ac2 F2.kids.length cc2] 144 (0, 0)) := by
          rw [hW10]
          have := heap_alloc_new (w2.alloc (.cells #[.bool true, .slice ak1 F1.keys.length ck1, .slice av1 F1.vals.length cv1, .slice ac1 F1.kids.length cc1] 144)) (.cells #[.bool true, .slice ak2 F2.keys.length ck2, .slice av2 F2.vals.length cv2, .slice ac2 F2.kids.length cc2] 144)
          have e : (w2.alloc (.cells #[.bool true, .slice ak1 F1.keys.length ck1, .slice av1 F1.vals.length cv1, .slice ac1 F1.kids.length cc1] 144)).heap.size = w2.heap.size + 1 := by simp
          rw [e] at this
          exact this
        have hS0 : W10.drew.cell? ⟨w2.heap.size, 0, none⟩ = some (.bool true) ∧ W10.drew.cell? ⟨w2.heap.size, 1, none⟩ = some (.slice ak1 F1.keys.length ck1) ∧ W10.drew.cell? ⟨w2.heap.size, 2, none⟩ = some (.slice av1 F1.vals.length cv1) ∧ W10.drew.cell? ⟨w2.heap.size, 3, none⟩ = some (.slice ac1 F1.kids.length cc1) ∧ W10.drew.cell? ⟨w2.heap.size + 1, 0, none⟩ = some (.bool true) ∧ W10.drew.cell? ⟨w2.heap.size + 1, 1, none⟩ = some (.slice ak2 F2.keys.length ck2) ∧ W10.drew.cell? ⟨w2.heap.size + 1, 2, none⟩ = some (.slice av2 F2.vals.length cv2) ∧ W10.drew.cell? ⟨w2.heap.size + 1, 3, none⟩ = some (.slice ac2 F2.kids.length cc2) := ⟨one_cells hk1' 0 _ rfl, one_cells hk1' 1 _ rfl, one_cells hk1' 2 _ rfl, one_cells hk1' 3 _ rfl, one_cells hk2' 0 _ rfl, one_cells hk2' 1 _ rfl, one_cells hk2' 2 _ rfl, one_cells hk2' 3 _ rfl⟩
        have HE10 := Lib.hid hE10
        obtain ⟨y1, hy1⟩ : ∃ y, y = nsize F1 := ⟨_, rfl⟩
        obtain ⟨y2, hy2⟩ : ∃ y, y = nsize F2 := ⟨_, rfl⟩
        have ZZ1 := Z1.out
        have ZZ2 := Z2.out
        have HM := HMX.out
        rw [← hy1] at ZZ1 HB HM
        rw [← hy2] at ZZ2 HB HM
        have Z1 := Lib.hid ZZ1
        have Z2 := Lib.hid ZZ2
        obtain ⟨m, hm⟩ : ∃ m, m = max y1 y2 := ⟨_, rfl⟩
        have hmxv : (if y1 < y2 then (y2 : Int) else (y1 : Int)) = (m : Int) := by rw [hm]; split <;> omega
        rw [← hm] at HB HM
        clear hm
        have HMX := Lib.hid HM
        clear hE10 hk1' hk2' hy1 hy2 ZZ1 ZZ2 HM
        go_wp2_with fail
        rw [← hW10]
        clear hW10
        go_region_held3 (fun w' => w'.cell? ⟨w2.heap.size, 0, none⟩ = some (.bool true) ∧ w'.cell? ⟨w2.heap.size, 1, none⟩ = some (.slice ak1 F1.keys.length ck1) ∧ w'.cell? ⟨w2.heap.size, 2, none⟩ = some (.slice av1 F1.vals.length cv1) ∧ w'.cell? ⟨w2.heap.size, 3, none⟩ = some (.slice ac1 F1.kids.length cc1) ∧ w'.cell? ⟨w2.heap.size + 1, 0, none⟩ = some (.bool true) ∧ w'.cell? ⟨w2.heap.size + 1, 1, none⟩ = some (.slice ak2 F2.keys.length ck2) ∧ w'.cell? ⟨w2.heap.size + 1, 2, none⟩ = some (.slice av2 F2.vals.length cv2) ∧ w'.cell? ⟨w2.heap.size + 1, 3, none⟩ = some (.slice ac2 F2.kids.length cc2))
          (first
            | assumption
            | go_keep)
          (first
            | (go_at_call 74
               refine (Z2.out _ (HE10.out.trans HA.out (fun _ f => f.elim))).mono ?_
               rintro e wb ⟨rfl, hUb⟩
               have hSb : wb.cell? ⟨w2.heap.size, 0, none⟩ = some (.bool true) ∧ wb.cell? ⟨w2.heap.size, 1, none⟩ = some (.slice ak1 F1.keys.length ck1) ∧ wb.cell? ⟨w2.heap.size, 2, none⟩ = some (.slice av1 F1.vals.length cv1) ∧ wb.cell? ⟨w2.heap.size, 3, none⟩ = some (.slice ac1 F1.kids.length cc1) ∧ wb.cell? ⟨w2.heap.size + 1, 0, none⟩ = some (.bool true) ∧ wb.cell? ⟨w2.heap.size + 1, 1, none⟩ = some (.slice ak2 F2.keys.length ck2) ∧ wb.cell? ⟨w2.heap.size + 1, 2, none⟩ = some (.slice av2 F2.vals.length cv2) ∧ wb.cell? ⟨w2.heap.size + 1, 3, none⟩ = some (.slice ac2 F2.kids.length cc2) := ⟨hUb.cell hSa.1 (fun f => f), hUb.cell hSa.2.1 (fun f => f), hUb.cell hSa.2.2.1 (fun f => f), hUb.cell hSa.2.2.2.1 (fun f => f), hUb.cell hSa.2.2.2.2.1 (fun f => f), hUb.cell hSa.2.2.2.2.2.1 (fun f => f), hUb.cell hSa.2.2.2.2.2.2.1 (fun f => f), hUb.cell hSa.2.2.2.2.2.2.2 (fun f => f)⟩
               have HBB := Lib.hid hUb
               clear hUb)
            | (go_at_call 74
               refine (Z1.out _ HE10.out).mono ?_
               rintro e wa ⟨rfl, hUa⟩
               have hSa : wa.cell? ⟨w2.heap.size, 0, none⟩ = some (.bool true) ∧ wa.cell? ⟨w2.heap.size, 1, none⟩ = some (.slice ak1 F1.keys.length ck1) ∧ wa.cell? ⟨w2.heap.size, 2, none⟩ = some (.slice av1 F1.vals.length cv1) ∧ wa.cell? ⟨w2.heap.size, 3, none⟩ = some (.slice ac1 F1.kids.length cc1) ∧ wa.cell? ⟨w2.heap.size + 1, 0, none⟩ = some (.bool true) ∧ wa.cell? ⟨w2.heap.size + 1, 1, none⟩ = some (.slice ak2 F2.keys.length ck2) ∧ wa.cell? ⟨w2.heap.size + 1, 2, none⟩ = some (.slice av2 F2.vals.length cv2) ∧ wa.cell? ⟨w2.heap.size + 1, 3, none⟩ = some (.slice ac2 F2.kids.length cc2) := ⟨hUa.cell hS0.1 (fun f => f), hUa.cell hS0.2.1 (fun f => f), hUa.cell hS0.2.2.1 (fun f => f), hUa.cell hS0.2.2.2.1 (fun f => f), hUa.cell hS0.2.2.2.2.1 (fun f => f), hUa.cell hS0.2.2.2.2.2.1 (fun f => f), hUa.cell hS0.2.2.2.2.2.2.1 (fun f => f), hUa.cell hS0.2.2.2.2.2.2.2 (fun f => f)⟩
               have HA := Lib.hid hUa
               clear hUa))
        have HEE := Lib.hid ((HU2.out.trans HE10.out (fun _ f => f.elim)).trans (HA.out.trans HBB.out (fun _ f => f.elim)) (fun _ f => f.elim))
        clear hSb hS0
        have hUn := HU.out.trans HEE.out (fun _ f => f.elim)
        have HUN := Lib.hid hUn
        clear hUn
        by_cases hb0 : b = 0
        · subst hb0
          go_wp2_with fail
          go_roundw
          case rel => exact ⟨k, m, k + 1, rfl, rfl, by go_num, by omega, by omega, HUN.out, HB, .inr ⟨hk1, by omega, HMX.out.symm, fun j hj1 hj2 => by
            rcases HC.out with ⟨h1, h2⟩ | ⟨h1, h2, h3, h4⟩
            · have : j = k := by omega
              subst this; exact Nat.le_refl _
            · omega⟩⟩
          case measure => simp [intOf]; omega
        · have hb0I : ¬ ((b : Int) = 0) := by omega
          have hb1 : 1 ≤ b := by omega
          have hC2 := HC.out
          have HC2 : Hid (b < k ∧ s = mxK x b ∧ ∀ j, 1 ≤ j → j < k → mxK x b ≤ mxK x j) := Lib.hid (by rcases hC2 with ⟨h1, h2⟩ | ⟨h1, h2, h3, h4⟩; exact absurd h2 hb0; exact ⟨h2, h3, h4⟩)
          clear hC2
          by_cases hms : m < s
          · have hmsI : (m : Int) < (s : Int) := by omega
            go_wp2_with fail
            go_roundw
            case rel => exact ⟨k, m, k + 1, rfl, rfl, by go_num, by omega, by omega, HUN.out, HB, .inr ⟨hk1, by omega, HMX.out.symm, fun j hj1 hj2 => by
              obtain ⟨h2, h3, h4⟩ := HC2.out
              by_cases hjk : j = k
              · subst hjk; exact Nat.le_refl _
              · have h5 := h4 j hj1 (by omega)
                have h6 := HMX.out
                omega⟩⟩
            case measure => simp [intOf]; omega
          · have hmsI : ¬ (m : Int) < (s : Int) := by omega
            go_wp2_with fail
            go_roundw
            case rel => exact ⟨b, s, k + 1, rfl, rfl, by go_num, by omega, by omega, HUN.out, hsb, .inr ⟨hb1, by have := HC2.out.1; omega, HC2.out.2.1, fun j hj1 hj2 => by
              obtain ⟨h2, h3, h4⟩ := HC2.out
              by_cases hjk : j = k
              · subst hjk
                have h6 := HMX.out
                omega
              · exact h4 j hj1 (by omega)⟩⟩
            case measure => simp [intOf]; omega
      · have hkL : k = L + 1 := by omega
        subst hkL
        obtain ⟨hb1, hb2, hs2, hmin⟩ : 1 ≤ b ∧ b < L + 1 ∧ s = mxK x b ∧ ∀ j, 1 ≤ j → j < L + 1 → mxK x b ≤ mxK x j := by
          rcases hcase with ⟨h1, h2⟩ | h
          · omega
          · exact h
        have hq := Q2.out wr b hUall hb1 (by omega)
        rw [HLF.out] at hq
        obtain ⟨K, hK⟩ : ∃ K, K = x.keys.getD b [] := ⟨_, rfl⟩
        rw [← hK] at hq
        have HK := Lib.hid hK
        clear hK
        have hQ2 := Lib.hid hq
        have HU := Lib.hid hU
        have HUA := Lib.hid hUall
        have HMIN := Lib.hid hmin
        have hkI : ¬ ((L : Int) + 1 ≤ (L : Int)) := by omega
        have hkI2 : ¬ (((L + 1 : Nat) : Int) ≤ (L : Int)) := by omega
        clear hq hU hUall hcase d0 d1 d2 d3 hs2 hmin
        go_wp2_with fail
        refine hQ2.out.mono ?_
        rintro e w2 ⟨v1, kv, v2, rfl, h1, h2, h3, hU2⟩
        obtain ⟨ak1, ck1, av1, cv1, ac1, cc1, kvs1, vvs1, rfl, hn1⟩ := h1
        obtain ⟨ak2, ck2, av2, cv2, ac2, cc2, kvs2, vvs2, rfl, hn2⟩ := h3
        obtain ⟨pk, qk, rfl, -⟩ := h2.open
        unfold nodeV
        obtain ⟨F1, hF1⟩ : ∃ F1, F1 = fstN x b := ⟨_, rfl⟩
        obtain ⟨F2, hF2⟩ : ∃ F2, F2 = sndN x b := ⟨_, rfl⟩
        have hsm1 : Small F1 := by rw [hF1]; exact fstN_small HS.out b
        have hsm2 : Small F2 := by rw [hF2]; exact sndN_small HS.out b
        have hkl : K.length ≤ 4000 := by have := HS.out.k b; rw [← HK.out] at this; exact this
        rw [← hF1] at hn1 ⊢
        rw [← hF2] at hn2 ⊢
        have g1 : F1.leaf = x.leaf := by rw [hF1]; exact fstN_leaf x b
        have g2 : F2.leaf = x.leaf := by rw [hF2]; exact sndN_leaf x b
        rw [HLF.out] at g1 g2
        rw [g1, g2]
        have z1 := fun (wz : World) (hz : Ext w2 wz) => own_any F1 ak1 av1 ac1 ck1 cv1 cc1 kvs1 vvs1 wz (hn1.ext hz) hsm1
        have z2 := fun (wz : World) (hz : Ext w2 wz) => own_any F2 ak2 av2 ac2 ck2 cv2 cc2 kvs2 vvs2 wz (hn2.ext hz) hsm2
        have z3 := fun (wz : World) (hz : Ext w2 wz) => cloneb_any (.slice pk K.length qk) K wz (h2.ext hz) (by omega)
        unfold nodeV at z1 z2
        rw [g1] at z1
        rw [g2] at z2
        have Z1 := Lib.hid z1
        have Z2 := Lib.hid z2
        have Z3 := Lib.hid z3
        have HF := Lib.hid (And.intro hF1 hF2)
        obtain ⟨W10, hW10⟩ : ∃ W10, W10 = (w2.alloc (.cells #[.bool true, .slice ak1 F1.keys.length ck1, .slice av1 F1.vals.length cv1, .slice ac1 F1.kids.length cc1] 144)).alloc (.cells #[.bool true, .slice ak2 F2.keys.length ck2, .slice av2 F2.vals.length cv2, .slice ac2 F2.kids.length cc2] 144) := ⟨_, rfl⟩
        have hE10 : Ext w2 W10.drew := by rw [hW10]; exact (((Upd.refl _ w2).alloc _).alloc _).drew
        have hk1' : W10.drew.heap[w2.heap.size]? = some (.cells #[.bool true, .slice ak1 F1.keys.length ck1, .slice av1 F1.vals.length cv1, .slice ac1 F1.kids.length cc1] 144 (0, 0)) := by
          rw [hW10]; exact ((Upd.refl (fun _ => False) _).alloc _).drew.heap (heap_alloc_new w2 _) (fun f => f)
        have hk2' : W10.drew.heap[w2.heap.size + 1]? = some (.cells #[.bool true, .slice ak2 F2.keys.length ck2, .slice av2 F2.vals.length cv2, .slice ac2 F2.kids.length cc2] 144 (0, 0)) := by
          rw [hW10]
          have := heap_alloc_new (w2.alloc (.cells #[.bool true, .slice ak1 F1.keys.length ck1, .slice av1 F1.vals.length cv1, .slice ac1 F1.kids.length cc1] 144)) (.cells #[.bool true, .slice ak2 F2.keys.length ck2, .slice av2 F2.vals.length cv2, .slice ac2 F2.kids.length cc2] 144)
          have e : (w2.alloc (.cells #[.bool true, .slice ak1 F1.keys.length ck1, .slice av1 F1.vals.length cv1, .slice ac1 F1.kids.length cc1] 144)).heap.size = w2.heap.size + 1 := by simp
          rw [e] at this
          exact this
        have hS0 : W10.drew.cell? ⟨w2.heap.size, 0, none⟩ = some (.bool true) ∧ W10.drew.cell? ⟨w2.heap.size, 1, none⟩ = some (.slice ak1 F1.keys.length ck1) ∧ W10.drew.cell? ⟨w2.heap.size, 2, none⟩ = some (.slice av1 F1.vals.length cv1) ∧ W10.drew.cell? ⟨w2.heap.size, 3, none⟩ = some (.slice ac1 F1.kids.length cc1) ∧ W10.drew.cell? ⟨w2.heap.size + 1, 0, none⟩ = some (.bool true) ∧ W10.drew.cell? ⟨w2.heap.size + 1, 1, none⟩ = some (.slice ak2 F2.keys.length ck2) ∧ W10.drew.cell? ⟨w2.heap.size + 1, 2, none⟩ = some (.slice av2 F2.vals.length cv2) ∧ W10.drew.cell? ⟨w2.heap.size + 1, 3, none⟩ = some (.slice ac2 F2.kids.length cc2) := ⟨one_cells hk1' 0 _ rfl, one_cells hk1' 1 _ rfl, one_cells hk1' 2 _ rfl, one_cells hk1' 3 _ rfl, one_cells hk2' 0 _ rfl, one_cells hk2' 1 _ rfl, one_cells hk2' 2 _ rfl, one_cells hk2' 3 _ rfl⟩
        have hEall : Ext W1 W10.drew := ((HU12.out.trans HU.out (fun _ f => f.elim)).trans hU2 (fun _ f => f.elim)).trans hE10 (fun _ f => f.elim)
        obtain ⟨B1, hB1⟩ : ∃ B, B = w.heap.size + 1 := ⟨_, rfl⟩
        obtain ⟨B2, hB2⟩ : ∃ B, B = w.heap.size + 1 + 1 := ⟨_, rfl⟩
        have hrA := hEall.heap HR.out.1 (fun f => f)
        have hrB := hEall.heap HR.out.2 (fun f => f)
        have eB2 : w.heap.size + 2 = B2 := hB2.symm
        rw [← hB1] at hrA
        rw [eB2] at hrB
        have HR1 := Lib.hid hrA
        have HR2 := Lib.hid hrB
        clear hrA hrB
        have hszz := hEall.size
        have hsz2 := ((HU12.out.trans HU.out (fun _ f => f.elim)).trans hU2 (fun _ f => f.elim)).size
        have HEALL := Lib.hid (HUW.out.trans hEall (fun _ f => f.elim))
        have hr2lt := heap_lt HR.out.2
        have HE10 := Lib.hid hE10
        have HU2 := Lib.hid hU2
        have m1 : B1 ≠ w2.heap.size := by omega
        have m2 : B2 ≠ w2.heap.size := by omega
        have m3 : B1 ≠ w2.heap.size + 1 := by omega
        have m4 : B2 ≠ w2.heap.size + 1 := by omega
        have m5 : B1 ≠ B2 := by omega
        have m6 : B2 ≠ B1 := by omega
        have HB12 := Lib.hid (And.intro hB1 hB2)
        clear hB1 hB2 eB2
        clear hE10 hk1' hk2' z1 z2 z3 hU2 hn1 hn2 h2 hF1 hF2 g1 g2 hEall hsm1 hsm2
        go_wp2_with fail
        rw [← hW10, ← HB12.out.2, ← HB12.out.1]
        clear hW10
        have HBD := Lib.hid (And.intro hb1 (And.intro hb2 (And.intro hszz (And.intro hsz2 hr2lt))))
        clear r0 r1 r2 r3 hlt hk1 hk2 hsb hb1 hb2 hszz hsz2 hr2lt e0 hlt0 hkI hkI2 hl1I hkl hl1 hLn hn
        have f1 : w2.heap.size ≠ B1 := m1.symm
        have f2 : w2.heap.size ≠ B2 := m2.symm
        have f3 : w2.heap.size + 1 ≠ B1 := m3.symm
        have f4 : w2.heap.size + 1 ≠ B2 := m4.symm
        obtain ⟨s0, s1, s2, s3, s4, s5, s6, s7⟩ := hS0
        go_region_law (first
          | (go_simp
             first
             | (go_at_call 51
                refine (Z3.out _ (HE10.out.trans HA.out.2 (fun _ f => f.elim))).mono ?_
                rintro e wb ⟨vb, rfl, hob, hnb, hUb⟩
                have hbb : Bts wb vb K := own_rd hob
                have hbb' := hbb
                obtain ⟨pb, qb, rfl, -⟩ := hbb'.open
                have q4 := hUb.cell p4 (fun f => f)
                have q5 := hUb.cell p5 (fun f => f)
                have q6 := hUb.cell p6 (fun f => f)
                have q7 := hUb.cell p7 (fun f => f)
                have HBB := Lib.hid (And.intro hbb hUb)
                clear hob hnb hUb hbb hbb' p4 p5 p6 p7)
             | (go_at_call 105
                refine (Z2.out _ (HE10.out.trans (HA.out.2.trans HBB.out.2 (fun _ f => f.elim)) (fun _ f => f.elim))).mono ?_
                rintro e wc ⟨sk2, sv2, sc2, kvs2', vvs2', rfl, hno2, hUc⟩
                obtain ⟨a1, b1, a2, b2, a3, b3, rfl, rfl, rfl, -⟩ := hno2.node
                have HCC := Lib.hid (And.intro hno2 hUc)
                have hrr := (HA.out.2.trans HBB.out.2 (fun _ f => f.elim)).trans hUc (fun _ f => f.elim)
                have hh1 := hrr.heap HR1.out (fun f => f)
                have hh2 := hrr.heap HR2.out (fun f => f)
                have y0 := one_cells hh1 0 _ rfl
                have y1 := one_cells hh1 1 _ rfl
                have y2 := one_cells hh1 2 _ rfl
                have y3 := one_cells hh1 3 _ rfl
                have t0 := one_cells hh2 0 _ rfl
                have t1 := one_cells hh2 1 _ rfl
                have t2 := one_cells hh2 2 _ rfl
                have t3 := one_cells hh2 3 _ rfl
                have yf0 : wc.frozen? ⟨B1, 0, none⟩ = false := frozen_heap hh1
                have yf1 : wc.frozen? ⟨B1, 1, none⟩ = false := frozen_heap hh1
                have yf2 : wc.frozen? ⟨B1, 2, none⟩ = false := frozen_heap hh1
                have yf3 : wc.frozen? ⟨B1, 3, none⟩ = false := frozen_heap hh1
                have tf0 : wc.frozen? ⟨B2, 0, none⟩ = false := frozen_heap hh2
                have tf1 : wc.frozen? ⟨B2, 1, none⟩ = false := frozen_heap hh2
                have tf2 : wc.frozen? ⟨B2, 2, none⟩ = false := frozen_heap hh2
                have tf3 : wc.frozen? ⟨B2, 3, none⟩ = false := frozen_heap hh2
                have HNB := Lib.hid (And.intro hh1 hh2)
                clear hno2 hUc hrr hh1 hh2 q4 q5 q6 q7)
             | (go_at_call 105
                refine (Z1.out _ HE10.out).mono ?_
                rintro e wa ⟨sk1, sv1, sc1, kvs1', vvs1', rfl, hno1, hUa⟩
                obtain ⟨x1, w1, x2, w2', x3, w3, rfl, rfl, rfl, -⟩ := hno1.node
                have p4 := hUa.cell s4 (fun f => f)
                have p5 := hUa.cell s5 (fun f => f)
                have p6 := hUa.cell s6 (fun f => f)
                have p7 := hUa.cell s7 (fun f => f)
                have HA := Lib.hid (And.intro hno1 hUa)
                clear hno1 hUa s0 s1 s2 s3 s4 s5 s6 s7)
             dsimp only))
        all_goals
          clear yf0 yf1 yf2 yf3 tf0 tf1 tf2 tf3
          go_wp2_with fail
          refine bodyPost_ret (v := .tuple #[.agg #[.bool true, .slice x1 F1.keys.length w1, .slice x2 F1.vals.length w2', .slice x3 F1.kids.length w3], .slice pb K.length qb, .agg #[.bool true, .slice a1 F2.keys.length b1, .slice a2 F2.vals.length b2, .slice a3 F2.kids.length b3], .bool true]) (by simp [results, Tryz.results75, go_sem, y0, y1, y2, y3, t0, t1, t2, t3]) rfl ?_
          obtain ⟨hno1, hUa⟩ := HA.out
          obtain ⟨hbb, hUb⟩ := HBB.out
          obtain ⟨hno2, hUc⟩ := HCC.out
          obtain ⟨hb1, hb2, hszz, hsz2, hr2lt⟩ := HBD.out
          obtain ⟨hB1, hB2⟩ := HB12.out
          obtain ⟨hF1, hF2⟩ := HF.out
          obtain ⟨hh1, hh2⟩ := HNB.out
          have hUs := upd_set44 wc B1 B2 (.bool true) (.slice x1 F1.keys.length w1) (.slice x2 F1.vals.length w2') (.slice x3 F1.kids.length w3) (.bool true) (.slice a1 F2.keys.length b1) (.slice a2 F2.vals.length b2) (.slice a3 F2.kids.length b3)
          have hsd : W10.drew.heap.size = W10.heap.size := rfl
          have hsa := hUa.size
          have hsb := hUb.size
          have hby : ∀ bb cs fr, (bb = B1 ∨ bb = B2) → wc.heap[bb]? ≠ some (.cells cs 5 fr) := by
            rintro bb cs fr (rfl | rfl) e
            · rw [hh1] at e; simp at e
            · rw [hh2] at e; simp at e
          have hn1 : NOwn wc w.heap.size (.slice x1 F1.keys.length w1) (.slice x2 F1.vals.length w2') (.slice x3 F1.kids.length w3) kvs1' vvs1' F1 := ((hno1.ext hUb).ext hUc).mono (by omega)
          have hn2 : NOwn wc w.heap.size (.slice a1 F2.keys.length b1) (.slice a2 F2.vals.length b2) (.slice a3 F2.kids.length b3) kvs2' vvs2' F2 := hno2.mono (by omega)
          have hr1 := hn1.upd hUs (fun k hk e => by have := hno1.kb k hk; omega) (fun k hk e => by have := hno1.vb k hk; omega) (fun k hk e => by have := hno1.cb k hk; omega) hby
          have hr2 := hn2.upd hUs (fun k hk e => by have := hno2.kb k hk; omega) (fun k hk e => by have := hno2.vb k hk; omega) (fun k hk e => by have := hno2.cb k hk; omega) hby
          refine ⟨b, hb1, by omega, fun j h1 h2 => HMIN.out j h1 (by omega), _, _, _, _, _, _, _, _, _, _, _, rfl, by rw [← hF1]; exact hr1, by rw [← HK.out]; exact (hbb.ext hUc).upd hUs hby, by rw [← hF2]; exact hr2, ?_⟩
          exact (((HEALL.out.trans hUa (fun _ f => f.elim)).trans hUb (fun _ f => f.elim)).trans hUc (fun _ f => f.elim)).trans hUs (fun i hi => .inr (by omega))
end Go.Proofs.YtecfhfddgolpfaaGreat
