/- node.parts. -/
import Derived.Test.YtecfhfddgolpfaaGreatNodeJ
namespace Go.Proofs.YtecfhfddgolpfaaGreat
open Go.RowKit

theorem RdAt.take {w : World} {E : TypeId} {a : Option Addr} {xs : List Value} (h : RdAt w E a xs) (n : Nat) : RdAt w E a (xs.take n) := by
  rcases h with rfl | ⟨b, o, cs, fr, rfl, hb, hc⟩
  · left; simp
  · exact .inr ⟨b, o, cs, fr, rfl, hb, fun j x hx => hc j x (by
      rw [List.getElem?_take] at hx
      split at hx
      · exact hx
      · simp at hx)⟩
theorem RdAt.drop {w : World} {E : TypeId} {b o : Nat} {xs : List Value} (h : RdAt w E (some ⟨b, o, none⟩) xs) (n : Nat) : RdAt w E (some ⟨b, o + n, none⟩) (xs.drop n) := by
  rcases h with rfl | ⟨b', o', cs, fr, he, hb, hc⟩
  · left; simp
  · cases he
    exact .inr ⟨b, o + n, cs, fr, rfl, hb, fun j x hx => by
      rw [Nat.add_assoc]
      exact hc (n + j) x (by rw [List.getElem?_drop] at hx; exact hx)⟩
theorem BtsL.take {w : World} {vs : List Value} {ks : List Bytes} (h : BtsL w vs ks) (n : Nat) : BtsL w (vs.take n) (ks.take n) := by
  refine ⟨by simp [h.1], fun j v k h1 h2 => ?_⟩
  rw [List.getElem?_take] at h1 h2
  split at h1
  · rename_i hj; rw [if_pos hj] at h2; exact h.2 j v k h1 h2
  · simp at h1
theorem BtsL.drop {w : World} {vs : List Value} {ks : List Bytes} (h : BtsL w vs ks) (n : Nat) : BtsL w (vs.drop n) (ks.drop n) := by
  refine ⟨by simp [h.1], fun j v k h1 h2 => ?_⟩
  rw [List.getElem?_drop] at h1 h2
  exact h.2 _ v k h1 h2
theorem BtsL.nil (w : World) : BtsL w [] [] := ⟨rfl, fun j v k a => by simp at a⟩
theorem intv_take (l : List Int) (n : Nat) : intv (l.take n) = (intv l).take n := by simp [intv]
theorem intv_drop (l : List Int) (n : Nat) : intv (l.drop n) = (intv l).drop n := by simp [intv]

/-- The two parts of a node. -/
def fstN (x : Nd) (k : Nat) : Nd := if x.leaf then ⟨true, x.keys.take k, x.vals.take k, []⟩ else ⟨false, x.keys.take k, [], x.kids.take (k + 1)⟩
def sndN (x : Nd) (k : Nat) : Nd := if x.leaf then ⟨true, x.keys.drop k, x.vals.drop k, []⟩ else ⟨false, x.keys.drop (k + 1), [], x.kids.drop (k + 1)⟩

theorem upd_set8 (w : World) (B C : Nat) (a b c d a' b' c' d' : Value) : Upd (fun k => k = B ∨ k = C) w ((((((((((w.setCell ⟨B, 0, none⟩ a).setCell ⟨B, 1, none⟩ b).setCell ⟨B, 2, none⟩ c).setCell ⟨B, 3, none⟩ d).setCell ⟨C, 0, none⟩ a').setCell ⟨C, 1, none⟩ b').setCell ⟨C, 2, none⟩ c').setCell ⟨C, 3, none⟩ d')).drew) := by
  have h1 := (upd_set4 w B a b c d).mono (fun i _ h => (.inl h : i = B ∨ i = C))
  have h2 := upd_set4 ((((w.setCell ⟨B, 0, none⟩ a).setCell ⟨B, 1, none⟩ b).setCell ⟨B, 2, none⟩ c).setCell ⟨B, 3, none⟩ d) C a' b' c' d'
  exact (h1.trans h2 (fun i h => .inl (.inr h))).drew
theorem parts_leaf_fin (x : Nd) (b o b2 o2 ck cv : Nat) (ac : Option Addr) (cc : Nat) (kvs vvs : List Value) (w wz : World) (k : Nat) (kv : Value) (h : NodeAt w x (some ⟨b, o, none⟩) ck (some ⟨b2, o2, none⟩) cv ac cc kvs vvs) {K : Bytes} (hb : Bts w kv K) (hU : Ext w wz) (hk : k < x.keys.length) (hv : x.vals.length = x.keys.length) (hl : x.leaf = true) :
    ∃ v1 kv' v2, Ending.returned (.tuple #[.agg #[.bool true, .slice (some ⟨b, o, none⟩) k ck, .slice (some ⟨b2, o2, none⟩) k cv, .slice none 0 0], kv, .agg #[.bool true, .slice (some ⟨b, o + k, none⟩) (x.keys.length - k) (ck - k), .slice (some ⟨b2, o2 + k, none⟩) (x.vals.length - k) (cv - k), .slice none 0 0]]) = .returned (.tuple #[v1, kv', v2]) ∧
      NodeR wz v1 (fstN x k) ∧ Bts wz kv' K ∧ NodeR wz v2 (sndN x k) ∧ Ext w wz := by
  have h' := h.ext hU
  have e1 : (x.keys.take k).length = k := by simp; omega
  have e2 : (x.vals.take k).length = k := by simp; omega
  have a1 := h.kcap
  have a2 := h.vcap
  have a3 := h.km
  have a4 := h.vm
  refine ⟨_, _, _, rfl, ⟨some ⟨b, o, none⟩, ck, some ⟨b2, o2, none⟩, cv, none, 0, kvs.take k, vvs.take k, ?_, ?_⟩, hb.ext hU, ⟨some ⟨b, o + k, none⟩, ck - k, some ⟨b2, o2 + k, none⟩, cv - k, none, 0, kvs.drop k, vvs.drop k, ?_, ?_⟩, hU⟩
  · unfold nodeV fstN; rw [if_pos hl]; simp only [e1, e2]; rfl
  · unfold fstN; rw [if_pos hl]
    exact ⟨h'.k.take k, h'.kl.take k, by simp only [e1]; omega, h.km, fun f => by simp at f, h'.v.take k, h'.vl.take k, by simp only [e2]; omega, h.vm, fun f => by simp at f, .inl rfl, Nat.le_refl _, by unfold maxLen; omega, fun _ => rfl⟩
  · unfold nodeV sndN; rw [if_pos hl]; simp only [List.length_drop]; rfl
  · unfold sndN; rw [if_pos hl]
    exact ⟨h'.k.drop k, h'.kl.drop k, by simp only [List.length_drop]; omega, by omega, fun f => by simp at f, h'.v.drop k, h'.vl.drop k, by simp only [List.length_drop]; omega, by omega, fun f => by simp at f, .inl rfl, Nat.le_refl _, by unfold maxLen; omega, fun _ => rfl⟩

set_option maxRecDepth 100000 in
set_option maxHeartbeats 2000000 in
theorem parts_leaf (x : Nd) (ak av ac : Option Addr) (ck cv cc : Nat) (kvs vvs : List Value) (w : World) (h : NodeAt w x ak ck av cv ac cc kvs vvs) (hs : Small x) (hl : x.leaf = true) (hv : x.vals.length = x.keys.length) (k : Nat) (hk0 : 1 ≤ k) (hk : k < x.keys.length) :
    Calls Tryz.prog 104 #[nodeV x ak ck av cv ac cc, .int .i64 k] w fun e w' => ∃ v1 kv v2, e = .returned (.tuple #[v1, kv, v2]) ∧ NodeR w' v1 (fstN x k) ∧ Bts w' kv x.keys[k] ∧ NodeR w' v2 (sndN x k) ∧ Ext w w' := by
  have hn := hs.n
  obtain ⟨v1, h1, hb1⟩ := h.kl.get hk
  obtain ⟨b, o, rfl, hcell, hbs⟩ := h.k.cellv h1
  obtain ⟨v2, h2, -⟩ := h.vl.get (show 0 < x.vals.length by omega)
  obtain ⟨b2, o2, rfl, -, -⟩ := h.v.cellv h2
  have hck := h.kcap
  have hcv := h.vcap
  have hcm := h.km
  have hvm := h.vm
  unfold nodeV
  rw [hl]
  obtain ⟨W0, hW0⟩ : ∃ W0, W0 = w.alloc (.cells #[.bool true, .slice (some ⟨b, o, none⟩) x.keys.length ck, .slice (some ⟨b2, o2, none⟩) x.vals.length cv, .slice ac x.kids.length cc] 144) := ⟨_, rfl⟩
  obtain ⟨W1, hW1⟩ : ∃ W1, W1 = (W0.alloc (.cells #[.bool false, .slice none 0 0, .slice none 0 0, .slice none 0 0] 144)).alloc (.cells #[.bool false, .slice none 0 0, .slice none 0 0, .slice none 0 0] 144) := ⟨_, rfl⟩
  have hU0 : Ext w W0 := by rw [hW0]; exact (Upd.refl _ w).alloc _
  have hU01 : Ext W0 W1 := by rw [hW1]; exact ((Upd.refl _ W0).alloc _).alloc _
  have hsz : W0.heap.size = w.heap.size + 1 := by rw [hW0]; simp
  have c0 : W1.cell? ⟨w.heap.size, 0, none⟩ = some (.bool true) := hU01.cell (by rw [hW0, World.cell?_alloc_new]; rfl) (fun f => f)
  have c1 : W1.cell? ⟨w.heap.size, 1, none⟩ = some (.slice (some ⟨b, o, none⟩) x.keys.length ck) := hU01.cell (by rw [hW0, World.cell?_alloc_new]; rfl) (fun f => f)
  have c2 : W1.cell? ⟨w.heap.size, 2, none⟩ = some (.slice (some ⟨b2, o2, none⟩) x.vals.length cv) := hU01.cell (by rw [hW0, World.cell?_alloc_new]; rfl) (fun f => f)
  have hr1 : W1.heap[w.heap.size + 1]? = some (.cells #[.bool false, .slice none 0 0, .slice none 0 0, .slice none 0 0] 144 (0, 0)) := by
    rw [hW1, ← hsz]
    exact ((Upd.refl (fun _ => False) _).alloc _).heap (heap_alloc_new W0 _) (fun f => f)
  have hr2 : W1.heap[w.heap.size + 2]? = some (.cells #[.bool false, .slice none 0 0, .slice none 0 0, .slice none 0 0] 144 (0, 0)) := by
    rw [hW1]
    have := heap_alloc_new (W0.alloc (.cells #[.bool false, .slice none 0 0, .slice none 0 0, .slice none 0 0] 144)) (.cells #[.bool false, .slice none 0 0, .slice none 0 0, .slice none 0 0] 144)
    have e : (W0.alloc (.cells #[.bool false, .slice none 0 0, .slice none 0 0, .slice none 0 0] 144)).heap.size = w.heap.size + 2 := by simp [hsz]
    rw [e] at this
    exact this
  have hUw : Ext w W1 := hU0.trans hU01 (fun _ f => f.elim)
  have c5 : W1.cell? ⟨b, o + k, none⟩ = some v1 := hUw.cell hcell (fun f => f)
  have y0 := one_cells hr1 0 _ rfl
  have y1 := one_cells hr1 1 _ rfl
  have y2 := one_cells hr1 2 _ rfl
  have y3 := one_cells hr1 3 _ rfl
  have z0 := one_cells hr2 0 _ rfl
  have z1 := one_cells hr2 1 _ rfl
  have z2 := one_cells hr2 2 _ rfl
  have z3 := one_cells hr2 3 _ rfl
  have yf0 : W1.frozen? ⟨w.heap.size + 1, 0, none⟩ = false := frozen_heap hr1
  have yf1 : W1.frozen? ⟨w.heap.size + 1, 1, none⟩ = false := frozen_heap hr1
  have yf2 : W1.frozen? ⟨w.heap.size + 1, 2, none⟩ = false := frozen_heap hr1
  have yf3 : W1.frozen? ⟨w.heap.size + 1, 3, none⟩ = false := frozen_heap hr1
  have zf0 : W1.frozen? ⟨w.heap.size + 2, 0, none⟩ = false := frozen_heap hr2
  have zf1 : W1.frozen? ⟨w.heap.size + 2, 1, none⟩ = false := frozen_heap hr2
  have zf2 : W1.frozen? ⟨w.heap.size + 2, 2, none⟩ = false := frozen_heap hr2
  have zf3 : W1.frozen? ⟨w.heap.size + 2, 3, none⟩ = false := frozen_heap hr2
  obtain ⟨p1, q1, rfl, -⟩ := hb1.open
  have hbl := World.block_lt_of_cell? w _ hcell
  have i1 : (k : Int) < (x.keys.length : Int) := by omega
  have i2 : (k : Int) ≤ (x.keys.length : Int) := by omega
  have i3 : (k : Int) ≤ (ck : Int) := by omega
  have i4 : (k : Int) ≤ (x.vals.length : Int) := by omega
  have i5 : (k : Int) ≤ (cv : Int) := by omega
  have i6 : (0 : Int) ≤ (k : Int) := by omega
  have hA := And.intro hb1 (And.intro h (And.intro hUw (And.intro hW0 (And.intro hW1 (And.intro hr1 hr2)))))
  have HA := Lib.hid hA
  have HV := Lib.hid hv
  have HLF := Lib.hid hl
  clear hl hA hb1 h hUw hW0 hW1 hr1 hr2 hU0 hU01 hs h1 h2 hcell hbs hv hsz
  go_enter Tryz.func104, Tryz.ntmps104
  go_wp2_with fail
  rw [← HA.out.2.2.2.1, ← HA.out.2.2.2.2.1]
  have n1 : w.heap.size ≠ w.heap.size + 1 := by omega
  have n2 : w.heap.size ≠ w.heap.size + 2 := by omega
  have n3 : w.heap.size + 1 ≠ w.heap.size + 2 := by omega
  have n4 : w.heap.size + 2 ≠ w.heap.size + 1 := by omega
  have n5 : b ≠ w.heap.size + 1 := by omega
  have n6 : b ≠ w.heap.size + 2 := by omega
  have n7 : w.heap.size + 1 ≠ b := by omega
  have n8 : w.heap.size + 2 ≠ b := by omega
  have n9 : w.heap.size + 1 ≠ w.heap.size := by omega
  have n10 : w.heap.size + 2 ≠ w.heap.size := by omega
  have d1 : ¬ ck = k := by omega
  have d2 : ¬ cv = k := by have := HV.out; omega
  clear hbl
  go_region_held3 (fun w' => w'.cell? ⟨w.heap.size, 1, none⟩ = some (.slice (some ⟨b, o, none⟩) x.keys.length ck) ∧ w'.cell? ⟨w.heap.size, 2, none⟩ = some (.slice (some ⟨b2, o2, none⟩) x.vals.length cv) ∧ w'.cell? ⟨b, o + k, none⟩ = some (.slice p1 x.keys[k].length q1))
    (go_keep)
    (fail)
  go_wp2_with fail
  refine bodyPost_ret (v := .tuple #[.agg #[.bool true, .slice (some ⟨b, o, none⟩) k ck, .slice (some ⟨b2, o2, none⟩) k cv, .slice none 0 0], .slice p1 x.keys[k].length q1, .agg #[.bool true, .slice (some ⟨b, o + k, none⟩) (x.keys.length - k) (ck - k), .slice (some ⟨b2, o2 + k, none⟩) (x.vals.length - k) (cv - k), .slice none 0 0]]) (by simp [results, Tryz.results104, go_sem, y0, y1, y2, y3, z0, z1, z2, z3]) rfl ?_
  exact parts_leaf_fin x b o b2 o2 ck cv ac cc kvs vvs w _ k _ HA.out.2.1 HA.out.1 (HA.out.2.2.1.trans (upd_set8 W1 (w.heap.size + 1) (w.heap.size + 2) _ _ _ _ _ _ _ _) (fun i hi => .inr (by omega))) hk HV.out HLF.out
end Go.Proofs.YtecfhfddgolpfaaGreat
