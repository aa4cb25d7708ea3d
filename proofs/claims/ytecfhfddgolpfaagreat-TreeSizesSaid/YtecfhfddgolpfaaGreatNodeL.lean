/- node.parts of an inner node. -/
import Derived.Test.YtecfhfddgolpfaaGreatNodeK
namespace Go.Proofs.YtecfhfddgolpfaaGreat
open Go.RowKit

theorem parts_inner_fin (x : Nd) (b o b2 o2 ck cc : Nat) (av : Option Addr) (cv : Nat) (kvs vvs : List Value) (w wz : World) (k : Nat) (kv : Value) (h : NodeAt w x (some ⟨b, o, none⟩) ck av cv (some ⟨b2, o2, none⟩) cc kvs vvs) {K : Bytes} (hb : Bts w kv K) (hU : Ext w wz) (hk : k + 1 < x.keys.length) (hv : x.kids.length = x.keys.length + 1) (hl : x.leaf = false) :
    ∃ v1 kv' v2, Ending.returned (.tuple #[.agg #[.bool false, .slice (some ⟨b, o, none⟩) k ck, .slice none 0 0, .slice (some ⟨b2, o2, none⟩) (k + 1) cc], kv, .agg #[.bool false, .slice (some ⟨b, o + (k + 1), none⟩) (x.keys.length - (k + 1)) (ck - (k + 1)), .slice none 0 0, .slice (some ⟨b2, o2 + (k + 1), none⟩) (x.kids.length - (k + 1)) (cc - (k + 1))]]) = .returned (.tuple #[v1, kv', v2]) ∧
      NodeR wz v1 (fstN x k) ∧ Bts wz kv' K ∧ NodeR wz v2 (sndN x k) ∧ Ext w wz := by
  have h' := h.ext hU
  have e1 : (x.keys.take k).length = k := by simp; omega
  have e2 : (x.kids.take (k + 1)).length = k + 1 := by simp; omega
  have a1 := h.kcap
  have a2 := h.ccap
  have a3 := h.km
  have a4 := h.cm
  refine ⟨_, _, _, rfl, ⟨some ⟨b, o, none⟩, ck, none, 0, some ⟨b2, o2, none⟩, cc, kvs.take k, [], ?_, ?_⟩, hb.ext hU, ⟨some ⟨b, o + (k + 1), none⟩, ck - (k + 1), none, 0, some ⟨b2, o2 + (k + 1), none⟩, cc - (k + 1), kvs.drop (k + 1), [], ?_, ?_⟩, hU⟩
  · unfold nodeV fstN; rw [if_neg (by simp [hl])]; simp only [e1, e2]; rfl
  · unfold fstN; rw [if_neg (by simp [hl])]
    exact ⟨h'.k.take k, h'.kl.take k, by simp only [e1]; omega, h.km, fun f => by simp at f, .inl rfl, BtsL.nil _, Nat.le_refl _, by unfold maxLen; omega, fun _ => rfl, by rw [intv_take]; exact h'.c.take _, by simp only [e2]; omega, h.cm, fun f => by simp at f⟩
  · unfold nodeV sndN; rw [if_neg (by simp [hl])]; simp only [List.length_drop]; rfl
  · unfold sndN; rw [if_neg (by simp [hl])]
    exact ⟨h'.k.drop (k + 1), h'.kl.drop (k + 1), by simp only [List.length_drop]; omega, by omega, fun f => by simp at f, .inl rfl, BtsL.nil _, Nat.le_refl _, by unfold maxLen; omega, fun _ => rfl, by rw [intv_drop]; exact h'.c.drop _, by simp only [List.length_drop]; omega, by omega, fun f => by simp at f⟩

set_option maxRecDepth 100000 in
set_option maxHeartbeats 2000000 in
theorem parts_inner (x : Nd) (ak av ac : Option Addr) (ck cv cc : Nat) (kvs vvs : List Value) (w : World) (h : NodeAt w x ak ck av cv ac cc kvs vvs) (hs : Small x) (hl : x.leaf = false) (hv : x.kids.length = x.keys.length + 1) (k : Nat) (hk0 : 1 ≤ k) (hk : k + 1 < x.keys.length) :
    Calls Tryz.prog 104 #[nodeV x ak ck av cv ac cc, .int .i64 k] w fun e w' => ∃ v1 kv v2, e = .returned (.tuple #[v1, kv, v2]) ∧ NodeR w' v1 (fstN x k) ∧ Bts w' kv (x.keys[k]'(by omega)) ∧ NodeR w' v2 (sndN x k) ∧ Ext w w' := by
  have hn := hs.n
  obtain ⟨v1, h1, hb1⟩ := h.kl.get (show k < x.keys.length by omega)
  obtain ⟨b, o, rfl, hcell, hbs⟩ := h.k.cellv h1
  obtain ⟨b2, o2, rfl⟩ : ∃ b2 o2, ac = some ⟨b2, o2, none⟩ := by
    rcases h.c with h2 | ⟨b2, o2, cs, fr, h2, -⟩
    · have h3 : x.kids.length = 0 := by have := congrArg List.length h2; rw [intv_length] at this; simpa using this
      omega
    · exact ⟨b2, o2, h2⟩
  obtain ⟨K, hK⟩ : ∃ K, K = x.keys[k]'(by omega) := ⟨_, rfl⟩
  rw [← hK] at hb1
  have hck := h.kcap
  have hcv := h.ccap
  have hcm := h.km
  have hvm := h.cm
  unfold nodeV
  rw [hl, ← hK]
  clear hK
  obtain ⟨W0, hW0⟩ : ∃ W0, W0 = w.alloc (.cells #[.bool false, .slice (some ⟨b, o, none⟩) x.keys.length ck, .slice av x.vals.length cv, .slice (some ⟨b2, o2, none⟩) x.kids.length cc] 144) := ⟨_, rfl⟩
  obtain ⟨W1, hW1⟩ : ∃ W1, W1 = (W0.alloc (.cells #[.bool false, .slice none 0 0, .slice none 0 0, .slice none 0 0] 144)).alloc (.cells #[.bool false, .slice none 0 0, .slice none 0 0, .slice none 0 0] 144) := ⟨_, rfl⟩
  have hU0 : Ext w W0 := by rw [hW0]; exact (Upd.refl _ w).alloc _
  have hU01 : Ext W0 W1 := by rw [hW1]; exact ((Upd.refl _ W0).alloc _).alloc _
  have hsz : W0.heap.size = w.heap.size + 1 := by rw [hW0]; simp
  have c0 : W1.cell? ⟨w.heap.size, 0, none⟩ = some (.bool false) := hU01.cell (by rw [hW0, World.cell?_alloc_new]; rfl) (fun f => f)
  have c1 : W1.cell? ⟨w.heap.size, 1, none⟩ = some (.slice (some ⟨b, o, none⟩) x.keys.length ck) := hU01.cell (by rw [hW0, World.cell?_alloc_new]; rfl) (fun f => f)
  have c2 : W1.cell? ⟨w.heap.size, 3, none⟩ = some (.slice (some ⟨b2, o2, none⟩) x.kids.length cc) := hU01.cell (by rw [hW0, World.cell?_alloc_new]; rfl) (fun f => f)
  have hr1 : W1.heap[w.heap.size + 1]? = some (.cells #[.bool false, .slice none 0 0, .slice none 0 0, .slice none 0 0] 144 (0, 0)) := by
    rw [hW1, ← hsz]
    exact ((Upd.refl (fun _ => False) _).alloc _).heap (heap_alloc_new W0 _) (fun f => f)
  have hr2 : W1.heap[w.heap.size + 2]? = some (.cells #[.bool false, .slice none 0 0, .slice none 0 0, .slice none 0 0] 144 (0, 0)) := by
    rw [hW1]
    have := heap_alloc_new (W0.alloc (.cells #[.bool false, .slice none 0 0, .slice none 0 0, .slice none 0 0] 144)) (.cells #[.bool false, .slice none 0 0, .slice none 0 0, .slice none 0 0] 144)
    have e : (W0.alloc (.cells #[.bool false, .slice none 0 0, .slice none 0 0, .slice none 0 0] 144)).heap.size = w.heap.size + 2 := by simp [hsz]
    rw [e] at this
    exact this
  have hUw : Ext w W1 := hU0.trans hU01 (fun _ f => f.elim)
  have c5 : W1.cell? ⟨b, o + k, none⟩ = some v1 := hUw.cell hcell (fun f => f)
  have y0 := one_cells hr1 0 _ rfl
  have y1 := one_cells hr1 1 _ rfl
  have y2 := one_cells hr1 2 _ rfl
  have y3 := one_cells hr1 3 _ rfl
  have z0 := one_cells hr2 0 _ rfl
  have z1 := one_cells hr2 1 _ rfl
  have z2 := one_cells hr2 2 _ rfl
  have z3 := one_cells hr2 3 _ rfl
  have yf0 : W1.frozen? ⟨w.heap.size + 1, 0, none⟩ = false := frozen_heap hr1
  have yf1 : W1.frozen? ⟨w.heap.size + 1, 1, none⟩ = false := frozen_heap hr1
  have yf2 : W1.frozen? ⟨w.heap.size + 1, 2, none⟩ = false := frozen_heap hr1
  have yf3 : W1.frozen? ⟨w.heap.size + 1, 3, none⟩ = false := frozen_heap hr1
  have zf0 : W1.frozen? ⟨w.heap.size + 2, 0, none⟩ = false := frozen_heap hr2
  have zf1 : W1.frozen? ⟨w.heap.size + 2, 1, none⟩ = false := frozen_heap hr2
  have zf2 : W1.frozen? ⟨w.heap.size + 2, 2, none⟩ = false := frozen_heap hr2
  have zf3 : W1.frozen? ⟨w.heap.size + 2, 3, none⟩ = false := frozen_heap hr2
  obtain ⟨p1, q1, rfl, -⟩ := hb1.open
  have hbl := World.block_lt_of_cell? w _ hcell
  have i1 : (k : Int) < (x.keys.length : Int) := by omega
  have i2 : (k : Int) ≤ (x.keys.length : Int) := by omega
  have i7 : (k : Int) + 1 ≤ (x.keys.length : Int) := by omega
  have i8 : (0 : Int) ≤ (k : Int) + 1 := by omega
  have i9 : ((k : Int) + 1).toNat = k + 1 := by omega
  have i10 : IntKind.i64.wrap ((k : Int) + 1) = (k : Int) + 1 := by rw [IntKind.wrap_i64]; omega
  have i11 : (k : Int) + 1 ≤ (ck : Int) := by omega
  have i3 : (k : Int) ≤ (ck : Int) := by omega
  have i4 : (k : Int) + 1 ≤ (x.kids.length : Int) := by omega
  have i5 : (k : Int) + 1 ≤ (cc : Int) := by omega
  have i6 : (0 : Int) ≤ (k : Int) := by omega
  have hA := And.intro hb1 (And.intro h (And.intro hUw (And.intro hW0 (And.intro hW1 (And.intro hr1 hr2)))))
  have HA := Lib.hid hA
  have HV := Lib.hid hv
  have HLF := Lib.hid hl
  clear hl hA hb1 h hUw hW0 hW1 hr1 hr2 hU0 hU01 hs h1 hcell hbs hv hsz
  go_enter Tryz.func104, Tryz.ntmps104
  go_wp2_with fail
  rw [← HA.out.2.2.2.1, ← HA.out.2.2.2.2.1]
  have n1 : w.heap.size ≠ w.heap.size + 1 := by omega
  have n2 : w.heap.size ≠ w.heap.size + 2 := by omega
  have n3 : w.heap.size + 1 ≠ w.heap.size + 2 := by omega
  have n4 : w.heap.size + 2 ≠ w.heap.size + 1 := by omega
  have n5 : b ≠ w.heap.size + 1 := by omega
  have n6 : b ≠ w.heap.size + 2 := by omega
  have n7 : w.heap.size + 1 ≠ b := by omega
  have n8 : w.heap.size + 2 ≠ b := by omega
  have n9 : w.heap.size + 1 ≠ w.heap.size := by omega
  have n10 : w.heap.size + 2 ≠ w.heap.size := by omega
  have d1 : ¬ ck = k + 1 := by omega
  have d2 : ¬ cc = k + 1 := by have := HV.out; omega
  clear hbl
  go_region_held3 (fun w' => w'.cell? ⟨w.heap.size, 1, none⟩ = some (.slice (some ⟨b, o, none⟩) x.keys.length ck) ∧ w'.cell? ⟨w.heap.size, 3, none⟩ = some (.slice (some ⟨b2, o2, none⟩) x.kids.length cc) ∧ w'.cell? ⟨b, o + k, none⟩ = some (.slice p1 K.length q1))
    (go_keep)
    (fail)
  go_wp2_with fail
  refine bodyPost_ret (v := .tuple #[.agg #[.bool false, .slice (some ⟨b, o, none⟩) k ck, .slice none 0 0, .slice (some ⟨b2, o2, none⟩) (k + 1) cc], .slice p1 K.length q1, .agg #[.bool false, .slice (some ⟨b, o + (k + 1), none⟩) (x.keys.length - (k + 1)) (ck - (k + 1)), .slice none 0 0, .slice (some ⟨b2, o2 + (k + 1), none⟩) (x.kids.length - (k + 1)) (cc - (k + 1))]]) (by simp [results, Tryz.results104, go_sem, y0, y1, y2, y3, z0, z1, z2, z3]) rfl ?_
  exact parts_inner_fin x b o b2 o2 ck cc av cv kvs vvs w _ k _ HA.out.2.1 HA.out.1 (HA.out.2.2.1.trans (upd_set8 W1 (w.heap.size + 1) (w.heap.size + 2) _ _ _ _ _ _ _ _) (fun i hi => .inr (by omega))) hk HV.out HLF.out
end Go.Proofs.YtecfhfddgolpfaaGreat
