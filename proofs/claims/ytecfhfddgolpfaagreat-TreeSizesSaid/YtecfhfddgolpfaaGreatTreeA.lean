/- The tree's walks, first part: read, kid, Fresh pages. -/
import Derived.Test.YtecfhfddgolpfaaGreatTreeS
import Derived.Test.YtecfhfddgolpfaaGreatNodeI
namespace Go.Proofs.YtecfhfddgolpfaaGreat
open Go.RowKit
variable {w w' : World} {F G : Nat → Prop} {p nf pool dn N t : Nat} {σ : List Int} {C : Int → Bytes}

/-- The record of a tree. -/
def TrRow (w : World) (t p : Nat) (root : Int) : Prop := w.heap[t]? = some (.cells #[.pointer (some ⟨p, 0, none⟩), .int .i64 root] 136 (0, 0))
/-- What the pages' calls write is of the pages' own types. -/
theorem Pgs.not (h : Pgs w F p nf pool dn σ C N) {i : Nat} {cs : Array Value} {E : TypeId} {fr : Nat × Nat} (hi : w.heap[i]? = some (.cells cs E fr))
    (h1 : E ≠ 123) (h2 : E ≠ 134) (h3 : E ≠ 250) (h4 : E ≠ 124) (h5 : E ≠ 3) (h6 : E ≠ 206) : ¬ F i := by
  obtain ⟨S, d, FD, isv, mf, fr', usv, us, h⟩ := h
  intro hF
  rcases h.types hF with ⟨cs', E', e, hE⟩ | ⟨es, c, e⟩
  · rw [hi] at e
    simp at e
    obtain ⟨-, rfl, -⟩ := e
    rcases hE with e | e | e | e | e | e
    · exact h1 e
    · exact h2 e
    · exact h3 e
    · exact h4 e
    · exact h5 e
    · exact h6 e
  · rw [hi] at e; simp at e
theorem TrRow.not (h : Pgs w F p nf pool dn σ C N) {root : Int} {q : Nat} (ht : TrRow w t q root) : ¬ F t := h.not ht (by decide) (by decide) (by decide) (by decide) (by decide) (by decide)
/-- A node of the call's own memory, apart from F. -/
structure NAp (w : World) (B : Nat) (F : Nat → Prop) (sk sv sc : Value) (kvs vvs : List Value) (x : Nd) : Prop where
  own : NOwn w B sk sv sc kvs vvs x
  fk : ∀ k, sk.ownBlock = some k → ¬ F k
  fv : ∀ k, sv.ownBlock = some k → ¬ F k
  fc : ∀ k, sc.ownBlock = some k → ¬ F k
theorem heap_set4 (w : World) (B : Nat) (a b c d a' b' c' d' : Value) (T : TypeId) (h : w.heap[B]? = some (.cells #[a', b', c', d'] T (0, 0))) :
    ((((w.setCell ⟨B, 0, none⟩ a).setCell ⟨B, 1, none⟩ b).setCell ⟨B, 2, none⟩ c).setCell ⟨B, 3, none⟩ d).heap[B]? = some (.cells #[a, b, c, d] T (0, 0)) := by
  have h1 := heap_setCell_same w B 0 _ T a h
  have h2 := heap_setCell_same _ B 1 _ T b h1
  have h3 := heap_setCell_same _ B 2 _ T c h2
  have h4 := heap_setCell_same _ B 3 _ T d h3
  rw [h4]; rfl
theorem heap_set3 (w : World) (B : Nat) (a b c a' b' c' : Value) (T : TypeId) (h : w.heap[B]? = some (.cells #[a', b', c'] T (0, 0))) :
    (((w.setCell ⟨B, 0, none⟩ a).setCell ⟨B, 1, none⟩ b).setCell ⟨B, 2, none⟩ c).heap[B]? = some (.cells #[a, b, c] T (0, 0)) := by
  have h1 := heap_setCell_same w B 0 _ T a h
  have h2 := heap_setCell_same _ B 1 _ T b h1
  have h3 := heap_setCell_same _ B 2 _ T c h2
  rw [h3]; rfl
theorem upd_set3 (w : World) (B : Nat) (a b c : Value) : Upd (fun k => k = B) w (((w.setCell ⟨B, 0, none⟩ a).setCell ⟨B, 1, none⟩ b).setCell ⟨B, 2, none⟩ c) :=
  (((Upd.refl (fun k => k = B) w).setCell (p := ⟨B, 0, none⟩) a (.inl rfl)).setCell (p := ⟨B, 1, none⟩) b (.inl rfl)).setCell (p := ⟨B, 2, none⟩) c (.inl rfl)
theorem read_node (x : Nd) (pv : Value) (w : World) (hp : Bts w pv (page x)) (hx : Shaped x) (hsz : nsize x ≤ 1024) :
    Calls Tryz.prog 83 #[pv] w fun e w' => ∃ sk sv sc kvs vvs, e = .returned (.tuple #[.agg #[.bool x.leaf, sk, sv, sc], .int .i64 0]) ∧ NOwn w' w.heap.size sk sv sc kvs vvs x ∧ Ext w w' := by
  cases hl : x.leaf with
  | true => rw [← hl]; exact read_leaf x pv w hp (hx.small (by omega)) hx hsz hl
  | false => rw [← hl]; exact read_inner x pv w hp (hx.small (by omega)) hx hsz hl
set_option maxRecDepth 100000 in
set_option maxHeartbeats 1000000 in
theorem read_tree {root : Int} (ht : TrRow w t p root) (h : Pgs w F p nf pool dn σ C N) (hN : N + 4 ≤ 1000000000) (n : Int) (hn : usedP σ n) (x : Nd) (hC : C n = page x) (hx : Shaped x) (hsz : nsize x ≤ 1024) (deep : Int) (hd : deep ≤ 20) :
    Calls Tryz.prog 55 #[.pointer (some ⟨t, 0, none⟩), .int .i64 n, .int .i64 deep] w fun e w' => ∃ F' sk sv sc kvs vvs, e = .returned (.tuple #[.agg #[.bool x.leaf, sk, sv, sc], .int .i64 0]) ∧ NAp w' w.heap.size F' sk sv sc kvs vvs x ∧ Pgs w' F' p nf pool dn σ C (N + 4) ∧ (∀ i, F' i → F i ∨ w.heap.size ≤ i) ∧ Upd F w w' := by
  obtain ⟨W0, hW0⟩ : ∃ W0, W0 = w.alloc (.cells #[.bool false, .slice none 0 0, .slice none 0 0, .slice none 0 0] 144) := ⟨_, rfl⟩
  have hx0 : Ext w W0 := by rw [hW0]; exact (Upd.refl _ w).alloc _
  have hr0 : W0.heap[w.heap.size]? = some (.cells #[.bool false, .slice none 0 0, .slice none 0 0, .slice none 0 0] 144 (0, 0)) := by rw [hW0]; exact heap_alloc_new w _
  have ht0 : TrRow W0 t p root := hx0.heap ht (fun f => f)
  have q0 : W0.cell? ⟨t, 0, none⟩ = some (.pointer (some ⟨p, 0, none⟩)) := by rw [cell_heap ht0]; rfl
  have h0 := h.ext hx0
  have HG := Lib.hid (get_pgs h0 hN n hn)
  have HN := Lib.hid (h0.not hr0 (by decide) (by decide) (by decide) (by decide) (by decide) (by decide))
  have HR0 := Lib.hid hr0
  have HX0 := Lib.hid hx0
  have HW0 := Lib.hid hW0
  have HC := Lib.hid hC
  have HS := Lib.hid (show W0.heap.size = w.heap.size + 1 by rw [hW0]; simp)
  have HF := Lib.hid (fun i (hi : F i) => h.lt hi)
  clear hx0 hr0 ht0 h0 hW0 hC h ht
  go_enter Tryz.func55, Tryz.ntmps55
  rw [HW0.out] at q0
  go_wp2_with fail
  rw [← HW0.out]
  refine HG.out.mono ?_
  rintro e w1 ⟨v, F1, rfl, hv, hvn, h1, hF1, hU1⟩
  have hb : Bts w1 v (page x) := by rw [← HC.out]; exact own_rd hv
  have HRD := Lib.hid (read_node x v w1 hb hx hsz)
  have hr1 := hU1.heap HR0.out HN.out
  have HR1 := Lib.hid hr1
  have H1 := Lib.hid (And.intro h1 (And.intro hF1 hU1))
  clear hv hvn h1 hF1 hU1 hb hr1
  go_wp2_with fail
  refine HRD.out.mono ?_
  rintro e w2 ⟨sk, sv, sc, kvs, vvs, rfl, hno, hU2⟩
  obtain ⟨ak, ck, av, cv, ac, cc, rfl, rfl, rfl, -⟩ := hno.node
  have hr2 := hU2.heap HR1.out (fun f => f)
  have y0 := one_cells hr2 0 _ rfl
  have y1 := one_cells hr2 1 _ rfl
  have y2 := one_cells hr2 2 _ rfl
  have y3 := one_cells hr2 3 _ rfl
  have f0 : w2.frozen? ⟨w.heap.size, 0, none⟩ = false := frozen_heap hr2
  have f1 : w2.frozen? ⟨w.heap.size, 1, none⟩ = false := frozen_heap hr2
  have f2 : w2.frozen? ⟨w.heap.size, 2, none⟩ = false := frozen_heap hr2
  have f3 : w2.frozen? ⟨w.heap.size, 3, none⟩ = false := frozen_heap hr2
  have HR2 := Lib.hid hr2
  have HNO := Lib.hid hno
  have HU2 := Lib.hid hU2
  clear hr2 hno hU2
  go_wp2_with fail
  refine bodyPost_ret (v := .tuple #[.agg #[.bool x.leaf, .slice ak x.keys.length ck, .slice av x.vals.length cv, .slice ac x.kids.length cc], .int .i64 0]) (by simp [results, Tryz.results55, go_sem, y0, y1, y2, y3]) rfl ?_
  obtain ⟨h1, hF1, hU1⟩ := H1.out
  have hU2 := HU2.out
  have hUs := upd_set4 w2 w.heap.size (.bool x.leaf) (.slice ak x.keys.length ck) (.slice av x.vals.length cv) (.slice ac x.kids.length cc)
  have hs0 := HX0.out.size
  have hs1 := hU1.size
  have hs2 := hU2.size
  have hsz0 := HS.out
  have hnb : ∀ b cs fr, b = w.heap.size → w2.heap[b]? ≠ some (.cells cs 5 fr) := by rintro b cs fr rfl e; rw [HR2.out] at e; simp at e
  have hF1l : ∀ i, F1 i → i ≠ w.heap.size := fun i hi e => by
    subst e; exact h1.not HR1.out (by decide) (by decide) (by decide) (by decide) (by decide) (by decide) hi
  have hno := HNO.out
  have hlt1 : ∀ i, F1 i → i < w1.heap.size := fun i hi => h1.lt hi
  refine ⟨F1, _, _, _, kvs, vvs, rfl, ⟨(hno.upd hUs (fun k hk e => by have := (hno.kb k hk).1; omega) (fun k hk e => by have := hno.vb k hk; omega) (fun k hk e => by have := hno.cb k hk; omega) hnb).mono (by omega), fun k hk e => ?_, fun k hk e => ?_, fun k hk e => ?_⟩, (h1.ext hU2).upd hUs (fun i hi e => hF1l i hi e) hnb, fun i hi => ?_, ?_⟩
  · have := (hno.kb k hk).1; have := hlt1 k e; omega
  · have := hno.vb k hk; have := hlt1 k e; omega
  · have := hno.cb k hk; have := hlt1 k e; omega
  · exact (hF1 i hi).imp id (fun e => by omega)
  · exact (((HX0.out.ext).trans hU1 (fun i e => .inl e)).andExt hU2).trans hUs (fun i e => .inr (by omega))
end Go.Proofs.YtecfhfddgolpfaaGreat
