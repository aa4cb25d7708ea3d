/- The library's slices.Insert, Delete, Clone, Concat at []int and at [][]byte: what each returns and leaves. PRINTED by wip/gen/libb.py. -/
import Derived.Test.YtecfhfddgolpfaaGreatLibA
import Derived.Lib.Overlaps
import Derived.Deep.RegionLaw
namespace Go.Proofs.YtecfhfddgolpfaaGreat
open Go.RowKit

/-- append(s[:i], make(S, k)...) where it must grow. -/
theorem run_appmake {P : Program} {w : World} (t ti ty e : TypeId) (z : Value) (bytes : Nat) (ht : P.underlying t = some (.slice e)) (hti : P.underlying ti = some (.int .i64)) (hi : (P.info? e).map (fun i => (i.zero, i.size, i.bytes)) = some (some z, 1, bytes)) (hzs : z.cells = #[z])
    (g n cap k : Nat) (xs : List Value) (hl : xs.length = n) (hc : ∀ j u, xs[j]? = some u → w.cell? ((⟨g, 0, none⟩ : Addr).add j) = some u) (hgrow : cap < n + k) (hk : 0 < k)
    (h63 : n + k ≤ 1099511627776) (hb : bytes ≤ 64) :
    ∃ c w', (Builtin.append_ #[t, ti] ty #[.slice (some ⟨g, 0, none⟩) n cap, .int .i64 k]).run P w = .ok (.slice (some ⟨w.heap.size, 0, none⟩) (n + k) c) w' ∧
      w'.ownsRow 0 e 1 (.slice (some ⟨w.heap.size, 0, none⟩) (n + k) c) (n + k) (xs ++ List.replicate k z) ∧ Ext w w' := by
  obtain ⟨i, hi', hz, hsize, hby⟩ := info_parts hi
  have hbb : (n + k) * bytes ≤ 140737488355328 := calc (n + k) * bytes ≤ 1099511627776 * 64 := Nat.mul_le_mul h63 hb
        _ ≤ 140737488355328 := by decide
  have hn : ¬ (n + k ≤ cap) := by omega
  have hw : IntKind.i64.wrap (k : Int) = (k : Int) := by rw [IntKind.wrap_i64]; omega
  have hk0 : ¬ ((k : Int) < 0) := by omega
  have hkb : ¬ (281474976710656 < (k : Int) * (i.bytes : Int)) := by
    have h1 : k * bytes ≤ 1099511627776 * 64 := Nat.mul_le_mul (by omega) hb
    rw [hby]
    have h2 : ((k * bytes : Nat) : Int) ≤ 1099511627776 * 64 := by omega
    rw [Int.natCast_mul] at h2
    omega
  have h63' : ¬ (9223372036854775807 < ((n : Int) + (k : Int))) := by omega
  have h48' : ¬ (281474976710656 < Builtin.nextslicecap (n + k) cap * i.bytes) := by
    have := growslice_fits (need := n + k) (old := cap) (bytes := i.bytes) (by omega) (by rw [hby]; exact hbb)
    omega
  have hfo := run_firstCells_some (P := P) w.drew i.size n ⟨g, 0, none⟩ n cap xs (by rw [hsize]; omega) (by simpa using hc)
  have hge := grownCap_ge w (n + k) cap e
  have hcm : grownCap w (n + k) cap e ≤ maxLen := grownCap_le_maxLen w (n + k) cap e (by unfold maxLen; omega)
  have hrep : (Builtin.zeroCells #[z] k).toList = List.replicate k z := by
    apply List.ext_getElem?
    intro j
    by_cases hj : j < k
    · simp [Builtin.zeroCells, hj, Nat.mod_one]
    · simp [Builtin.zeroCells, hj]
  refine ⟨grownCap w (n + k) cap e, w.drew.alloc (.cells (xs.toArray ++ Builtin.zeroCells #[z] k ++ Builtin.zeroCells #[z] (grownCap w (n + k) cap e - (n + k))) e), ?_, ⟨by simp [hl], .inr ⟨w.heap.size, _, _, rfl, Nat.zero_le _, heap_alloc_new w.drew _, hge, hcm, ?_, ?_⟩⟩, (Upd.refl _ w).drew.alloc _⟩
  · have hfo' := hfo
    rw [hsize] at hfo'
    have hk1 : ¬ ((k : Int) ≤ 0) := by omega
    have hmx : max (k : Int) 0 = k := by omega
    have hk' : k ≠ 0 := by omega
    simp [Builtin.append_, run_underlying ht, run_underlying hti, sizeOf, typeInfo, zeroValue, hi', hz, hsize, hzs, Builtin.lenOf, hn, hw, hk', hk0, hmx, hkb, h63', h48', Question.forced, hfo', newRow, grownCap, asInt, asIntOf]
  · simp only [Array.size_append, List.size_toArray, size_zeroCells]
    simp [hl]
    omega
  · simp only [Array.toList_append, hrep]
    rw [show (n + k) * 1 = (xs ++ List.replicate k z).length by simp [hl]]
    exact List.take_left

theorem wp_copy_run {P : Program} (w : World) {o : Oper} {a : Act} {K : Act → World → Prop} {Q : Exit → Act → World → Prop} (d s : Operand) (t t' : TypeId)
    (ho : o.op = .call { callee := .builtin .copy, args := #[d, s], argTypes := #[t, t'] }) (v u : Value) (hd : a.eval d = v) (hs : a.eval s = u) {v' : Value} {w' : World}
    (hr : (Builtin.copy_ #[t, t'] o.type #[v, u]).run P w = .ok v' w') (h : K (a.put o.dst v') w') : o.wp P a w K Q := by
  unfold Oper.wp execOp
  simp only [ho, resolve, invoke, builtin, Sem.run_bind, Sem.run_pure, Result.andThen_ok, List.map_toArray, List.map_cons, List.map_nil, hd, hs, hr]
  exact h
theorem wpList_copy_run {P : Program} (w : World) {ops : Array Oper} {rest : List Oper} {o : Oper} {a : Act} {Q : Exit → Act → World → Prop} (hgd : o.guard = none) (d s : Operand) (t t' : TypeId)
    (ho : o.op = .call { callee := .builtin .copy, args := #[d, s], argTypes := #[t, t'] }) (v u : Value) (hd : a.eval d = v) (hs : a.eval s = u) {v' : Value} {w' : World}
    (hr : (Builtin.copy_ #[t, t'] o.type #[v, u]).run P w = .ok v' w') (h : wpList P ops Q rest (a.put o.dst v') w') : wpList P ops Q (o :: rest) a w :=
  wpList_plain hgd fun _ hK => wp_copy_run w d s t t' ho v u hd hs hr (hK _ _ h)
theorem step_copy_run {P : Program} {ops : Array Oper} {o : Oper} {a : Act} {w : World} {K : Act → World → Prop} {Q : Exit → Act → World → Prop} {E : Prop}
    (hg : o.guard = none) (d x : Operand) (dT sT : TypeId) (hop : o.op = Op.call { callee := Callee.builtin Builtin.copy, args := #[d, x], argTypes := #[dT, sT] })
    (v u : Value) (hd : a.eval d = v) (hx : a.eval x = u) {v' : Value} {w' : World} (hr : (Builtin.copy_ #[dT, sT] o.type #[v, u]).run P w = .ok v' w') (hK : K (a.put o.dst v') w') :
    if Region.wanted o (yielded ops a.tmps) = true then Oper.wp P o a w K Q else E := by
  have hw : Region.wanted o (yielded ops a.tmps) = true := by simp [Region.wanted, hg]
  rw [if_pos hw]
  unfold Oper.wp
  simp [execOp, hop, resolve, invoke, builtin, hd, hx, hr, Result.andThen]
  exact hK
theorem list_shift {α : Type} (cur xs : List α) (i : Nat) (x : α) (ht : cur.take xs.length = xs) (hi : i < xs.length) (hr : xs.length + 1 ≤ cur.length) :
    (((cur.take (i + 1) ++ xs.drop i ++ cur.drop (i + 1 + (xs.drop i).length)).take i ++ [x] ++ (cur.take (i + 1) ++ xs.drop i ++ cur.drop (i + 1 + (xs.drop i).length)).drop (i + 1))).take (xs.length + 1) = xs.take i ++ x :: xs.drop i := by
  obtain ⟨r, hr2⟩ : ∃ r, cur = xs ++ r := ⟨cur.drop xs.length, by rw [← List.take_append_drop xs.length cur, ht]; simp⟩
  subst hr2
  obtain ⟨a, y, b, rfl, rfl⟩ : ∃ a y b, xs = a ++ y :: b ∧ a.length = i := ⟨xs.take i, xs[i], xs.drop (i + 1), by simp, by simp; omega⟩
  clear ht
  simp only [List.length_append, List.length_cons] at hr hi
  have e1 : List.take (a.length + 1) (a ++ y :: b ++ r) = a ++ [y] := by simp [List.take_append, List.take_succ_cons, List.take_of_length_le]
  have e2 : List.drop a.length (a ++ y :: b) = y :: b := by simp
  have e3 : List.take a.length (a ++ y :: b) = a := by simp
  rw [e1, e2, e3]
  have e4 : List.take a.length (a ++ [y] ++ y :: b ++ List.drop (a.length + 1 + (y :: b).length) (a ++ y :: b ++ r)) = a := by simp
  have e5 : List.drop (a.length + 1) (a ++ [y] ++ y :: b ++ List.drop (a.length + 1 + (y :: b).length) (a ++ y :: b ++ r)) = y :: b ++ List.drop (a.length + 1 + (y :: b).length) (a ++ y :: b ++ r) := by
    rw [List.append_assoc, List.drop_append_of_le_length (by simp), List.drop_of_length_le (by simp)]; rfl
  rw [e4, e5]
  have e6 : a ++ [x] ++ (y :: b ++ List.drop (a.length + 1 + (y :: b).length) (a ++ y :: b ++ r)) = (a ++ x :: y :: b) ++ List.drop (a.length + 1 + (y :: b).length) (a ++ y :: b ++ r) := by simp
  rw [e6, List.take_append_of_le_length (by simp; omega), List.take_of_length_le (by simp; omega)]
theorem wpList_append_run {P : Program} (w : World) {ops : Array Oper} {rest : List Oper} {o : Oper} {a : Act} {Q : Exit → Act → World → Prop} (hgd : o.guard = none) (d s : Operand) (t t' : TypeId)
    (ho : o.op = .call { callee := .builtin .append, args := #[d, s], argTypes := #[t, t'] }) (v u : Value) (hd : a.eval d = v) (hs : a.eval s = u) {v' : Value} {w' : World}
    (hr : (Builtin.append_ #[t, t'] o.type #[v, u]).run P w = .ok v' w') (h : wpList P ops Q rest (a.put o.dst v') w') : wpList P ops Q (o :: rest) a w :=
  wpList_plain hgd fun _ hK => by
    unfold Oper.wp execOp
    simp only [ho, resolve, invoke, builtin, Sem.run_bind, Sem.run_pure, Result.andThen_ok, List.map_toArray, List.map_cons, List.map_nil, hd, hs, hr]
    exact hK _ _ h
theorem own_open {w : World} {E : TypeId} {v : Value} {xs : List Value} (h : Own w E v xs) (h0 : 0 < xs.length) : ∃ g cap cur, v = .slice (some ⟨g, 0, none⟩) xs.length cap ∧ w.heap[g]? = some (.cells cur E (0, 0)) ∧ xs.length ≤ cap ∧ cap ≤ maxLen ∧ cur.size = cap ∧ cur.toList.take xs.length = xs := by
  rcases h.2 with ⟨_, h⟩ | ⟨g, cap, cur, rfl, _, hg, hn, hc, hs, ht⟩
  · omega
  · exact ⟨g, cap, cur, rfl, hg, hn, hc, by simpa using hs, by simpa using ht⟩
theorem row_cell {w : World} {g : Nat} {E : TypeId} {cur : Array Value} {xs : List Value} (hg : w.heap[g]? = some (.cells cur E (0, 0))) (ht : cur.toList.take xs.length = xs) {j : Nat} {u : Value} (hu : xs[j]? = some u) : w.cell? ⟨g, j, none⟩ = some u := by
  rw [cell_heap hg]
  rw [← ht, List.getElem?_take] at hu
  split at hu
  · simpa using hu
  · simp at hu

/-! ### at []int,int -/
set_option maxRecDepth 100000 in
/-- slices.Insert of one element, at the end. -/
theorem insI_end (s : Value) (xs : List Value) (vb : Nat) (x : Value) (w : World) (hown : Own w 3 s xs) (hn : xs.length ≤ 1000000000)
    (hv : w.heap[vb]? = some (.cells #[x] 3 (0, 0))) (h1x : x.oneCell' = true) :
    Calls Tryz.prog 77 #[s, .int .i64 xs.length, .slice (some ⟨vb, 0, none⟩) 1 1] w fun e w' => ∃ v', e = .returned v' ∧ Own w' 3 v' (xs ++ [x]) ∧ Nw w s v' ∧ Upd (fun k => s.ownBlock = some k) w w' := by
  have hrd : Rd w 3 (.slice (some ⟨vb, 0, none⟩) 1 1) [x] := ⟨some ⟨vb, 0, none⟩, 1, rfl, Nat.le_refl _, by unfold maxLen; omega, fun h => by simp at h, .inr ⟨vb, 0, _, _, rfl, hv, fun j u hu => by simpa using hu⟩⟩
  have h1 : ∀ y ∈ [x], y.oneCell' = true := by simpa using h1x
  have hown' := hown
  obtain ⟨a, cap, hs, hcap⟩ : ∃ a cap, s = .slice a xs.length cap ∧ xs.length ≤ cap := by
    rcases hown.2 with ⟨rfl, h⟩ | ⟨g, cap, cur, rfl, _, _, h, _⟩
    · exact ⟨_, _, by rw [h], by omega⟩
    · exact ⟨_, _, rfl, h⟩
  subst hs
  have H1 := Lib.hid hown
  clear hown hown'
  rcases Nat.lt_or_eq_of_le hcap with hlt | heq
  · have hb4 : ¬ (cap = xs.length) := by omega
    go_enter Tryz.func77, Tryz.ntmps77
    go_wp2_with (at_builtin; refine wpList_app rfl _ _ 62 rfl 3 _ _ (by kernel_rfl) info_int rfl _ xs rfl H1.out _ [x] rfl hrd h1 (by simp; omega) (by decide) ?_)
    intro v' w' hown' hnw hU
    go_wp2
    go_ret
    exact ⟨_, rfl, hown', hnw, hU⟩
  · subst heq
    go_enter Tryz.func77, Tryz.ntmps77
    go_wp2_with (at_builtin; refine wpList_app rfl _ _ 62 rfl 3 _ _ (by kernel_rfl) info_int rfl _ xs rfl H1.out _ [x] rfl hrd h1 (by simp; omega) (by decide) ?_)
    intro v' w' hown' hnw hU
    go_wp2
    go_ret
    exact ⟨_, rfl, hown', hnw, hU⟩

set_option maxRecDepth 100000 in
set_option maxHeartbeats 1000000 in
/-- slices.Insert of one element, inside, with room: in place. -/
theorem insI_shift (g cap : Nat) (cur : Array Value) (xs : List Value) (i vb : Nat) (x : Value) (w : World) (hg : w.heap[g]? = some (.cells cur 3 (0, 0))) (hcs : cur.size = cap) (ht : cur.toList.take xs.length = xs)
    (hi : i < xs.length) (hn : xs.length ≤ 1000000000) (hroom : xs.length + 1 ≤ cap) (hcm : cap ≤ maxLen)
    (hv : w.heap[vb]? = some (.cells #[x] 3 (0, 0))) (hvb : vb ≠ g) (h1 : ∀ y ∈ xs, y.oneCell' = true) (h1x : x.oneCell' = true) :
    Calls Tryz.prog 77 #[.slice (some ⟨g, 0, none⟩) xs.length cap, .int .i64 i, .slice (some ⟨vb, 0, none⟩) 1 1] w fun e w' => e = .returned (.slice (some ⟨g, 0, none⟩) (xs.length + 1) cap) ∧
      Own w' 3 (.slice (some ⟨g, 0, none⟩) (xs.length + 1) cap) (xs.take i ++ x :: xs.drop i) ∧ Upd (fun k => k = g) w w' := by
  obtain ⟨n, hnx⟩ : ∃ n, n = xs.length := ⟨_, rfl⟩
  have hz2 : ¬ ((i : Int) = (n : Int)) := by omega
  have hsz : (Tryz.prog.info? 3).map (·.size) = some 1 := by kernel_rfl
  have hx0 : w.cell? ⟨vb, 0, none⟩ = some x := by rw [cell_heap hv]; rfl
  have hov : ∀ lb cb, (callFunc 108 #[.slice (some ⟨vb, 0, none⟩) 1 1, .slice (some ⟨g, i + 1, none⟩) lb cb]).run Tryz.prog w = .ok (.value (.bool false)) w := fun lb cb => by
    rw [run_callFunc_extern Tryz.func108 (by kernel_rfl) (by kernel_rfl) (by kernel_rfl) (e := Extern.SlicesOverlaps.overlaps #[62, 62] #[4]) (by kernel_rfl),
      Lib.run_overlaps_apart w 62 4 3 (by kernel_rfl) 1 (fun w => by kernel_rfl) ⟨vb, 0, none⟩ ⟨g, i + 1, none⟩ 1 1 lb cb hvb 3 3 1 cur.size (by simp [World.shape?, hv]) (by simp [World.shape?, hg]) (by omega) (frozen_heap hv) (frozen_heap hv)]
    rfl
  have hdl : (xs.drop i).length = n - i := by rw [List.length_drop, hnx]
  have hcl : cur.toList.length = cap := by simpa using hcs
  -- the first copy
  obtain ⟨L1, hL1⟩ : ∃ L1, L1 = cur.toList.take (i + 1) ++ xs.drop i ++ cur.toList.drop (i + 1 + (xs.drop i).length) := ⟨_, rfl⟩
  have hL1l : L1.length = cap := by rw [hL1, List.length_append, List.length_append, List.length_take, List.length_drop, List.length_drop, hcl]; omega
  have hcp1 : ∀ ty dc sc, (Builtin.copy_ #[62, 62] ty #[.slice (some ⟨g, i + 1, none⟩) (n - i) dc, .slice (some ⟨g, i, none⟩) (n + 1 - i) sc]).run Tryz.prog w.drew = .ok (goInt (xs.drop i).length) (w.drew.setRow g L1.toArray) := fun ty dc sc => by
    rw [hL1]
    exact run_copy_row Tryz.prog w.drew _ _ ty 3 g (i + 1) (n - i) dc ⟨g, i, none⟩ (n + 1 - i) sc cur 3 (xs.drop i) (by kernel_rfl) hsz hg (by rw [hdl]; simp only [Nat.min_def]; split <;> omega)
      (fun j v hj => by rw [Addr.add_lit]; rw [List.getElem?_drop] at hj; exact row_cell hg ht hj) (by rw [hdl, hcs]; omega) (fun v hv => h1 v (List.mem_of_mem_drop hv))
  obtain ⟨W1, hW1⟩ : ∃ W1, W1 = w.drew.setRow g L1.toArray := ⟨_, rfl⟩
  have hg1 : W1.heap[g]? = some (.cells L1.toArray 3 (0, 0)) := by rw [hW1]; exact setRow_heap w.drew g cur _ _ _ hg
  have hU1 : Upd (fun k => k = g) w W1 := by rw [hW1]; exact (Upd.refl _ w).drew.trans (setRow_upd (w := w.drew) _ hg) (fun _ h => .inl h)
  have hv1 : W1.heap[vb]? = some (.cells #[x] 3 (0, 0)) := hU1.heap hv hvb
  have hcp2 : ∀ ty dc, (Builtin.copy_ #[62, 62] ty #[.slice (some ⟨g, i, none⟩) (n + 1 - i) dc, .slice (some ⟨vb, 0, none⟩) 1 1]).run Tryz.prog W1 = .ok (goInt [x].length) (W1.setRow g (L1.take i ++ [x] ++ L1.drop (i + [x].length)).toArray) := fun ty dc =>
    run_copy_row Tryz.prog W1 _ _ ty 3 g i (n + 1 - i) dc ⟨vb, 0, none⟩ 1 1 L1.toArray 3 [x] (by kernel_rfl) hsz hg1 (by simp only [Nat.min_def, List.length_singleton]; split <;> omega)
      (fun j v hj => by rw [Addr.add_lit, cell_heap hv1]; simpa using hj) (by rw [List.size_toArray, hL1l]; simp only [List.length_singleton]; omega) (by simpa using h1x)
  have hfin : (L1.take i ++ [x] ++ L1.drop (i + [x].length)).take (n + 1) = xs.take i ++ x :: xs.drop i := by
    rw [hL1, hnx]
    exact list_shift cur.toList xs i x ht hi (by rw [hcl]; omega)
  rw [← hW1] at hcp1
  have hw1 : IntKind.i64.wrap ((i : Int) + 1) = (i : Int) + 1 := by rw [IntKind.wrap_i64]; omega
  have hb1 : (0 : Int) ≤ (i : Int) + 1 := by omega
  have hin : i ≤ n := by omega
  have htn : ((i : Int) + 1).toNat = i + 1 := by omega
  have hb2 : ¬ (cap = i + 1) := by omega
  have hb3 : (i : Int) ≤ (n : Int) + 1 := by omega
  have hb4 : ¬ (cap = i) := by omega
  have hcm' : cap ≤ 9223372036854775807 := by unfold maxLen at hcm; omega
  rw [← hnx] at hn hroom ⊢
  have HF := Lib.hid hfin
  have HG := Lib.hid hg1
  have HU := Lib.hid hU1
  have HX := Lib.hid hnx
  have HL := Lib.hid hL1l
  have HW := Lib.hid hW1
  clear hfin hg1 hU1 hL1 hdl hL1l hW1 hcl hcs hg hv hv1 ht hnx hx0
  go_enter Tryz.func77, Tryz.ntmps77
  go_wp2_with (simp only [hov])
  go_region_law (refine step_copy_run rfl _ _ 62 62 rfl _ _ (by simp [Act.eval, Act.put]) (by simp [Act.eval, Act.put]) (hcp1 _ _ _) ?_)
  go_wp2_with (with_reducible refine wpList_copy_run _ rfl _ _ 62 62 rfl _ _ rfl rfl (hcp2 _ _) ?_)
  go_ret
  have hlen : (xs.take i ++ x :: xs.drop i).length = n + 1 := by simp only [List.length_append, List.length_take, List.length_cons, List.length_drop]; rw [← HX.out]; omega
  have hL2 : (L1.take i ++ [x] ++ L1.drop (i + [x].length)).length = cap := by simp only [List.length_append, List.length_take, List.length_drop, List.length_singleton, HL.out]; omega
  refine ⟨rfl, ⟨by omega, .inr ⟨g, cap, _, by rw [hlen], Nat.zero_le _, setRow_heap W1 g _ _ _ _ HG.out, by omega, by unfold maxLen; omega, ?_, ?_⟩⟩, HU.out.trans (setRow_upd _ HG.out) (fun _ h => .inl h)⟩
  · simpa using hL2
  · rw [hlen, Nat.mul_one]
    simpa using HF.out

set_option maxRecDepth 100000 in
set_option maxHeartbeats 1000000 in
/-- slices.Insert of one element, inside, no room: a new row. -/
theorem insI_grow (g cap : Nat) (cur : Array Value) (xs : List Value) (i vb : Nat) (x : Value) (w : World) (hg : w.heap[g]? = some (.cells cur 3 (0, 0))) (_ : cur.size = cap) (ht : cur.toList.take xs.length = xs) (hnc : xs.length ≤ cap)
    (hi : i < xs.length) (hn : xs.length ≤ 1000000000) (hroom : cap < xs.length + 1)
    (hv : w.heap[vb]? = some (.cells #[x] 3 (0, 0))) (h1 : ∀ y ∈ xs, y.oneCell' = true) (h1x : x.oneCell' = true) :
    Calls Tryz.prog 77 #[.slice (some ⟨g, 0, none⟩) xs.length cap, .int .i64 i, .slice (some ⟨vb, 0, none⟩) 1 1] w fun e w' => ∃ v', e = .returned v' ∧
      Own w' 3 v' (xs.take i ++ x :: xs.drop i) ∧ (∀ k, v'.ownBlock = some k → w.heap.size ≤ k) ∧ Ext w w' := by
  obtain ⟨n, hnx⟩ : ∃ n, n = xs.length := ⟨_, rfl⟩
  have hz2 : ¬ ((i : Int) = (n : Int)) := by omega
  have hsz : (Tryz.prog.info? 3).map (·.size) = some 1 := by kernel_rfl
  obtain ⟨z, hz⟩ : ∃ z : Value, z = .int .i64 0 := ⟨_, rfl⟩
  have hcell : ∀ j u, (xs.take i)[j]? = some u → w.cell? ((⟨g, 0, none⟩ : Addr).add j) = some u := fun j u hu => by
    rw [Addr.add_lit, Nat.zero_add]
    rw [List.getElem?_take] at hu
    split at hu
    · exact row_cell hg ht hu
    · simp at hu
  obtain ⟨c2, W1, hrun, hown, hU⟩ := run_appmake (P := Tryz.prog) 62 3 62 3 z _ (by kernel_rfl) (by kernel_rfl) (by rw [hz]; exact info_int) (by rw [hz]; rfl) g i cap (n + 1 - i) (xs.take i) (by rw [List.length_take]; omega) hcell (by omega) (by omega) (by omega) (by decide)
  rw [show i + (n + 1 - i) = n + 1 by omega] at hrun hown
  have hkI : ((n + 1 - i : Nat) : Int) = (n : Int) + 1 - (i : Int) := by omega
  rw [hkI] at hrun
  obtain ⟨g2, hg2⟩ : ∃ g2, g2 = w.heap.size := ⟨_, rfl⟩
  rw [← hg2] at hrun hown
  obtain ⟨_, hh | ⟨g3, c3, cur2, hve, _, hh2, hc2a, hc2b, hs2, ht2⟩⟩ := hown
  · simp at hh
  simp only [Value.slice.injEq, Option.some.injEq, Addr.mk.injEq, and_true, true_and] at hve
  obtain ⟨rfl, rfl⟩ := hve
  simp only [Nat.mul_one] at hs2 ht2
  have hcl2 : cur2.toList.length = c2 := by simpa using hs2
  have hv1 : W1.heap[vb]? = some (.cells #[x] 3 (0, 0)) := hU.heap hv (fun h => h)
  have hg1 : W1.heap[g]? = some (.cells cur 3 (0, 0)) := hU.heap hg (fun h => h)
  have hgne : g ≠ g2 := by have := heap_lt hg; omega
  -- the copy of the new element
  obtain ⟨L1, hL1⟩ : ∃ L1, L1 = cur2.toList.take i ++ [x] ++ cur2.toList.drop (i + [x].length) := ⟨_, rfl⟩
  have hcp1 : ∀ ty dc, (Builtin.copy_ #[62, 62] ty #[.slice (some ⟨g2, i, none⟩) (n + 1 - i) dc, .slice (some ⟨vb, 0, none⟩) 1 1]).run Tryz.prog W1 = .ok (goInt [x].length) (W1.setRow g2 L1.toArray) := fun ty dc => by
    rw [hL1]
    exact run_copy_row Tryz.prog W1 _ _ ty 3 g2 i (n + 1 - i) dc ⟨vb, 0, none⟩ 1 1 cur2 3 [x] (by kernel_rfl) hsz hh2 (by simp only [Nat.min_def, List.length_singleton]; split <;> omega)
      (fun j v hj => by rw [Addr.add_lit, cell_heap hv1]; simpa using hj) (by rw [hs2]; simp only [List.length_singleton]; omega) (by simpa using h1x)
  obtain ⟨W2, hW2⟩ : ∃ W2, W2 = W1.setRow g2 L1.toArray := ⟨_, rfl⟩
  have hh3 : W2.heap[g2]? = some (.cells L1.toArray 3 (0, 0)) := by rw [hW2]; exact setRow_heap W1 g2 _ _ _ _ hh2
  have hU2 : Ext w W2 := by rw [hW2]; exact hU.trans (setRow_upd _ hh2) (fun k hk => .inr (by omega))
  have hg3 : W2.heap[g]? = some (.cells cur 3 (0, 0)) := hU2.heap hg (fun h => h)
  have hL1l : L1.length = c2 := by rw [hL1, List.length_append, List.length_append, List.length_take, List.length_drop, hcl2, List.length_singleton]; omega
  have hdl : (xs.drop i).length = n - i := by rw [List.length_drop, hnx]
  obtain ⟨L2, hL2⟩ : ∃ L2, L2 = L1.take (i + 1) ++ xs.drop i ++ L1.drop (i + 1 + (xs.drop i).length) := ⟨_, rfl⟩
  have hcp2 : ∀ ty dc sc, (Builtin.copy_ #[62, 62] ty #[.slice (some ⟨g2, i + 1, none⟩) (n - i) dc, .slice (some ⟨g, i, none⟩) (n - i) sc]).run Tryz.prog W2.drew = .ok (goInt (xs.drop i).length) (W2.drew.setRow g2 L2.toArray) := fun ty dc sc => by
    rw [hL2]
    exact run_copy_row Tryz.prog W2.drew _ _ ty 3 g2 (i + 1) (n - i) dc ⟨g, i, none⟩ (n - i) sc L1.toArray 3 (xs.drop i) (by kernel_rfl) hsz hh3 (by rw [hdl]; simp only [Nat.min_def]; split <;> omega)
      (fun j v hj => by rw [Addr.add_lit]; rw [List.getElem?_drop] at hj; exact (row_cell (w := W2) hg3 ht hj)) (by rw [hdl, List.size_toArray, hL1l]; omega) (fun v hv => h1 v (List.mem_of_mem_drop hv))
  have hcp2' : ∀ ty sc, c2 = i + 1 → (Builtin.copy_ #[62, 62] ty #[.slice (some ⟨g2, 0, none⟩) (n - i) 0, .slice (some ⟨g, i, none⟩) (n - i) sc]).run Tryz.prog W2.drew = .ok (goInt (xs.drop i).length) (W2.drew.setRow g2 L2.toArray) := fun ty sc h => by omega
  have hfin : L2.take (n + 1) = xs.take i ++ x :: xs.drop i := by
    have e1 : cur2.toList.take i = xs.take i := by
      have := congrArg (List.take i) ht2
      rw [List.take_take, Nat.min_eq_left (by omega)] at this
      rw [this, List.take_append_of_le_length (by rw [List.length_take]; omega), List.take_take, Nat.min_self]
    have e2 : L1.take (i + 1) = xs.take i ++ [x] := by
      rw [hL1, e1, List.take_append_of_le_length (by simp only [List.length_append, List.length_take, List.length_singleton]; omega), List.take_of_length_le (by simp only [List.length_append, List.length_take, List.length_singleton]; omega)]
    rw [hL2, e2, List.take_append_of_le_length (by simp only [List.length_append, List.length_take, List.length_singleton, List.length_drop]; omega), List.take_of_length_le (by simp only [List.length_append, List.length_take, List.length_singleton, List.length_drop]; omega)]
    simp
  have hL2l : L2.length = c2 := by rw [hL2]; simp only [List.length_append, List.length_take, List.length_drop, hL1l]; omega
  rw [← hW2] at hcp1
  have hw1 : IntKind.i64.wrap ((i : Int) + 1) = (i : Int) + 1 := by rw [IntKind.wrap_i64]; omega
  have hw2 : IntKind.i64.wrap ((n : Int) + 1 - (i : Int)) = (n : Int) + 1 - (i : Int) := by rw [IntKind.wrap_i64]; omega
  have hb1 : (0 : Int) ≤ (i : Int) + 1 := by omega
  have hin : i ≤ n := by omega
  have htn : ((i : Int) + 1).toNat = i + 1 := by omega
  have hb2 : ¬ (cap = i + 1) ∨ True := .inr trivial
  have hb3 : (i : Int) ≤ (n : Int) + 1 := by omega
  have hb4 : ¬ (cap = i) := by omega
  have hb5 : ¬ (c2 = i) := by omega
  have hb6 : ¬ (c2 = i + 1) := by omega
  have hb7 : ¬ (cap = 0) := by omega
  have hcm' : cap ≤ 9223372036854775807 := by omega
  have hcm2 : c2 ≤ 9223372036854775807 := by unfold maxLen at hc2b; omega
  have hncap : n ≤ cap := by omega
  rw [← hnx] at hn hroom hi ⊢
  have HF := Lib.hid hfin
  have HG := Lib.hid hh3
  have HU := Lib.hid hU2
  have HX := Lib.hid hnx
  have HL := Lib.hid hL2l
  have HW := Lib.hid hg2
  clear hfin hU2 hU hL1 hL2 hdl hL1l hL2l hW2 hg hv hv1 ht hnx hh2 hh3 hs2 ht2 hcl2 hg1 hg3 hg2 hb2 hcp2' hkI
  go_enter Tryz.func77, Tryz.ntmps77
  go_wp2_with (at_builtin; refine wpList_append_run _ rfl _ _ 62 3 rfl _ _ rfl rfl hrun ?_)
  go_region_law (refine step_copy_run rfl _ _ 62 62 rfl _ _ (by simp [Act.eval, Act.put]) (by simp [Act.eval, Act.put]) (hcp2 _ _ _) ?_)
  go_wp2
  go_ret
  have hlen : (xs.take i ++ x :: xs.drop i).length = n + 1 := by simp only [List.length_append, List.length_take, List.length_cons, List.length_drop]; rw [← HX.out]; omega
  refine ⟨.slice (some ⟨g2, 0, none⟩) (n + 1) c2, rfl, ⟨by omega, .inr ⟨g2, c2, _, by rw [hlen], Nat.zero_le _, setRow_heap W2.drew g2 _ _ _ _ HG.out, by omega, by unfold maxLen; omega, ?_, ?_⟩⟩, fun k hk => ?_, HU.out.trans ((Upd.refl _ W2).drew.trans (setRow_upd (w := W2.drew) _ HG.out) (fun _ h => .inl h)) (fun k hk => .inr (by have := HW.out; omega))⟩
  · simpa using HL.out
  · rw [hlen, Nat.mul_one]
    simpa using HF.out
  · simp [Value.ownBlock] at hk
    have := HW.out
    omega

/-- slices.Insert of one element. -/
theorem insI_any (s : Value) (xs : List Value) (i vb : Nat) (x : Value) (w : World) (hown : Own w 3 s xs) (hi : i ≤ xs.length) (hn : xs.length ≤ 1000000000)
    (hv : w.heap[vb]? = some (.cells #[x] 3 (0, 0))) (hvb : s.ownBlock ≠ some vb) (h1 : ∀ y ∈ xs, y.oneCell' = true) (h1x : x.oneCell' = true) :
    Calls Tryz.prog 77 #[s, .int .i64 i, .slice (some ⟨vb, 0, none⟩) 1 1] w fun e w' => ∃ v', e = .returned v' ∧ Own w' 3 v' (xs.take i ++ x :: xs.drop i) ∧ Nw w s v' ∧ Upd (fun k => s.ownBlock = some k) w w' := by
  by_cases hin : i = xs.length
  · subst hin
    refine (insI_end s xs vb x w hown hn hv h1x).mono ?_
    rintro e w' ⟨v', he, ho, hnw, hU⟩
    exact ⟨v', he, by simpa using ho, hnw, hU⟩
  · obtain ⟨g, cap, cur, rfl, hg, hnc, hcm, hcs, ht⟩ := own_open hown (by omega)
    by_cases hroom : xs.length + 1 ≤ cap
    · refine (insI_shift g cap cur xs i vb x w hg hcs ht (by omega) hn hroom hcm hv (fun h => hvb (by simp [Value.ownBlock, h])) h1 h1x).mono ?_
      rintro e w' ⟨he, ho, hU⟩
      exact ⟨_, he, ho, fun k hk => .inl (by simpa [Value.ownBlock] using hk), hU.mono (fun k _ hk => by simp [Value.ownBlock, hk])⟩
    · refine (insI_grow g cap cur xs i vb x w hg hcs ht hnc (by omega) hn (by omega) hv h1 h1x).mono ?_
      rintro e w' ⟨v', he, ho, hk, hU⟩
      exact ⟨v', he, ho, fun k hk' => .inr (hk k hk'), Upd.ext hU⟩

/-! ### at [][]byte,[]byte -/
set_option maxRecDepth 100000 in
/-- slices.Insert of one element, at the end. -/
theorem insB_end (s : Value) (xs : List Value) (vb : Nat) (x : Value) (w : World) (hown : Own w 23 s xs) (hn : xs.length ≤ 1000000000)
    (hv : w.heap[vb]? = some (.cells #[x] 23 (0, 0))) (h1x : x.oneCell' = true) :
    Calls Tryz.prog 76 #[s, .int .i64 xs.length, .slice (some ⟨vb, 0, none⟩) 1 1] w fun e w' => ∃ v', e = .returned v' ∧ Own w' 23 v' (xs ++ [x]) ∧ Nw w s v' ∧ Upd (fun k => s.ownBlock = some k) w w' := by
  have hrd : Rd w 23 (.slice (some ⟨vb, 0, none⟩) 1 1) [x] := ⟨some ⟨vb, 0, none⟩, 1, rfl, Nat.le_refl _, by unfold maxLen; omega, fun h => by simp at h, .inr ⟨vb, 0, _, _, rfl, hv, fun j u hu => by simpa using hu⟩⟩
  have h1 : ∀ y ∈ [x], y.oneCell' = true := by simpa using h1x
  have hown' := hown
  obtain ⟨a, cap, hs, hcap⟩ : ∃ a cap, s = .slice a xs.length cap ∧ xs.length ≤ cap := by
    rcases hown.2 with ⟨rfl, h⟩ | ⟨g, cap, cur, rfl, _, _, h, _⟩
    · exact ⟨_, _, by rw [h], by omega⟩
    · exact ⟨_, _, rfl, h⟩
  subst hs
  have H1 := Lib.hid hown
  clear hown hown'
  rcases Nat.lt_or_eq_of_le hcap with hlt | heq
  · have hb4 : ¬ (cap = xs.length) := by omega
    go_enter Tryz.func76, Tryz.ntmps76
    go_wp2_with (at_builtin; refine wpList_app rfl _ _ 100 rfl 23 _ _ (by kernel_rfl) info_bs rfl _ xs rfl H1.out _ [x] rfl hrd h1 (by simp; omega) (by decide) ?_)
    intro v' w' hown' hnw hU
    go_wp2
    go_ret
    exact ⟨_, rfl, hown', hnw, hU⟩
  · subst heq
    go_enter Tryz.func76, Tryz.ntmps76
    go_wp2_with (at_builtin; refine wpList_app rfl _ _ 100 rfl 23 _ _ (by kernel_rfl) info_bs rfl _ xs rfl H1.out _ [x] rfl hrd h1 (by simp; omega) (by decide) ?_)
    intro v' w' hown' hnw hU
    go_wp2
    go_ret
    exact ⟨_, rfl, hown', hnw, hU⟩

set_option maxRecDepth 100000 in
set_option maxHeartbeats 1000000 in
/-- slices.Insert of one element, inside, with room: in place. -/
theorem insB_shift (g cap : Nat) (cur : Array Value) (xs : List Value) (i vb : Nat) (x : Value) (w : World) (hg : w.heap[g]? = some (.cells cur 23 (0, 0))) (hcs : cur.size = cap) (ht : cur.toList.take xs.length = xs)
    (hi : i < xs.length) (hn : xs.length ≤ 1000000000) (hroom : xs.length + 1 ≤ cap) (hcm : cap ≤ maxLen)
    (hv : w.heap[vb]? = some (.cells #[x] 23 (0, 0))) (hvb : vb ≠ g) (h1 : ∀ y ∈ xs, y.oneCell' = true) (h1x : x.oneCell' = true) :
    Calls Tryz.prog 76 #[.slice (some ⟨g, 0, none⟩) xs.length cap, .int .i64 i, .slice (some ⟨vb, 0, none⟩) 1 1] w fun e w' => e = .returned (.slice (some ⟨g, 0, none⟩) (xs.length + 1) cap) ∧
      Own w' 23 (.slice (some ⟨g, 0, none⟩) (xs.length + 1) cap) (xs.take i ++ x :: xs.drop i) ∧ Upd (fun k => k = g) w w' := by
  obtain ⟨n, hnx⟩ : ∃ n, n = xs.length := ⟨_, rfl⟩
  have hz2 : ¬ ((i : Int) = (n : Int)) := by omega
  have hsz : (Tryz.prog.info? 23).map (·.size) = some 1 := by kernel_rfl
  have hx0 : w.cell? ⟨vb, 0, none⟩ = some x := by rw [cell_heap hv]; rfl
  have hov : ∀ lb cb, (callFunc 106 #[.slice (some ⟨vb, 0, none⟩) 1 1, .slice (some ⟨g, i + 1, none⟩) lb cb]).run Tryz.prog w = .ok (.value (.bool false)) w := fun lb cb => by
    rw [run_callFunc_extern Tryz.func106 (by kernel_rfl) (by kernel_rfl) (by kernel_rfl) (e := Extern.SlicesOverlaps.overlaps #[100, 100] #[4]) (by kernel_rfl),
      Lib.run_overlaps_apart w 100 4 23 (by kernel_rfl) 1 (fun w => by kernel_rfl) ⟨vb, 0, none⟩ ⟨g, i + 1, none⟩ 1 1 lb cb hvb 23 23 1 cur.size (by simp [World.shape?, hv]) (by simp [World.shape?, hg]) (by omega) (frozen_heap hv) (frozen_heap hv)]
    rfl
  have hdl : (xs.drop i).length = n - i := by rw [List.length_drop, hnx]
  have hcl : cur.toList.length = cap := by simpa using hcs
  -- the first copy
  obtain ⟨L1, hL1⟩ : ∃ L1, L1 = cur.toList.take (i + 1) ++ xs.drop i ++ cur.toList.drop (i + 1 + (xs.drop i).length) := ⟨_, rfl⟩
  have hL1l : L1.length = cap := by rw [hL1, List.length_append, List.length_append, List.length_take, List.length_drop, List.length_drop, hcl]; omega
  have hcp1 : ∀ ty dc sc, (Builtin.copy_ #[100, 100] ty #[.slice (some ⟨g, i + 1, none⟩) (n - i) dc, .slice (some ⟨g, i, none⟩) (n + 1 - i) sc]).run Tryz.prog w.drew = .ok (goInt (xs.drop i).length) (w.drew.setRow g L1.toArray) := fun ty dc sc => by
    rw [hL1]
    exact run_copy_row Tryz.prog w.drew _ _ ty 23 g (i + 1) (n - i) dc ⟨g, i, none⟩ (n + 1 - i) sc cur 23 (xs.drop i) (by kernel_rfl) hsz hg (by rw [hdl]; simp only [Nat.min_def]; split <;> omega)
      (fun j v hj => by rw [Addr.add_lit]; rw [List.getElem?_drop] at hj; exact row_cell hg ht hj) (by rw [hdl, hcs]; omega) (fun v hv => h1 v (List.mem_of_mem_drop hv))
  obtain ⟨W1, hW1⟩ : ∃ W1, W1 = w.drew.setRow g L1.toArray := ⟨_, rfl⟩
  have hg1 : W1.heap[g]? = some (.cells L1.toArray 23 (0, 0)) := by rw [hW1]; exact setRow_heap w.drew g cur _ _ _ hg
  have hU1 : Upd (fun k => k = g) w W1 := by rw [hW1]; exact (Upd.refl _ w).drew.trans (setRow_upd (w := w.drew) _ hg) (fun _ h => .inl h)
  have hv1 : W1.heap[vb]? = some (.cells #[x] 23 (0, 0)) := hU1.heap hv hvb
  have hcp2 : ∀ ty dc, (Builtin.copy_ #[100, 100] ty #[.slice (some ⟨g, i, none⟩) (n + 1 - i) dc, .slice (some ⟨vb, 0, none⟩) 1 1]).run Tryz.prog W1 = .ok (goInt [x].length) (W1.setRow g (L1.take i ++ [x] ++ L1.drop (i + [x].length)).toArray) := fun ty dc =>
    run_copy_row Tryz.prog W1 _ _ ty 23 g i (n + 1 - i) dc ⟨vb, 0, none⟩ 1 1 L1.toArray 23 [x] (by kernel_rfl) hsz hg1 (by simp only [Nat.min_def, List.length_singleton]; split <;> omega)
      (fun j v hj => by rw [Addr.add_lit, cell_heap hv1]; simpa using hj) (by rw [List.size_toArray, hL1l]; simp only [List.length_singleton]; omega) (by simpa using h1x)
  have hfin : (L1.take i ++ [x] ++ L1.drop (i + [x].length)).take (n + 1) = xs.take i ++ x :: xs.drop i := by
    rw [hL1, hnx]
    exact list_shift cur.toList xs i x ht hi (by rw [hcl]; omega)
  rw [← hW1] at hcp1
  have hw1 : IntKind.i64.wrap ((i : Int) + 1) = (i : Int) + 1 := by rw [IntKind.wrap_i64]; omega
  have hb1 : (0 : Int) ≤ (i : Int) + 1 := by omega
  have hin : i ≤ n := by omega
  have htn : ((i : Int) + 1).toNat = i + 1 := by omega
  have hb2 : ¬ (cap = i + 1) := by omega
  have hb3 : (i : Int) ≤ (n : Int) + 1 := by omega
  have hb4 : ¬ (cap = i) := by omega
  have hcm' : cap ≤ 9223372036854775807 := by unfold maxLen at hcm; omega
  rw [← hnx] at hn hroom ⊢
  have HF := Lib.hid hfin
  have HG := Lib.hid hg1
  have HU := Lib.hid hU1
  have HX := Lib.hid hnx
  have HL := Lib.hid hL1l
  have HW := Lib.hid hW1
  clear hfin hg1 hU1 hL1 hdl hL1l hW1 hcl hcs hg hv hv1 ht hnx hx0
  go_enter Tryz.func76, Tryz.ntmps76
  go_wp2_with (simp only [hov])
  go_region_law (refine step_copy_run rfl _ _ 100 100 rfl _ _ (by simp [Act.eval, Act.put]) (by simp [Act.eval, Act.put]) (hcp1 _ _ _) ?_)
  go_wp2_with (with_reducible refine wpList_copy_run _ rfl _ _ 100 100 rfl _ _ rfl rfl (hcp2 _ _) ?_)
  go_ret
  have hlen : (xs.take i ++ x :: xs.drop i).length = n + 1 := by simp only [List.length_append, List.length_take, List.length_cons, List.length_drop]; rw [← HX.out]; omega
  have hL2 : (L1.take i ++ [x] ++ L1.drop (i + [x].length)).length = cap := by simp only [List.length_append, List.length_take, List.length_drop, List.length_singleton, HL.out]; omega
  refine ⟨rfl, ⟨by omega, .inr ⟨g, cap, _, by rw [hlen], Nat.zero_le _, setRow_heap W1 g _ _ _ _ HG.out, by omega, by unfold maxLen; omega, ?_, ?_⟩⟩, HU.out.trans (setRow_upd _ HG.out) (fun _ h => .inl h)⟩
  · simpa using hL2
  · rw [hlen, Nat.mul_one]
    simpa using HF.out

set_option maxRecDepth 100000 in
set_option maxHeartbeats 1000000 in
/-- slices.Insert of one element, inside, no room: a new row. -/
theorem insB_grow (g cap : Nat) (cur : Array Value) (xs : List Value) (i vb : Nat) (x : Value) (w : World) (hg : w.heap[g]? = some (.cells cur 23 (0, 0))) (_ : cur.size = cap) (ht : cur.toList.take xs.length = xs) (hnc : xs.length ≤ cap)
    (hi : i < xs.length) (hn : xs.length ≤ 1000000000) (hroom : cap < xs.length + 1)
    (hv : w.heap[vb]? = some (.cells #[x] 23 (0, 0))) (h1 : ∀ y ∈ xs, y.oneCell' = true) (h1x : x.oneCell' = true) :
    Calls Tryz.prog 76 #[.slice (some ⟨g, 0, none⟩) xs.length cap, .int .i64 i, .slice (some ⟨vb, 0, none⟩) 1 1] w fun e w' => ∃ v', e = .returned v' ∧
      Own w' 23 v' (xs.take i ++ x :: xs.drop i) ∧ (∀ k, v'.ownBlock = some k → w.heap.size ≤ k) ∧ Ext w w' := by
  obtain ⟨n, hnx⟩ : ∃ n, n = xs.length := ⟨_, rfl⟩
  have hz2 : ¬ ((i : Int) = (n : Int)) := by omega
  have hsz : (Tryz.prog.info? 23).map (·.size) = some 1 := by kernel_rfl
  obtain ⟨z, hz⟩ : ∃ z : Value, z = .slice none 0 0 := ⟨_, rfl⟩
  have hcell : ∀ j u, (xs.take i)[j]? = some u → w.cell? ((⟨g, 0, none⟩ : Addr).add j) = some u := fun j u hu => by
    rw [Addr.add_lit, Nat.zero_add]
    rw [List.getElem?_take] at hu
    split at hu
    · exact row_cell hg ht hu
    · simp at hu
  obtain ⟨c2, W1, hrun, hown, hU⟩ := run_appmake (P := Tryz.prog) 100 3 100 23 z _ (by kernel_rfl) (by kernel_rfl) (by rw [hz]; exact info_bs) (by rw [hz]; rfl) g i cap (n + 1 - i) (xs.take i) (by rw [List.length_take]; omega) hcell (by omega) (by omega) (by omega) (by decide)
  rw [show i + (n + 1 - i) = n + 1 by omega] at hrun hown
  have hkI : ((n + 1 - i : Nat) : Int) = (n : Int) + 1 - (i : Int) := by omega
  rw [hkI] at hrun
  obtain ⟨g2, hg2⟩ : ∃ g2, g2 = w.heap.size := ⟨_, rfl⟩
  rw [← hg2] at hrun hown
  obtain ⟨_, hh | ⟨g3, c3, cur2, hve, _, hh2, hc2a, hc2b, hs2, ht2⟩⟩ := hown
  · simp at hh
  simp only [Value.slice.injEq, Option.some.injEq, Addr.mk.injEq, and_true, true_and] at hve
  obtain ⟨rfl, rfl⟩ := hve
  simp only [Nat.mul_one] at hs2 ht2
  have hcl2 : cur2.toList.length = c2 := by simpa using hs2
  have hv1 : W1.heap[vb]? = some (.cells #[x] 23 (0, 0)) := hU.heap hv (fun h => h)
  have hg1 : W1.heap[g]? = some (.cells cur 23 (0, 0)) := hU.heap hg (fun h => h)
  have hgne : g ≠ g2 := by have := heap_lt hg; omega
  -- the copy of the new element
  obtain ⟨L1, hL1⟩ : ∃ L1, L1 = cur2.toList.take i ++ [x] ++ cur2.toList.drop (i + [x].length) := ⟨_, rfl⟩
  have hcp1 : ∀ ty dc, (Builtin.copy_ #[100, 100] ty #[.slice (some ⟨g2, i, none⟩) (n + 1 - i) dc, .slice (some ⟨vb, 0, none⟩) 1 1]).run Tryz.prog W1 = .ok (goInt [x].length) (W1.setRow g2 L1.toArray) := fun ty dc => by
    rw [hL1]
    exact run_copy_row Tryz.prog W1 _ _ ty 23 g2 i (n + 1 - i) dc ⟨vb, 0, none⟩ 1 1 cur2 23 [x] (by kernel_rfl) hsz hh2 (by simp only [Nat.min_def, List.length_singleton]; split <;> omega)
      (fun j v hj => by rw [Addr.add_lit, cell_heap hv1]; simpa using hj) (by rw [hs2]; simp only [List.length_singleton]; omega) (by simpa using h1x)
  obtain ⟨W2, hW2⟩ : ∃ W2, W2 = W1.setRow g2 L1.toArray := ⟨_, rfl⟩
  have hh3 : W2.heap[g2]? = some (.cells L1.toArray 23 (0, 0)) := by rw [hW2]; exact setRow_heap W1 g2 _ _ _ _ hh2
  have hU2 : Ext w W2 := by rw [hW2]; exact hU.trans (setRow_upd _ hh2) (fun k hk => .inr (by omega))
  have hg3 : W2.heap[g]? = some (.cells cur 23 (0, 0)) := hU2.heap hg (fun h => h)
  have hL1l : L1.length = c2 := by rw [hL1, List.length_append, List.length_append, List.length_take, List.length_drop, hcl2, List.length_singleton]; omega
  have hdl : (xs.drop i).length = n - i := by rw [List.length_drop, hnx]
  obtain ⟨L2, hL2⟩ : ∃ L2, L2 = L1.take (i + 1) ++ xs.drop i ++ L1.drop (i + 1 + (xs.drop i).length) := ⟨_, rfl⟩
  have hcp2 : ∀ ty dc sc, (Builtin.copy_ #[100, 100] ty #[.slice (some ⟨g2, i + 1, none⟩) (n - i) dc, .slice (some ⟨g, i, none⟩) (n - i) sc]).run Tryz.prog W2.drew = .ok (goInt (xs.drop i).length) (W2.drew.setRow g2 L2.toArray) := fun ty dc sc => by
    rw [hL2]
    exact run_copy_row Tryz.prog W2.drew _ _ ty 23 g2 (i + 1) (n - i) dc ⟨g, i, none⟩ (n - i) sc L1.toArray 23 (xs.drop i) (by kernel_rfl) hsz hh3 (by rw [hdl]; simp only [Nat.min_def]; split <;> omega)
      (fun j v hj => by rw [Addr.add_lit]; rw [List.getElem?_drop] at hj; exact (row_cell (w := W2) hg3 ht hj)) (by rw [hdl, List.size_toArray, hL1l]; omega) (fun v hv => h1 v (List.mem_of_mem_drop hv))
  have hcp2' : ∀ ty sc, c2 = i + 1 → (Builtin.copy_ #[100, 100] ty #[.slice (some ⟨g2, 0, none⟩) (n - i) 0, .slice (some ⟨g, i, none⟩) (n - i) sc]).run Tryz.prog W2.drew = .ok (goInt (xs.drop i).length) (W2.drew.setRow g2 L2.toArray) := fun ty sc h => by omega
  have hfin : L2.take (n + 1) = xs.take i ++ x :: xs.drop i := by
    have e1 : cur2.toList.take i = xs.take i := by
      have := congrArg (List.take i) ht2
      rw [List.take_take, Nat.min_eq_left (by omega)] at this
      rw [this, List.take_append_of_le_length (by rw [List.length_take]; omega), List.take_take, Nat.min_self]
    have e2 : L1.take (i + 1) = xs.take i ++ [x] := by
      rw [hL1, e1, List.take_append_of_le_length (by simp only [List.length_append, List.length_take, List.length_singleton]; omega), List.take_of_length_le (by simp only [List.length_append, List.length_take, List.length_singleton]; omega)]
    rw [hL2, e2, List.take_append_of_le_length (by simp only [List.length_append, List.length_take, List.length_singleton, List.length_drop]; omega), List.take_of_length_le (by simp only [List.length_append, List.length_take, List.length_singleton, List.length_drop]; omega)]
    simp
  have hL2l : L2.length = c2 := by rw [hL2]; simp only [List.length_append, List.length_take, List.length_drop, hL1l]; omega
  rw [← hW2] at hcp1
  have hw1 : IntKind.i64.wrap ((i : Int) + 1) = (i : Int) + 1 := by rw [IntKind.wrap_i64]; omega
  have hw2 : IntKind.i64.wrap ((n : Int) + 1 - (i : Int)) = (n : Int) + 1 - (i : Int) := by rw [IntKind.wrap_i64]; omega
  have hb1 : (0 : Int) ≤ (i : Int) + 1 := by omega
  have hin : i ≤ n := by omega
  have htn : ((i : Int) + 1).toNat = i + 1 := by omega
  have hb2 : ¬ (cap = i + 1) ∨ True := .inr trivial
  have hb3 : (i : Int) ≤ (n : Int) + 1 := by omega
  have hb4 : ¬ (cap = i) := by omega
  have hb5 : ¬ (c2 = i) := by omega
  have hb6 : ¬ (c2 = i + 1) := by omega
  have hb7 : ¬ (cap = 0) := by omega
  have hcm' : cap ≤ 9223372036854775807 := by omega
  have hcm2 : c2 ≤ 9223372036854775807 := by unfold maxLen at hc2b; omega
  have hncap : n ≤ cap := by omega
  rw [← hnx] at hn hroom hi ⊢
  have HF := Lib.hid hfin
  have HG := Lib.hid hh3
  have HU := Lib.hid hU2
  have HX := Lib.hid hnx
  have HL := Lib.hid hL2l
  have HW := Lib.hid hg2
  clear hfin hU2 hU hL1 hL2 hdl hL1l hL2l hW2 hg hv hv1 ht hnx hh2 hh3 hs2 ht2 hcl2 hg1 hg3 hg2 hb2 hcp2' hkI
  go_enter Tryz.func76, Tryz.ntmps76
  go_wp2_with (at_builtin; refine wpList_append_run _ rfl _ _ 100 3 rfl _ _ rfl rfl hrun ?_)
  go_region_law (refine step_copy_run rfl _ _ 100 100 rfl _ _ (by simp [Act.eval, Act.put]) (by simp [Act.eval, Act.put]) (hcp2 _ _ _) ?_)
  go_wp2
  go_ret
  have hlen : (xs.take i ++ x :: xs.drop i).length = n + 1 := by simp only [List.length_append, List.length_take, List.length_cons, List.length_drop]; rw [← HX.out]; omega
  refine ⟨.slice (some ⟨g2, 0, none⟩) (n + 1) c2, rfl, ⟨by omega, .inr ⟨g2, c2, _, by rw [hlen], Nat.zero_le _, setRow_heap W2.drew g2 _ _ _ _ HG.out, by omega, by unfold maxLen; omega, ?_, ?_⟩⟩, fun k hk => ?_, HU.out.trans ((Upd.refl _ W2).drew.trans (setRow_upd (w := W2.drew) _ HG.out) (fun _ h => .inl h)) (fun k hk => .inr (by have := HW.out; omega))⟩
  · simpa using HL.out
  · rw [hlen, Nat.mul_one]
    simpa using HF.out
  · simp [Value.ownBlock] at hk
    have := HW.out
    omega

/-- slices.Insert of one element. -/
theorem insB_any (s : Value) (xs : List Value) (i vb : Nat) (x : Value) (w : World) (hown : Own w 23 s xs) (hi : i ≤ xs.length) (hn : xs.length ≤ 1000000000)
    (hv : w.heap[vb]? = some (.cells #[x] 23 (0, 0))) (hvb : s.ownBlock ≠ some vb) (h1 : ∀ y ∈ xs, y.oneCell' = true) (h1x : x.oneCell' = true) :
    Calls Tryz.prog 76 #[s, .int .i64 i, .slice (some ⟨vb, 0, none⟩) 1 1] w fun e w' => ∃ v', e = .returned v' ∧ Own w' 23 v' (xs.take i ++ x :: xs.drop i) ∧ Nw w s v' ∧ Upd (fun k => s.ownBlock = some k) w w' := by
  by_cases hin : i = xs.length
  · subst hin
    refine (insB_end s xs vb x w hown hn hv h1x).mono ?_
    rintro e w' ⟨v', he, ho, hnw, hU⟩
    exact ⟨v', he, by simpa using ho, hnw, hU⟩
  · obtain ⟨g, cap, cur, rfl, hg, hnc, hcm, hcs, ht⟩ := own_open hown (by omega)
    by_cases hroom : xs.length + 1 ≤ cap
    · refine (insB_shift g cap cur xs i vb x w hg hcs ht (by omega) hn hroom hcm hv (fun h => hvb (by simp [Value.ownBlock, h])) h1 h1x).mono ?_
      rintro e w' ⟨he, ho, hU⟩
      exact ⟨_, he, ho, fun k hk => .inl (by simpa [Value.ownBlock] using hk), hU.mono (fun k _ hk => by simp [Value.ownBlock, hk])⟩
    · refine (insB_grow g cap cur xs i vb x w hg hcs ht hnc (by omega) hn (by omega) hv h1 h1x).mono ?_
      rintro e w' ⟨v', he, ho, hk, hU⟩
      exact ⟨v', he, ho, fun k hk' => .inr (hk k hk'), Upd.ext hU⟩

end Go.Proofs.YtecfhfddgolpfaaGreat
