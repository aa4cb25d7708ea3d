/- The library's slices.Delete (of one element), Clone at []int and at [][]byte; Index at []int and at pages' states. PRINTED by wip/gen/libc.py. -/
import Derived.Test.YtecfhfddgolpfaaGreatLibB
namespace Go.Proofs.YtecfhfddgolpfaaGreat
open Go.RowKit

theorem step_append_run {P : Program} {ops : Array Oper} {o : Oper} {a : Act} {w : World} {K : Act → World → Prop} {Q : Exit → Act → World → Prop} {E : Prop}
    (hg : o.guard = none) (d x : Operand) (dT sT : TypeId) (hop : o.op = Op.call { callee := Callee.builtin Builtin.append, args := #[d, x], argTypes := #[dT, sT] })
    (v u : Value) (hd : a.eval d = v) (hx : a.eval x = u) {v' : Value} {w' : World} (hr : (Builtin.append_ #[dT, sT] o.type #[v, u]).run P w = .ok v' w') (hK : K (a.put o.dst v') w') :
    if Region.wanted o (yielded ops a.tmps) = true then Oper.wp P o a w K Q else E := by
  have hw : Region.wanted o (yielded ops a.tmps) = true := by simp [Region.wanted, hg]
  rw [if_pos hw]
  unfold Oper.wp
  simp [execOp, hop, resolve, invoke, builtin, hd, hx, hr, Result.andThen]
  exact hK
theorem wpList_clear_run {P : Program} (w : World) {ops : Array Oper} {rest : List Oper} {o : Oper} {a : Act} {Q : Exit → Act → World → Prop} (hgd : o.guard = none) (d : Operand) (t : TypeId)
    (ho : o.op = .call { callee := .builtin .clear, args := #[d], argTypes := #[t] }) (v : Value) (hd : a.eval d = v) {v' : Value} {w' : World}
    (hr : (Builtin.clear_ #[t] o.type #[v]).run P w = .ok v' w') (h : wpList P ops Q rest (a.put o.dst v') w') : wpList P ops Q (o :: rest) a w :=
  wpList_plain hgd fun _ hK => by
    unfold Oper.wp execOp
    simp only [ho, resolve, invoke, builtin, Sem.run_bind, Sem.run_pure, Result.andThen_ok, List.map_toArray, List.map_cons, List.map_nil, hd, hr]
    exact hK _ _ h
theorem list_del {α : Type} (cur xs : List α) (i : Nat) (z : α) (ht : cur.take xs.length = xs) (hi : i < xs.length) (_ : xs.length ≤ cur.length) :
    ((cur.take i ++ xs.drop (i + 1) ++ cur.drop (i + (xs.drop (i + 1)).length)).set (xs.length - 1) z).take (xs.length - 1) = xs.take i ++ xs.drop (i + 1) := by
  rw [List.take_set_of_le (Nat.le_refl _)]
  have e : cur.take i = xs.take i := by rw [← ht, List.take_take, Nat.min_eq_left (by omega)]
  have hl : (xs.take i ++ xs.drop (i + 1)).length = xs.length - 1 := by simp; omega
  rw [e, ← hl, List.take_left]

/-- append(nil, make(S, k)...). -/
theorem run_appmake_nil {P : Program} {w : World} (t ti ty e : TypeId) (z : Value) (bytes : Nat) (ht : P.underlying t = some (.slice e)) (hti : P.underlying ti = some (.int .i64)) (hi : (P.info? e).map (fun i => (i.zero, i.size, i.bytes)) = some (some z, 1, bytes)) (hzs : z.cells = #[z])
    (k : Nat) (hk : 0 < k) (h63 : k ≤ 1099511627776) (hb : bytes ≤ 64) :
    ∃ c w', (Builtin.append_ #[t, ti] ty #[.slice none 0 0, .int .i64 k]).run P w = .ok (.slice (some ⟨w.heap.size, 0, none⟩) k c) w' ∧
      w'.ownsRow 0 e 1 (.slice (some ⟨w.heap.size, 0, none⟩) k c) k (List.replicate k z) ∧ Ext w w' := by
  obtain ⟨i, hi', hz, hsize, hby⟩ := info_parts hi
  have hbb : k * bytes ≤ 140737488355328 := calc k * bytes ≤ 1099511627776 * 64 := Nat.mul_le_mul h63 hb
        _ ≤ 140737488355328 := by decide
  have hw : IntKind.i64.wrap (k : Int) = (k : Int) := by rw [IntKind.wrap_i64]; omega
  have hk0 : ¬ ((k : Int) < 0) := by omega
  have hkb : ¬ (281474976710656 < (k : Int) * (i.bytes : Int)) := by
    rw [hby]
    have h2 : ((k * bytes : Nat) : Int) ≤ 140737488355328 := by omega
    rw [Int.natCast_mul] at h2
    omega
  have h63' : ¬ (9223372036854775807 < (k : Int)) := by omega
  have h48' : ¬ (281474976710656 < Builtin.nextslicecap k 0 * i.bytes) := by
    have := growslice_fits (need := k) (old := 0) (bytes := i.bytes) (by omega) (by rw [hby]; exact hbb)
    omega
  have hge := grownCap_ge w k 0 e
  have hcm : grownCap w k 0 e ≤ maxLen := grownCap_le_maxLen w k 0 e (by unfold maxLen; omega)
  have hrep : (Builtin.zeroCells #[z] k).toList = List.replicate k z := by
    apply List.ext_getElem?
    intro j
    by_cases hj : j < k
    · simp [Builtin.zeroCells, hj, Nat.mod_one]
    · simp [Builtin.zeroCells, hj]
  have hk1 : ¬ ((k : Int) ≤ 0) := by omega
  have hmx : max (k : Int) 0 = k := by omega
  have hk' : k ≠ 0 := by omega
  refine ⟨grownCap w k 0 e, w.drew.alloc (.cells (Builtin.zeroCells #[z] k ++ Builtin.zeroCells #[z] (grownCap w k 0 e - k)) e), ?_, ⟨by simp, .inr ⟨w.heap.size, _, _, rfl, Nat.zero_le _, heap_alloc_new w.drew _, hge, hcm, ?_, ?_⟩⟩, (Upd.refl _ w).drew.alloc _⟩
  · simp [Builtin.append_, run_underlying ht, run_underlying hti, sizeOf, typeInfo, zeroValue, hi', hz, hsize, hzs, Builtin.lenOf, Builtin.firstCells, hw, hk', hk0, hmx, hkb, h63', h48', Question.forced, newRow, grownCap, asInt, asIntOf]
  · simp only [Array.size_append, size_zeroCells]
    simp
    omega
  · simp only [Array.toList_append, hrep]
    rw [show k * 1 = (List.replicate k z).length by simp]
    exact List.take_left

/-! ### at []int,int -/
set_option maxRecDepth 100000 in
set_option maxHeartbeats 1000000 in
/-- slices.Delete of one element: in place. -/
theorem delI_any (s : Value) (xs : List Value) (i : Nat) (w : World) (hown : Own w 3 s xs) (hi : i < xs.length) (hn : xs.length ≤ 1000000000) (h1 : ∀ y ∈ xs, y.oneCell' = true) :
    Calls Tryz.prog 93 #[s, .int .i64 i, .int .i64 (i + 1 : Int)] w fun e w' => ∃ v', e = .returned v' ∧ Own w' 3 v' (xs.take i ++ xs.drop (i + 1)) ∧ v'.ownBlock = s.ownBlock ∧ Upd (fun k => s.ownBlock = some k) w w' := by
  obtain ⟨g, cap, cur, rfl, hg, hnc, hcm, hcs, ht⟩ := own_open hown (by omega)
  obtain ⟨n, hnx⟩ : ∃ n, n = xs.length := ⟨_, rfl⟩
  obtain ⟨z, hz⟩ : ∃ z : Value, z = .int .i64 0 := ⟨_, rfl⟩
  have hsz : (Tryz.prog.info? 3).map (·.size) = some 1 := by kernel_rfl
  obtain ⟨i0, hi0, hz0, hz1, hz2⟩ := info_parts info_int
  have hdl : (xs.drop (i + 1)).length = n - (i + 1) := by rw [List.length_drop, hnx]
  have hcl : cur.toList.length = cap := by simpa using hcs
  obtain ⟨L1, hL1⟩ : ∃ L1, L1 = cur.toList.take i ++ xs.drop (i + 1) ++ cur.toList.drop (i + (xs.drop (i + 1)).length) := ⟨_, rfl⟩
  have hL1l : L1.length = cap := by rw [hL1]; simp only [List.length_append, List.length_take, List.length_drop, hcl]; omega
  have hap : ∀ ty (ad : Addr) sc, (i + 1 < n → ad = ⟨g, i + 1, none⟩) → (Builtin.append_ #[62, 62] ty #[.slice (some ⟨g, 0, none⟩) i cap, .slice (some ad) (n - (i + 1)) sc]).run Tryz.prog w.drew = .ok (.slice (some ⟨g, 0, none⟩) (i + (n - (i + 1))) cap) (w.drew.setRow g L1.toArray) := fun ty ad sc had => by
    have := run_append_room (P := Tryz.prog) w.drew 62 ty 3 i0 (by kernel_rfl) hi0 g i cap cur hg ad (n - (i + 1)) sc (xs.drop (i + 1)) (by rw [hz1, hdl, Nat.mul_one])
      (fun j v hj => by
        have hjl : j < (xs.drop (i + 1)).length := (List.getElem?_eq_some_iff.1 hj).1
        rw [had (by omega), Addr.add_lit]; rw [List.getElem?_drop] at hj; exact row_cell (w := w) hg ht hj) (fun v hv => h1 v (List.mem_of_mem_drop hv)) (by omega) (by rw [hz1, hdl, hcs]; omega)
    rw [this, hL1, hz1, Nat.mul_one]
  obtain ⟨W1, hW1⟩ : ∃ W1, W1 = w.drew.setRow g L1.toArray := ⟨_, rfl⟩
  have hg1 : W1.heap[g]? = some (.cells L1.toArray 3 (0, 0)) := by rw [hW1]; exact setRow_heap w.drew g cur _ _ _ hg
  have hU1 : Upd (fun k => k = g) w W1 := by rw [hW1]; exact (Upd.refl _ w).drew.trans (setRow_upd (w := w.drew) _ hg) (fun _ h => .inl h)
  have hlast : (W1.cell? ⟨g, n - 1, none⟩).isSome = true := by rw [cell_heap hg1]; simp [hL1l]; omega
  have hclr : ∀ ty sc, (Builtin.clear_ #[62] ty #[.slice (some ⟨g, n - 1, none⟩) 1 sc]).run Tryz.prog W1 = .ok (.tuple #[]) (W1.setCell ⟨g, n - 1, none⟩ z) := fun ty sc => by
    have hzc : (Builtin.zeroCells #[z] 1).toList = [z] := by simp [Builtin.zeroCells]
    obtain ⟨u, hu⟩ := Option.isSome_iff_exists.1 hlast
    have hfz := frozen_heap (i := n - 1) hg1
    have hst : (store ⟨g, n - 1, none⟩ z).run Tryz.prog W1 = .ok () (W1.setCell ⟨g, n - 1, none⟩ z) := by rw [run_store _ _ _ _ _ (by rw [hz]; rfl)]; simp [hu, hfz]
    have hu2 : Tryz.prog.underlying 62 = some (.slice 3) := by kernel_rfl
    have hzz : z.cells = #[z] := by rw [hz]; rfl
    rw [← hz] at hz0
    simp [Builtin.clear_, run_underlying hu2, zeroValue, typeInfo, hi0, hz0, hzz, hzc, storeCells, Addr.add_zero', hst]
  have hfin : (L1.set (n - 1) z).take (n - 1) = xs.take i ++ xs.drop (i + 1) := by
    rw [hL1, hnx]
    exact list_del cur.toList xs i z ht hi (by rw [hcl]; omega)
  rw [← hW1] at hap
  have hw1 : IntKind.i64.wrap ((i : Int) + 1) = (i : Int) + 1 := by rw [IntKind.wrap_i64]; omega
  have hb1 : (0 : Int) ≤ (i : Int) + 1 := by omega
  have htn : ((i : Int) + 1).toNat = i + 1 := by omega
  have hcm' : cap ≤ 9223372036854775807 := by unfold maxLen at hcm; omega
  have hicap : (i : Int) ≤ (cap : Int) := by omega
  have hi1n : i + 1 ≤ n := by omega
  have hne : ((i : Int) == (i : Int) + 1) = false := by simp; omega
  have hle : (i : Int) + 1 ≤ (n : Int) := by omega
  have hnc' : n ≤ cap := by omega
  have hin1 : i + (n - (i + 1)) = n - 1 := by omega
  have hic : ¬ (cap = 0) := by omega
  have hc5 : ¬ (cap = n - 1) := by omega
  have hc6 : ¬ (n = i) := by omega
  have hc7 : ((n - 1 : Nat) : Int) = (n : Int) - 1 := by omega
  have hc8 : n - (n - 1) = 1 := by omega
  rw [hin1] at hap
  rw [← hnx] at hn hi ⊢
  have HF := Lib.hid hfin
  have HG := Lib.hid hg1
  have HU := Lib.hid hU1
  have HX := Lib.hid hnx
  have HL := Lib.hid hL1l
  clear hz
  clear hfin hU1 hL1 hdl hL1l hW1 hcl hcs hg hg1 ht hnx hown hin1 hlast
  have hlen : ∀ (_ : n = xs.length), (xs.take i ++ xs.drop (i + 1)).length = n - 1 := fun h => by simp only [List.length_append, List.length_take, List.length_drop]; omega
  have HLL := Lib.hid hlen
  clear hlen hnc
  rcases Nat.lt_or_eq_of_le (show i + 1 ≤ cap by omega) with hlt | heq
  · have hb4 : ¬ (cap = i + 1) := by omega
    have hap' := fun ty sc => hap ty ⟨g, i + 1, none⟩ sc (fun _ => rfl)
    clear hap
    go_enter Tryz.func93, Tryz.ntmps93
    go_wp2_with fail
    go_still_tail 6, (by kernel_rfl)
    go_wp2_with (at_builtin; refine wpList_append_run _ rfl _ _ 62 62 rfl _ _ rfl rfl (hap' _ (cap - (i + 1))) ?_)
    go_wp2_with (refine wpList_clear_run (o := ⟨none, _, _, _, _, _⟩) _ rfl (.tmp 31) 62 rfl _ rfl (hclr _ _) ?_)
    go_ret
    refine ⟨.slice (some ⟨g, 0, none⟩) (n - 1) cap, rfl, ⟨by omega, .inr ⟨g, cap, _, by rw [HLL.out HX.out], Nat.zero_le _, heap_setCell_same W1 g _ _ _ z HG.out, by rw [HLL.out HX.out]; omega, by unfold maxLen; omega, ?_, ?_⟩⟩, rfl, ?_⟩
    · simpa using HL.out
    · rw [HLL.out HX.out, Nat.mul_one]
      simpa using HF.out
    · exact (HU.out.setCell _ (.inl rfl)).mono (fun k _ hk => by simp [Value.ownBlock, hk])
  · have e1 : n = i + 1 := by omega
    subst e1
    subst heq
    have hap' := fun ty sc => hap ty ⟨g, 0, none⟩ sc (fun h => by omega)
    clear hap
    have hi2 : (i : Int) ≤ (i : Int) + 1 := by omega
    rw [Nat.sub_self] at hap'
    rw [Nat.add_sub_cancel] at hap' hclr
    go_enter Tryz.func93, Tryz.ntmps93
    go_wp2_with fail
    go_still_tail 6, (by kernel_rfl)
    go_wp2_with (at_builtin; refine wpList_append_run _ rfl _ _ 62 62 rfl _ _ rfl rfl (hap' _ 0) ?_)
    go_wp2_with (refine wpList_clear_run (o := ⟨none, _, _, _, _, _⟩) _ rfl (.tmp 31) 62 rfl _ rfl (hclr _ _) ?_)
    go_ret
    refine ⟨.slice (some ⟨g, 0, none⟩) i (i + 1), rfl, ⟨by omega, .inr ⟨g, i + 1, _, by rw [HLL.out HX.out]; rfl, Nat.zero_le _, heap_setCell_same W1 g _ _ _ z HG.out, by rw [HLL.out HX.out]; omega, by unfold maxLen; omega, ?_, ?_⟩⟩, rfl, ?_⟩
    · simpa using HL.out
    · rw [HLL.out HX.out, Nat.mul_one]
      simpa using HF.out
    · exact (HU.out.setCell _ (.inl rfl)).mono (fun k _ hk => by simp [Value.ownBlock, hk])


set_option maxRecDepth 100000 in
/-- slices.Clone: new memory. -/
theorem cloneI_any (u : Value) (xs : List Value) (w : World) (hr : Rd w 3 u xs) (h1 : ∀ y ∈ xs, y.oneCell' = true) (hl : xs.length ≤ 1099511627776) :
    Calls Tryz.prog 128 #[u] w fun e w' => ∃ v, e = .returned v ∧ Own w' 3 v xs ∧ Nw w (.slice none 0 0) v ∧ Ext w w' := by
  have hr0 := hr
  obtain ⟨p, c, rfl, hp1, hc, hp3, hp⟩ := hr0
  have hn := Lib.run_eql_slice_nil (P := Tryz.prog) w 62 3 p xs.length c 0 0 (by kernel_rfl)
  cases p with
  | none =>
    have : xs = [] := List.eq_nil_of_length_eq_zero (by have := hp3 rfl; omega)
    subst this
    have : c = 0 := hp3 rfl
    subst this
    simp only [List.length_nil, Option.isNone_none] at hn
    go_enter Tryz.func128, Tryz.ntmps128
    go_wp2
    go_ret
    exact ⟨_, rfl, Own.nil _ _, Nw.refl _ _, Upd.refl _ _⟩
  | some ad =>
    have ho : Own (w.alloc (.cells #[] 3)) 3 (.slice (some ⟨w.heap.size, 0, none⟩) 0 0) [] := World.ownsRow_made w #[] 0 (base := 0) (e := 3) (size := 1) (Nat.zero_le _) (by unfold maxLen; omega) rfl
    have hr' := hr.ext ((Upd.refl _ w).alloc (.cells #[] 3))
    go_enter Tryz.func128, Tryz.ntmps128
    go_wp2_with (at_builtin; refine wpList_app rfl _ _ 62 rfl 3 _ _ (by kernel_rfl) info_int rfl _ [] rfl ho _ xs rfl hr' h1 (by simpa using hl) (by decide) ?_)
    intro v w' hown hnw hU
    go_wp2
    go_ret
    refine ⟨_, rfl, by simpa using hown, fun k hk => .inr ?_, ((Upd.refl _ w).alloc _).trans hU ?_⟩
    · have := hnw k hk
      simp [Value.ownBlock] at this
      omega
    · intro i hi
      simp [Value.ownBlock] at hi
      omega

set_option maxRecDepth 100000 in
/-- slices.Grow of nothing. -/
theorem growI_nil (k : Nat) (w : World) (hk : k ≤ 1000000000) :
    Calls Tryz.prog 161 #[.slice none 0 0, .int .i64 k] w fun e w' => ∃ v, e = .returned v ∧ Own w' 3 v [] ∧ Nw w (.slice none 0 0) v ∧ Ext w w' := by
  by_cases h0 : k = 0
  · subst h0
    go_enter Tryz.func161, Tryz.ntmps161
    go_wp2
    go_ret
    exact ⟨_, rfl, Own.nil _ _, Nw.refl _ _, Upd.refl _ _⟩
  · obtain ⟨z, hz⟩ : ∃ z : Value, z = .int .i64 0 := ⟨_, rfl⟩
    obtain ⟨c, W1, hrun, hown, hU⟩ := run_appmake_nil (P := Tryz.prog) (w := w) 62 3 62 3 z _ (by kernel_rfl) (by kernel_rfl) (by rw [hz]; exact info_int) (by rw [hz]; rfl) k (by omega) (by omega) (by decide)
    obtain ⟨_, hh | ⟨g, c3, cur, hve, _, hh, hc2a, hc2b, hs2, ht2⟩⟩ := hown
    · simp at hh
    simp only [Value.slice.injEq, Option.some.injEq, Addr.mk.injEq, and_true, true_and] at hve
    obtain ⟨rfl, rfl⟩ := hve
    obtain ⟨g2, hg2⟩ : ∃ g2, g2 = w.heap.size := ⟨_, rfl⟩
    rw [← hg2] at hrun hh
    have hk1 : (0 : Int) < (k : Int) := by omega
    have hcI : ¬ (c = 0) := by omega
    have hcm : c ≤ 9223372036854775807 := by unfold maxLen at hc2b; omega
    have hs3 : cur.size = c * 1 := hs2
    have HH := Lib.hid hh
    have HG := Lib.hid hg2
    have HU := Lib.hid hU
    have HS := Lib.hid hs3
    clear hh hg2 hU hs2 ht2 hz hs3
    go_enter Tryz.func161, Tryz.ntmps161
    go_wp2_with (at_builtin; refine wpList_append_run _ rfl _ _ 62 3 rfl _ _ rfl rfl hrun ?_)
    go_ret
    refine ⟨.slice (some ⟨g2, 0, none⟩) 0 c, rfl, ⟨rfl, .inr ⟨g2, c, cur, rfl, Nat.zero_le _, HH.out, Nat.zero_le _, by unfold maxLen; omega, HS.out, rfl⟩⟩, fun j hj => .inr ?_, HU.out⟩
    simp [Value.ownBlock] at hj
    have := HG.out
    omega

/-! ### at [][]byte,[]byte -/
set_option maxRecDepth 100000 in
set_option maxHeartbeats 1000000 in
/-- slices.Delete of one element: in place. -/
theorem delB_any (s : Value) (xs : List Value) (i : Nat) (w : World) (hown : Own w 23 s xs) (hi : i < xs.length) (hn : xs.length ≤ 1000000000) (h1 : ∀ y ∈ xs, y.oneCell' = true) :
    Calls Tryz.prog 92 #[s, .int .i64 i, .int .i64 (i + 1 : Int)] w fun e w' => ∃ v', e = .returned v' ∧ Own w' 23 v' (xs.take i ++ xs.drop (i + 1)) ∧ v'.ownBlock = s.ownBlock ∧ Upd (fun k => s.ownBlock = some k) w w' := by
  obtain ⟨g, cap, cur, rfl, hg, hnc, hcm, hcs, ht⟩ := own_open hown (by omega)
  obtain ⟨n, hnx⟩ : ∃ n, n = xs.length := ⟨_, rfl⟩
  obtain ⟨z, hz⟩ : ∃ z : Value, z = .slice none 0 0 := ⟨_, rfl⟩
  have hsz : (Tryz.prog.info? 23).map (·.size) = some 1 := by kernel_rfl
  obtain ⟨i0, hi0, hz0, hz1, hz2⟩ := info_parts info_bs
  have hdl : (xs.drop (i + 1)).length = n - (i + 1) := by rw [List.length_drop, hnx]
  have hcl : cur.toList.length = cap := by simpa using hcs
  obtain ⟨L1, hL1⟩ : ∃ L1, L1 = cur.toList.take i ++ xs.drop (i + 1) ++ cur.toList.drop (i + (xs.drop (i + 1)).length) := ⟨_, rfl⟩
  have hL1l : L1.length = cap := by rw [hL1]; simp only [List.length_append, List.length_take, List.length_drop, hcl]; omega
  have hap : ∀ ty (ad : Addr) sc, (i + 1 < n → ad = ⟨g, i + 1, none⟩) → (Builtin.append_ #[100, 100] ty #[.slice (some ⟨g, 0, none⟩) i cap, .slice (some ad) (n - (i + 1)) sc]).run Tryz.prog w.drew = .ok (.slice (some ⟨g, 0, none⟩) (i + (n - (i + 1))) cap) (w.drew.setRow g L1.toArray) := fun ty ad sc had => by
    have := run_append_room (P := Tryz.prog) w.drew 100 ty 23 i0 (by kernel_rfl) hi0 g i cap cur hg ad (n - (i + 1)) sc (xs.drop (i + 1)) (by rw [hz1, hdl, Nat.mul_one])
      (fun j v hj => by
        have hjl : j < (xs.drop (i + 1)).length := (List.getElem?_eq_some_iff.1 hj).1
        rw [had (by omega), Addr.add_lit]; rw [List.getElem?_drop] at hj; exact row_cell (w := w) hg ht hj) (fun v hv => h1 v (List.mem_of_mem_drop hv)) (by omega) (by rw [hz1, hdl, hcs]; omega)
    rw [this, hL1, hz1, Nat.mul_one]
  obtain ⟨W1, hW1⟩ : ∃ W1, W1 = w.drew.setRow g L1.toArray := ⟨_, rfl⟩
  have hg1 : W1.heap[g]? = some (.cells L1.toArray 23 (0, 0)) := by rw [hW1]; exact setRow_heap w.drew g cur _ _ _ hg
  have hU1 : Upd (fun k => k = g) w W1 := by rw [hW1]; exact (Upd.refl _ w).drew.trans (setRow_upd (w := w.drew) _ hg) (fun _ h => .inl h)
  have hlast : (W1.cell? ⟨g, n - 1, none⟩).isSome = true := by rw [cell_heap hg1]; simp [hL1l]; omega
  have hclr : ∀ ty sc, (Builtin.clear_ #[100] ty #[.slice (some ⟨g, n - 1, none⟩) 1 sc]).run Tryz.prog W1 = .ok (.tuple #[]) (W1.setCell ⟨g, n - 1, none⟩ z) := fun ty sc => by
    have hzc : (Builtin.zeroCells #[z] 1).toList = [z] := by simp [Builtin.zeroCells]
    obtain ⟨u, hu⟩ := Option.isSome_iff_exists.1 hlast
    have hfz := frozen_heap (i := n - 1) hg1
    have hst : (store ⟨g, n - 1, none⟩ z).run Tryz.prog W1 = .ok () (W1.setCell ⟨g, n - 1, none⟩ z) := by rw [run_store _ _ _ _ _ (by rw [hz]; rfl)]; simp [hu, hfz]
    have hu2 : Tryz.prog.underlying 100 = some (.slice 23) := by kernel_rfl
    have hzz : z.cells = #[z] := by rw [hz]; rfl
    rw [← hz] at hz0
    simp [Builtin.clear_, run_underlying hu2, zeroValue, typeInfo, hi0, hz0, hzz, hzc, storeCells, Addr.add_zero', hst]
  have hfin : (L1.set (n - 1) z).take (n - 1) = xs.take i ++ xs.drop (i + 1) := by
    rw [hL1, hnx]
    exact list_del cur.toList xs i z ht hi (by rw [hcl]; omega)
  rw [← hW1] at hap
  have hw1 : IntKind.i64.wrap ((i : Int) + 1) = (i : Int) + 1 := by rw [IntKind.wrap_i64]; omega
  have hb1 : (0 : Int) ≤ (i : Int) + 1 := by omega
  have htn : ((i : Int) + 1).toNat = i + 1 := by omega
  have hcm' : cap ≤ 9223372036854775807 := by unfold maxLen at hcm; omega
  have hicap : (i : Int) ≤ (cap : Int) := by omega
  have hi1n : i + 1 ≤ n := by omega
  have hne : ((i : Int) == (i : Int) + 1) = false := by simp; omega
  have hle : (i : Int) + 1 ≤ (n : Int) := by omega
  have hnc' : n ≤ cap := by omega
  have hin1 : i + (n - (i + 1)) = n - 1 := by omega
  have hic : ¬ (cap = 0) := by omega
  have hc5 : ¬ (cap = n - 1) := by omega
  have hc6 : ¬ (n = i) := by omega
  have hc7 : ((n - 1 : Nat) : Int) = (n : Int) - 1 := by omega
  have hc8 : n - (n - 1) = 1 := by omega
  rw [hin1] at hap
  rw [← hnx] at hn hi ⊢
  have HF := Lib.hid hfin
  have HG := Lib.hid hg1
  have HU := Lib.hid hU1
  have HX := Lib.hid hnx
  have HL := Lib.hid hL1l
  clear hz
  clear hfin hU1 hL1 hdl hL1l hW1 hcl hcs hg hg1 ht hnx hown hin1 hlast
  have hlen : ∀ (_ : n = xs.length), (xs.take i ++ xs.drop (i + 1)).length = n - 1 := fun h => by simp only [List.length_append, List.length_take, List.length_drop]; omega
  have HLL := Lib.hid hlen
  clear hlen hnc
  rcases Nat.lt_or_eq_of_le (show i + 1 ≤ cap by omega) with hlt | heq
  · have hb4 : ¬ (cap = i + 1) := by omega
    have hap' := fun ty sc => hap ty ⟨g, i + 1, none⟩ sc (fun _ => rfl)
    clear hap
    go_enter Tryz.func92, Tryz.ntmps92
    go_wp2_with fail
    go_still_tail 6, (by kernel_rfl)
    go_wp2_with (at_builtin; refine wpList_append_run _ rfl _ _ 100 100 rfl _ _ rfl rfl (hap' _ (cap - (i + 1))) ?_)
    go_wp2_with (refine wpList_clear_run (o := ⟨none, _, _, _, _, _⟩) _ rfl (.tmp 31) 100 rfl _ rfl (hclr _ _) ?_)
    go_ret
    refine ⟨.slice (some ⟨g, 0, none⟩) (n - 1) cap, rfl, ⟨by omega, .inr ⟨g, cap, _, by rw [HLL.out HX.out], Nat.zero_le _, heap_setCell_same W1 g _ _ _ z HG.out, by rw [HLL.out HX.out]; omega, by unfold maxLen; omega, ?_, ?_⟩⟩, rfl, ?_⟩
    · simpa using HL.out
    · rw [HLL.out HX.out, Nat.mul_one]
      simpa using HF.out
    · exact (HU.out.setCell _ (.inl rfl)).mono (fun k _ hk => by simp [Value.ownBlock, hk])
  · have e1 : n = i + 1 := by omega
    subst e1
    subst heq
    have hap' := fun ty sc => hap ty ⟨g, 0, none⟩ sc (fun h => by omega)
    clear hap
    have hi2 : (i : Int) ≤ (i : Int) + 1 := by omega
    rw [Nat.sub_self] at hap'
    rw [Nat.add_sub_cancel] at hap' hclr
    go_enter Tryz.func92, Tryz.ntmps92
    go_wp2_with fail
    go_still_tail 6, (by kernel_rfl)
    go_wp2_with (at_builtin; refine wpList_append_run _ rfl _ _ 100 100 rfl _ _ rfl rfl (hap' _ 0) ?_)
    go_wp2_with (refine wpList_clear_run (o := ⟨none, _, _, _, _, _⟩) _ rfl (.tmp 31) 100 rfl _ rfl (hclr _ _) ?_)
    go_ret
    refine ⟨.slice (some ⟨g, 0, none⟩) i (i + 1), rfl, ⟨by omega, .inr ⟨g, i + 1, _, by rw [HLL.out HX.out]; rfl, Nat.zero_le _, heap_setCell_same W1 g _ _ _ z HG.out, by rw [HLL.out HX.out]; omega, by unfold maxLen; omega, ?_, ?_⟩⟩, rfl, ?_⟩
    · simpa using HL.out
    · rw [HLL.out HX.out, Nat.mul_one]
      simpa using HF.out
    · exact (HU.out.setCell _ (.inl rfl)).mono (fun k _ hk => by simp [Value.ownBlock, hk])


set_option maxRecDepth 100000 in
/-- slices.Clone: new memory. -/
theorem cloneB_any (u : Value) (xs : List Value) (w : World) (hr : Rd w 23 u xs) (h1 : ∀ y ∈ xs, y.oneCell' = true) (hl : xs.length ≤ 1099511627776) :
    Calls Tryz.prog 145 #[u] w fun e w' => ∃ v, e = .returned v ∧ Own w' 23 v xs ∧ Nw w (.slice none 0 0) v ∧ Ext w w' := by
  have hr0 := hr
  obtain ⟨p, c, rfl, hp1, hc, hp3, hp⟩ := hr0
  have hn := Lib.run_eql_slice_nil (P := Tryz.prog) w 100 23 p xs.length c 0 0 (by kernel_rfl)
  cases p with
  | none =>
    have : xs = [] := List.eq_nil_of_length_eq_zero (by have := hp3 rfl; omega)
    subst this
    have : c = 0 := hp3 rfl
    subst this
    simp only [List.length_nil, Option.isNone_none] at hn
    go_enter Tryz.func145, Tryz.ntmps145
    go_wp2
    go_ret
    exact ⟨_, rfl, Own.nil _ _, Nw.refl _ _, Upd.refl _ _⟩
  | some ad =>
    have ho : Own (w.alloc (.cells #[] 23)) 23 (.slice (some ⟨w.heap.size, 0, none⟩) 0 0) [] := World.ownsRow_made w #[] 0 (base := 0) (e := 23) (size := 1) (Nat.zero_le _) (by unfold maxLen; omega) rfl
    have hr' := hr.ext ((Upd.refl _ w).alloc (.cells #[] 23))
    go_enter Tryz.func145, Tryz.ntmps145
    go_wp2_with (at_builtin; refine wpList_app rfl _ _ 100 rfl 23 _ _ (by kernel_rfl) info_bs rfl _ [] rfl ho _ xs rfl hr' h1 (by simpa using hl) (by decide) ?_)
    intro v w' hown hnw hU
    go_wp2
    go_ret
    refine ⟨_, rfl, by simpa using hown, fun k hk => .inr ?_, ((Upd.refl _ w).alloc _).trans hU ?_⟩
    · have := hnw k hk
      simp [Value.ownBlock] at this
      omega
    · intro i hi
      simp [Value.ownBlock] at hi
      omega

set_option maxRecDepth 100000 in
/-- slices.Grow of nothing. -/
theorem growB_nil (k : Nat) (w : World) (hk : k ≤ 1000000000) :
    Calls Tryz.prog 160 #[.slice none 0 0, .int .i64 k] w fun e w' => ∃ v, e = .returned v ∧ Own w' 23 v [] ∧ Nw w (.slice none 0 0) v ∧ Ext w w' := by
  by_cases h0 : k = 0
  · subst h0
    go_enter Tryz.func160, Tryz.ntmps160
    go_wp2
    go_ret
    exact ⟨_, rfl, Own.nil _ _, Nw.refl _ _, Upd.refl _ _⟩
  · obtain ⟨z, hz⟩ : ∃ z : Value, z = .slice none 0 0 := ⟨_, rfl⟩
    obtain ⟨c, W1, hrun, hown, hU⟩ := run_appmake_nil (P := Tryz.prog) (w := w) 100 3 100 23 z _ (by kernel_rfl) (by kernel_rfl) (by rw [hz]; exact info_bs) (by rw [hz]; rfl) k (by omega) (by omega) (by decide)
    obtain ⟨_, hh | ⟨g, c3, cur, hve, _, hh, hc2a, hc2b, hs2, ht2⟩⟩ := hown
    · simp at hh
    simp only [Value.slice.injEq, Option.some.injEq, Addr.mk.injEq, and_true, true_and] at hve
    obtain ⟨rfl, rfl⟩ := hve
    obtain ⟨g2, hg2⟩ : ∃ g2, g2 = w.heap.size := ⟨_, rfl⟩
    rw [← hg2] at hrun hh
    have hk1 : (0 : Int) < (k : Int) := by omega
    have hcI : ¬ (c = 0) := by omega
    have hcm : c ≤ 9223372036854775807 := by unfold maxLen at hc2b; omega
    have hs3 : cur.size = c * 1 := hs2
    have HH := Lib.hid hh
    have HG := Lib.hid hg2
    have HU := Lib.hid hU
    have HS := Lib.hid hs3
    clear hh hg2 hU hs2 ht2 hz hs3
    go_enter Tryz.func160, Tryz.ntmps160
    go_wp2_with (at_builtin; refine wpList_append_run _ rfl _ _ 100 3 rfl _ _ rfl rfl hrun ?_)
    go_ret
    refine ⟨.slice (some ⟨g2, 0, none⟩) 0 c, rfl, ⟨rfl, .inr ⟨g2, c, cur, rfl, Nat.zero_le _, HH.out, Nat.zero_le _, by unfold maxLen; omega, HS.out, rfl⟩⟩, fun j hj => .inr ?_, HU.out⟩
    simp [Value.ownBlock] at hj
    have := HG.out
    omega

end Go.Proofs.YtecfhfddgolpfaaGreat
