/- Maps with int keys, as functions: lookup, update, delete, len. -/
import Derived.Test.YtecfhfddgolpfaaGreatMem
import Derived.MapKept
namespace Go.Proofs.YtecfhfddgolpfaaGreat
open Go.RowKit

/-- The map in block b answers as f; it has n entries. -/
def MapF (w : World) (b : Nat) (f : Int → Option Value) (n : Nat) : Prop :=
  ∃ es clock, w.heap[b]? = some (.map es clock) ∧ es.size = n ∧ (∀ x ∈ es.toList, ∃ k, x.key = .int .i64 k) ∧ (es.toList.map (·.key)).Nodup ∧ (∀ k v, f k = some v ↔ ∃ x ∈ es.toList, x.key = .int .i64 k ∧ x.val = v)
theorem MapF.upd {w w' : World} {b n : Nat} {f : Int → Option Value} {F : Nat → Prop} (h : MapF w b f n) (hU : Upd F w w') (hF : ¬ F b) : MapF w' b f n := by
  obtain ⟨es, c, h1, h2⟩ := h
  exact ⟨es, c, hU.heap h1 hF, h2⟩
theorem MapF.lt {w : World} {b n : Nat} {f : Int → Option Value} (h : MapF w b f n) : b < w.heap.size := by
  obtain ⟨es, c, h1, h2⟩ := h
  exact heap_lt h1
theorem MapF.notCells {w : World} {b n : Nat} {f : Int → Option Value} (h : MapF w b f n) (cs : Array Value) (E : TypeId) (fr : Nat × Nat) : w.heap[b]? ≠ some (.cells cs E fr) := by
  obtain ⟨es, c, h1, h2⟩ := h
  rw [h1]; simp
theorem MapF.made (w : World) : MapF (w.alloc (.map #[] 0)) w.heap.size (fun _ => none) 0 :=
  ⟨#[], 0, heap_alloc_new w _, rfl, by simp, by simp, by simp⟩
section
variable {P : Program} {w : World} {t kt et : TypeId} {b n : Nat} {f : Int → Option Value}

theorem isKey_int (k : Int) : MapKept.IsKey (.int .i64) (.int .i64 k) := by simp [MapKept.IsKey]
theorem MapF.keys {es : Array MapEntry} (h : ∀ x ∈ es.toList, ∃ k, x.key = .int .i64 k) : ∀ x ∈ es.toList, MapKept.IsKey (.int .i64) x.key := fun x hx => by
  obtain ⟨k, hk⟩ := h x hx
  rw [hk]; exact isKey_int k
/-- What findNow answers. -/
theorem MapF.found {es : Array MapEntry} (hk : ∀ x ∈ es.toList, ∃ k, x.key = .int .i64 k) (hf : ∀ k v, f k = some v ↔ ∃ x ∈ es.toList, x.key = .int .i64 k ∧ x.val = v) (k : Int) :
    (f k = none ∧ Instr.findNow (.int .i64) (.int .i64 k) es.toList 0 = some none ∧ ∀ x ∈ es.toList, x.key ≠ .int .i64 k) ∨
    ∃ j e, f k = some e.val ∧ Instr.findNow (.int .i64) (.int .i64 k) es.toList 0 = some (some (j, e.val)) ∧ es[j]? = some e ∧ e.key = .int .i64 k := by
  rcases MapKept.findNow_spec (isKey_int k) es.toList 0 (MapF.keys hk) with ⟨h1, h2⟩ | ⟨j, e, h1, h2, h3⟩
  · left
    refine ⟨?_, h1, h2⟩
    cases hh : f k with
    | none => rfl
    | some v =>
      obtain ⟨x, hx, h3, -⟩ := (hf k v).1 hh
      exact absurd h3 (h2 x hx)
  · right
    refine ⟨j, e, (hf k e.val).2 ⟨e, List.mem_of_getElem? h2, h3, rfl⟩, by simpa using h1, by simpa using h2, h3⟩

theorem MapF.run_look (h : MapF w b f n) (hm : P.underlying t = some (.map kt et)) (hd : P.underlying kt = some (.int .i64)) (z : Value) (hz : (zeroValue et).run P w = .ok z w) (k : Int) (c : Bool) :
    (Instr.lookup t (.map (some b)) (.int .i64 k) c).run P w = .ok (if c then .tuple #[(f k).getD z, .bool (f k).isSome] else (f k).getD z) w := by
  obtain ⟨es, clock, hb, rfl, hk, hnd, hf⟩ := h
  rcases MapF.found hk hf k with ⟨h0, h1, -⟩ | ⟨j, e, h0, h1, h2, h3⟩
  · simp [Instr.lookup, run_underlying hm, MapKept.run_getObj_map hb, MapKept.run_checkKey hd (isKey_int k), MapKept.run_findKey hd h1, Result.andThen, h0, hz]
  · simp [Instr.lookup, run_underlying hm, MapKept.run_getObj_map hb, MapKept.run_checkKey hd (isKey_int k), MapKept.run_findKey hd h1, Result.andThen, h0]
theorem MapF.run_len (h : MapF w b f n) (hm : P.underlying t = some (.map kt et)) (ty : TypeId) : (Builtin.len_ #[t] ty #[.map (some b)]).run P w = .ok (.int .i64 n) w := by
  obtain ⟨es, clock, hb, rfl, -⟩ := h
  simp [Builtin.len_, run_underlying hm, MapKept.run_getObj_map hb, Result.andThen, goInt]
theorem setIf_upd (w : World) (b : Nat) (o : Obj) : Upd (fun k => k = b) w { w with heap := w.heap.setIfInBounds b o } :=
  ⟨rfl, rfl, rfl, by simp, fun k _ hk => by simp [Ne.symm hk]⟩
theorem MapF.run_upd (h : MapF w b f n) (hm : P.underlying t = some (.map kt et)) (hd : P.underlying kt = some (.int .i64)) (k : Int) (v : Value) :
    ∃ w', (Instr.mapUpdate t (.map (some b)) (.int .i64 k) v).run P w = .ok () w' ∧ MapF w' b (fun j => if j = k then some v else f j) (if (f k).isSome then n else n + 1) ∧ Upd (fun i => i = b) w w' := by
  obtain ⟨es, clock, hb, rfl, hk, hnd, hf⟩ := h
  rcases MapF.found hk hf k with ⟨h0, h1, h2⟩ | ⟨j, e, h0, h1, h2, h3⟩
  · refine ⟨_, by simp [Instr.mapUpdate, run_underlying hm, MapKept.run_getObj_map hb, MapKept.run_checkKey hd (isKey_int k), MapKept.run_findKey hd h1, MapKept.run_setObj_map _ hb, Result.andThen]; rfl, ⟨_, _, (MapKept.heap_set hb).1, by simp [h0], ?_, ?_, ?_⟩, setIf_upd _ _ _⟩
    · intro x hx
      simp only [Array.toList_push, List.mem_append, List.mem_singleton] at hx
      rcases hx with hx | rfl
      · exact hk x hx
      · exact ⟨k, rfl⟩
    · simp only [Array.toList_push, List.map_append, List.map_cons, List.map_nil]
      rw [List.nodup_append]
      refine ⟨hnd, by simp, ?_⟩
      intro a ha c hc
      simp only [List.mem_singleton] at hc
      subst hc
      obtain ⟨x, hx, rfl⟩ := List.mem_map.1 ha
      exact h2 x hx
    · intro k' v'
      simp only [Array.toList_push, List.mem_append, List.mem_singleton]
      by_cases hkk : k' = k
      · subst hkk
        simp only [if_true]
        constructor
        · intro h; cases h; exact ⟨_, .inr rfl, rfl, rfl⟩
        · rintro ⟨x, hx | rfl, h4, h5⟩
          · exact absurd h4 (h2 x hx)
          · rw [← h5]
      · rw [if_neg hkk, hf k' v']
        constructor
        · rintro ⟨x, hx, h4⟩; exact ⟨x, .inl hx, h4⟩
        · rintro ⟨x, hx | rfl, h4, h5⟩
          · exact ⟨x, hx, h4, h5⟩
          · simp at h4; exact absurd h4.symm hkk
  · have hj : j < es.size := (Array.getElem?_eq_some_iff.1 h2).1
    refine ⟨_, by simp [Instr.mapUpdate, run_underlying hm, MapKept.run_getObj_map hb, MapKept.run_checkKey hd (isKey_int k), MapKept.run_findKey hd h1, h2, h3, MapKept.run_keyThatStays (isKey_int k), MapKept.run_setObj_map _ hb, Result.andThen]; rfl, ⟨_, _, (MapKept.heap_set hb).1, by simp [h0], ?_, ?_, ?_⟩, setIf_upd _ _ _⟩
    · intro x hx
      obtain ⟨i, hi⟩ := List.getElem?_of_mem hx
      rw [Array.getElem?_toList, Array.getElem?_modify] at hi
      split at hi
      · cases hj2 : es[i]? with
        | none => rw [hj2] at hi; simp at hi
        | some y => rw [hj2] at hi; simp at hi; exact ⟨k, by rw [← hi]⟩
      · exact hk x (List.mem_of_getElem? (by rw [Array.getElem?_toList]; exact hi))
    · rw [MapKept.modify_keys _ _ (fun e' he' => by rw [h2] at he'; cases he'; exact h3.symm)]
      exact hnd
    · have huniq : ∀ i x, es[i]? = some x → x.key = .int .i64 k → i = j := fun i x hi hx => by
        have hi2 : i < es.size := (Array.getElem?_eq_some_iff.1 hi).1
        have a1 : (es.toList.map (·.key))[i]? = some (.int .i64 k) := by simp [hi, hx]
        have a2 : (es.toList.map (·.key))[j]? = some (.int .i64 k) := by simp [h2, h3]
        exact (List.getElem?_inj (by simpa using hi2) hnd).1 (a1.trans a2.symm)
      intro k' v'
      show (if k' = k then _ else _) = _ ↔ _
      by_cases hkk : k' = k
      · subst hkk
        rw [if_pos rfl]
        constructor
        · intro h; cases h
          exact ⟨_, List.mem_of_getElem? (i := j) (by rw [Array.getElem?_toList, Array.getElem?_modify, if_pos rfl, h2]; rfl), rfl, rfl⟩
        · rintro ⟨x, hx, h4, h5⟩
          obtain ⟨i, hi⟩ := List.getElem?_of_mem hx
          rw [Array.getElem?_toList, Array.getElem?_modify] at hi
          split at hi
          · rename_i hij
            subst hij
            rw [h2] at hi
            simp at hi
            rw [← h5, ← hi]
          · rename_i hij
            exact absurd (huniq i x hi h4).symm hij
      · rw [if_neg hkk, hf k' v']
        constructor
        · rintro ⟨x, hx, h4, h5⟩
          obtain ⟨i, hi⟩ := List.getElem?_of_mem hx
          have hij : j ≠ i := fun hij => by
            subst hij
            rw [Array.getElem?_toList, h2] at hi
            cases hi
            rw [h3] at h4
            simp at h4
            exact hkk h4.symm
          exact ⟨x, List.mem_of_getElem? (i := i) (by rw [Array.getElem?_toList, Array.getElem?_modify, if_neg hij]; rw [Array.getElem?_toList] at hi; exact hi), h4, h5⟩
        · rintro ⟨x, hx, h4, h5⟩
          obtain ⟨i, hi⟩ := List.getElem?_of_mem hx
          rw [Array.getElem?_toList, Array.getElem?_modify] at hi
          split at hi
          · rename_i hij
            subst hij
            rw [h2] at hi
            simp at hi
            rw [← hi] at h4
            simp at h4
            exact absurd h4.symm hkk
          · exact ⟨x, List.mem_of_getElem? (i := i) (by rw [Array.getElem?_toList]; exact hi), h4, h5⟩
theorem MapF.run_del (h : MapF w b f n) (hm : P.underlying t = some (.map kt et)) (hd : P.underlying kt = some (.int .i64)) (k : Int) (ty : TypeId) :
    ∃ w', (Builtin.delete_ #[t, kt] ty #[.map (some b), .int .i64 k]).run P w = .ok (.tuple #[]) w' ∧ MapF w' b (fun j => if j = k then none else f j) (if (f k).isSome then n - 1 else n) ∧ Upd (fun i => i = b) w w' := by
  obtain ⟨es, clock, hb, rfl, hk, hnd, hf⟩ := h
  rcases MapF.found hk hf k with ⟨h0, h1, h2⟩ | ⟨j, e, h0, h1, h2, h3⟩
  · refine ⟨_, by simp [Builtin.delete_, run_underlying hm, MapKept.run_getObj_map hb, MapKept.run_checkKey hd (isKey_int k), MapKept.run_findKey hd h1, MapKept.run_setObj_map _ hb, Result.andThen], ⟨es, clock, (MapKept.heap_set hb).1, by simp [h0], hk, hnd, ?_⟩, setIf_upd _ _ _⟩
    intro k' v'
    show (if k' = k then _ else _) = _ ↔ _
    by_cases hkk : k' = k
    · subst hkk
      rw [if_pos rfl]
      constructor
      · intro h; cases h
      · rintro ⟨x, hx, h4, -⟩; exact absurd h4 (h2 x hx)
    · rw [if_neg hkk]; exact hf k' v'
  · have hj : j < es.size := (Array.getElem?_eq_some_iff.1 h2).1
    have hl : (es.eraseIdxIfInBounds j).toList = es.toList.eraseIdx j := by
      unfold Array.eraseIdxIfInBounds
      rw [dif_pos hj, Array.toList_eraseIdx]
    refine ⟨_, by simp [Builtin.delete_, run_underlying hm, MapKept.run_getObj_map hb, MapKept.run_checkKey hd (isKey_int k), MapKept.run_findKey hd h1, MapKept.run_setObj_map _ hb, Result.andThen]; rfl, ⟨_, clock, (MapKept.heap_set hb).1, ?_, ?_, ?_, ?_⟩, setIf_upd _ _ _⟩
    · have := congrArg List.length hl
      rw [List.length_eraseIdx] at this
      simp only [Array.length_toList, hj, if_true] at this
      simp [h0, this]
    · intro x hx
      rw [hl] at hx
      exact hk x ((List.eraseIdx_sublist _ _).subset hx)
    · rw [hl]
      exact ((List.eraseIdx_sublist _ _).map _).nodup hnd
    · intro k' v'
      show (if k' = k then _ else _) = _ ↔ _
      have hmem : ∀ x, x ∈ es.toList.eraseIdx j ↔ ∃ i, i ≠ j ∧ es.toList[i]? = some x := fun x => List.mem_eraseIdx_iff_getElem?
      have huniq : ∀ i x, es.toList[i]? = some x → x.key = .int .i64 k → i = j := fun i x hi hx => by
        have hi2 : i < es.size := (Array.getElem?_eq_some_iff.1 (by rw [Array.getElem?_toList] at hi; exact hi)).1
        have a1 : (es.toList.map (·.key))[i]? = some (.int .i64 k) := by rw [List.getElem?_map, hi]; simp [hx]
        have a2 : (es.toList.map (·.key))[j]? = some (.int .i64 k) := by simp [h2, h3]
        exact (List.getElem?_inj (by simpa using hi2) hnd).1 (a1.trans a2.symm)
      rw [hl]
      by_cases hkk : k' = k
      · subst hkk
        rw [if_pos rfl]
        constructor
        · intro h; cases h
        · rintro ⟨x, hx, h4, h5⟩
          obtain ⟨i, hij, hi⟩ := (hmem x).1 hx
          exact absurd (huniq i x hi h4) hij
      · rw [if_neg hkk, hf k' v']
        constructor
        · rintro ⟨x, hx, h4, h5⟩
          obtain ⟨i, hi⟩ := List.getElem?_of_mem hx
          refine ⟨x, (hmem x).2 ⟨i, fun hij => ?_, hi⟩, h4, h5⟩
          subst hij
          rw [Array.getElem?_toList, h2] at hi
          cases hi
          rw [h3] at h4
          simp at h4
          exact hkk h4.symm
        · rintro ⟨x, hx, h4, h5⟩
          exact ⟨x, (List.eraseIdx_sublist _ _).subset hx, h4, h5⟩

/-! ### at the operations -/
theorem wpList_lookF {P : Program} {w : World} {ops : Array Oper} {rest : List Oper} {o : Oper} {a : Act} {Q : Exit → Act → World → Prop} (hg : o.guard = none) (m x : Operand) (t kt et : TypeId) (c : Bool) (hop : o.op = Op.lookup t m x c)
    (hm : P.underlying t = some (.map kt et)) (hd : P.underlying kt = some (.int .i64)) (b n : Nat) (f : Int → Option Value) (h : MapF w b f n) (he : a.eval m = .map (some b)) (k : Int) (hx : a.eval x = .int .i64 k) (z : Value) (hz : (zeroValue et).run P w = .ok z w)
    (hK : wpList P ops Q rest (a.put o.dst (if c then .tuple #[(f k).getD z, .bool (f k).isSome] else (f k).getD z)) w) : wpList P ops Q (o :: rest) a w := by
  refine wpList_plain hg fun K' hK' => ?_
  unfold Oper.wp
  simp [execOp, hop, he, hx, h.run_look hm hd z hz k c, Result.andThen]
  exact hK' _ _ hK
theorem wpList_updF {P : Program} {w : World} {ops : Array Oper} {rest : List Oper} {o : Oper} {a : Act} {Q : Exit → Act → World → Prop} (hg : o.guard = none) (m x v : Operand) (t kt et : TypeId) (hop : o.op = Op.mapUpdate t m x v)
    (hm : P.underlying t = some (.map kt et)) (hd : P.underlying kt = some (.int .i64)) (b n : Nat) (f : Int → Option Value) (h : MapF w b f n) (he : a.eval m = .map (some b)) (k : Int) (hx : a.eval x = .int .i64 k) (u : Value) (hv : a.eval v = u)
    (hK : ∀ w', MapF w' b (fun j => if j = k then some u else f j) (if (f k).isSome then n else n + 1) → Upd (fun i => i = b) w w' → wpList P ops Q rest (a.put o.dst undef) w') : wpList P ops Q (o :: rest) a w := by
  obtain ⟨w', hr, h1, h2⟩ := h.run_upd hm hd k u
  refine wpList_plain hg fun K' hK' => ?_
  unfold Oper.wp
  simp [execOp, hop, he, hx, hv, hr, Result.andThen]
  exact hK' _ _ (hK w' h1 h2)
theorem wpList_delF {P : Program} {w : World} {ops : Array Oper} {rest : List Oper} {o : Oper} {a : Act} {Q : Exit → Act → World → Prop} (hg : o.guard = none) (m x : Operand) (t kt et : TypeId) (hop : o.op = Op.call { callee := Callee.builtin Builtin.delete, args := #[m, x], argTypes := #[t, kt] })
    (hm : P.underlying t = some (.map kt et)) (hd : P.underlying kt = some (.int .i64)) (b n : Nat) (f : Int → Option Value) (h : MapF w b f n) (he : a.eval m = .map (some b)) (k : Int) (hx : a.eval x = .int .i64 k)
    (hK : ∀ w', MapF w' b (fun j => if j = k then none else f j) (if (f k).isSome then n - 1 else n) → Upd (fun i => i = b) w w' → wpList P ops Q rest (a.put o.dst (.tuple #[])) w') : wpList P ops Q (o :: rest) a w := by
  obtain ⟨w', hr, h1, h2⟩ := h.run_del hm hd k o.type
  refine wpList_plain hg fun K' hK' => ?_
  unfold Oper.wp
  simp [execOp, hop, resolve, invoke, builtin, he, hx, hr, Result.andThen]
  exact hK' _ _ (hK w' h1 h2)
theorem wpList_lenF {P : Program} {w : World} {ops : Array Oper} {rest : List Oper} {o : Oper} {a : Act} {Q : Exit → Act → World → Prop} (hg : o.guard = none) (m : Operand) (t kt et : TypeId) (hop : o.op = Op.call { callee := Callee.builtin Builtin.len, args := #[m], argTypes := #[t] })
    (hm : P.underlying t = some (.map kt et)) (b n : Nat) (f : Int → Option Value) (h : MapF w b f n) (he : a.eval m = .map (some b))
    (hK : wpList P ops Q rest (a.put o.dst (.int .i64 n)) w) : wpList P ops Q (o :: rest) a w := by
  refine wpList_plain hg fun K' hK' => ?_
  unfold Oper.wp
  simp [execOp, hop, resolve, invoke, builtin, he, h.run_len hm o.type, Result.andThen]
  exact hK' _ _ hK
end
end Go.Proofs.YtecfhfddgolpfaaGreat
