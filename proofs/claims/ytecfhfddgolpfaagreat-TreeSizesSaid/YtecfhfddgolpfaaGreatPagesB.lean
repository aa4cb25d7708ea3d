/- Pages: drop of a page that is in memory. -/
import Derived.Test.YtecfhfddgolpfaaGreatPagesA
namespace Go.Proofs.YtecfhfddgolpfaaGreat
open Go.RowKit
variable {w w' : World} {F G : Nat → Prop} {p d nf pool mf n N : Nat} {isv usv : Value} {fr : Int → Option Value} {us : List Int}

theorem wpList_delSome {P : Program} {w : World} {ops : Array Oper} {rest : List Oper} {o : Oper} {a : Act} {Q : Exit → Act → World → Prop} (hg : o.guard = none) (m x : Operand) (t kt et : TypeId) (hop : o.op = Op.call { callee := Callee.builtin Builtin.delete, args := #[m, x], argTypes := #[t, kt] })
    (hm : P.underlying t = some (.map kt et)) (hd : P.underlying kt = some (.int .i64)) (b n : Nat) (f : Int → Option Value) (h : MapF w b f n) (he : a.eval m = .map (some b)) (k : Int) (hx : a.eval x = .int .i64 k) (v : Value) (hv : f k = some v)
    (hK : ∀ w', MapF w' b (fun j => if j = k then none else f j) (n - 1) → Upd (fun i => i = b) w w' → wpList P ops Q rest (a.put o.dst (.tuple #[])) w') : wpList P ops Q (o :: rest) a w := by
  refine wpList_delF hg m x t kt et hop hm hd b n f h he k hx ?_
  rw [hv]; exact hK
theorem wpList_updNone {P : Program} {w : World} {ops : Array Oper} {rest : List Oper} {o : Oper} {a : Act} {Q : Exit → Act → World → Prop} (hg : o.guard = none) (m x v : Operand) (t kt et : TypeId) (hop : o.op = Op.mapUpdate t m x v)
    (hm : P.underlying t = some (.map kt et)) (hd : P.underlying kt = some (.int .i64)) (b n : Nat) (f : Int → Option Value) (h : MapF w b f n) (he : a.eval m = .map (some b)) (k : Int) (hx : a.eval x = .int .i64 k) (u : Value) (hv : a.eval v = u) (hf : f k = none)
    (hK : ∀ w', MapF w' b (fun j => if j = k then some u else f j) (n + 1) → Upd (fun i => i = b) w w' → wpList P ops Q rest (a.put o.dst undef) w') : wpList P ops Q (o :: rest) a w := by
  refine wpList_updF hg m x v t kt et hop hm hd b n f h he k hx u hv ?_
  rw [hf]; exact hK
theorem PoolAt.ne (h : PoolAt w p d nf pool isv mf fr usv us) : mf ≠ p ∧ (∀ k, usv.ownBlock = some k → k ≠ p ∧ k ≠ mf) := by
  refine ⟨fun e => ?_, fun k hk => ⟨fun e => ?_, fun e => ?_⟩⟩
  · subst e; exact h.frm.notCells _ _ _ h.row
  · obtain ⟨cur, hc⟩ := ownN_type h.used hk
    rw [e, show w.heap[p]? = _ from h.row] at hc; simp at hc
  · obtain ⟨cur, hc⟩ := ownN_type h.used hk
    rw [e] at hc; exact h.frm.notCells _ _ _ hc
theorem intv_del (us : List Int) (k : Nat) : (intv us).take k ++ (intv us).drop (k + 1) = intv (us.take k ++ us.drop (k + 1)) := by simp [intv]
theorem mem_del {us : List Int} (hnd : us.Nodup) {k : Nat} (hk : k < us.length) (j : Int) : j ∈ us.take k ++ us.drop (k + 1) ↔ j ∈ us ∧ j ≠ us[k] := by
  have e : us = us.take k ++ us[k] :: us.drop (k + 1) := by
    have := (List.take_append_drop k us).symm
    rwa [List.drop_eq_getElem_cons hk] at this
  have hnd2 := hnd
  rw [e, List.nodup_append] at hnd2
  obtain ⟨h1, h2, h3⟩ := hnd2
  have h4 := (List.nodup_cons.1 h2).1
  have hm : j ∈ us ↔ j ∈ us.take k ++ us[k] :: us.drop (k + 1) := by rw [← e]
  rw [hm]
  simp only [List.mem_append, List.mem_cons]
  constructor
  · rintro (h | h)
    · exact ⟨.inl h, h3 j h _ List.mem_cons_self⟩
    · exact ⟨.inr (.inr h), fun e => h4 (e ▸ h)⟩
  · rintro ⟨h | h | h, hn⟩
    · exact .inl h
    · exact absurd h hn
    · exact .inr h
set_option maxRecDepth 100000 in
set_option maxHeartbeats 1000000 in
theorem drop_yes (h : PoolAt w p d nf pool isv mf fr usv us) (k : Nat) (hk : k < us.length) (n : Int) (hn : us[k] = n) :
    Calls Tryz.prog 97 #[.pointer (some ⟨p, 0, none⟩), .int .i64 n] w fun e w' => e = .returned (.tuple #[]) ∧ ∃ usv', PoolAt w' p d nf pool isv mf (fun j => if j = n then none else fr j) usv' (us.take k ++ us.drop (k + 1)) ∧
      usv'.ownBlock = usv.ownBlock ∧ Upd (fun i => i = p ∨ i = mf ∨ usv.ownBlock = some i) w w' := by
  obtain ⟨hmp, hup⟩ := h.ne
  have c4 := h.row.cells.2.2.2.2.1
  have c5 := h.row.cells.2.2.2.2.2.1
  obtain ⟨v, hv⟩ := Option.isSome_iff_exists.1 ((h.usd n).2 (hn ▸ List.getElem_mem hk))
  have hix : idxI us n = k := idxI_hit hk hn (fun j hj e => by
    have := (List.getElem_inj (h₀ := (by omega : j < us.length)) (h₁ := hk) h.nodup).1 (e.trans hn.symm)
    omega)
  have hl := h.len
  have hmd := mem_del h.nodup hk
  rw [hn] at hmd
  have hnd : (us.take k ++ us.drop (k + 1)).Nodup := h.nodup.sublist (by
    conv => rhs; rw [← List.take_append_drop k us]
    exact (List.Sublist.refl _).append (by rw [List.drop_eq_getElem_cons hk]; exact List.sublist_cons_self _ _))
  have hlen : (us.take k ++ us.drop (k + 1)).length = us.length - 1 := by simp; omega
  have HIX := Lib.hid (indexI_any usv us n w (own_rd h.used) (by omega))
  have HDL := Lib.hid (delI_any usv (intv us) k w h.used (by simpa using hk) (by simp; omega) (intv_one _))
  rw [hix] at HIX
  have HH := Lib.hid h
  have HZ := Lib.hid (zero_frame w)
  have HN := Lib.hid hn
  have HV := Lib.hid hv
  have HMD := Lib.hid hmd
  have HND := Lib.hid hnd
  have HLEN := Lib.hid hlen
  have HL := Lib.hid hl
  have HK := Lib.hid hk
  have hk0 : (k : Int) ≤ 1000000 := by omega
  clear h hn hix hv hmd hnd hlen hl
  go_enter Tryz.func97, Tryz.ntmps97
  go_wp2_with (first
    | (at_lookup; refine wpList_lookF rfl _ _ 121 3 204 true rfl (by kernel_rfl) (by kernel_rfl) mf us.length fr HH.out.frm rfl n rfl _ HZ.out ?_; rw [HV.out])
    | (go_at_call 122; refine HIX.out.mono ?_; rintro e w1 ⟨rfl, rfl⟩) | fail)
  refine HDL.out.mono ?_
  rintro e w2 ⟨usv', rfl, ho, ho2, hU2⟩
  have hr2 : PgRow w2 p d nf pool isv mf usv := hU2.heap HH.out.row (fun e => (hup _ e).1 rfl)
  have hm2 : MapF w2 mf fr us.length := HH.out.frm.upd hU2 (fun e => (hup _ e).2 rfl)
  have c5' := hr2.cells.2.2.2.2.2.1
  have c4' := hr2.cells.2.2.2.2.1
  have f5 : w2.frozen? ⟨p, 5, none⟩ = false := frozen_heap hr2
  rw [intv_del] at ho
  obtain ⟨ua, um, uc, rfl⟩ : ∃ ua um uc, usv' = .slice ua um uc := by
    obtain ⟨ua, uc, e, -⟩ := own_slice ho
    exact ⟨ua, _, uc, e⟩
  have hp5 : ∀ (W : World), W = w2.setCell ⟨p, 5, none⟩ (.slice ua um uc) → PgRow W p d nf pool isv mf (.slice ua um uc) ∧ MapF W mf fr us.length ∧ Own W 3 (.slice ua um uc) (intv (us.take k ++ us.drop (k + 1))) ∧ Upd (fun i => i = p) w2 W := by
    intro W hW
    have hU : Upd (fun i => i = p) w2 W := by rw [hW]; exact (Upd.refl _ w2).setCell _ (.inl rfl)
    refine ⟨?_, hm2.upd hU hmp, own_ext ho hU (fun k hk => (hup k (by rw [← ho2]; exact hk)).1), hU⟩
    unfold PgRow
    rw [hW, heap_setCell_same w2 p 5 _ _ _ hr2]
    rfl
  have HP5 := Lib.hid (hp5 _ rfl)
  have HU2 := Lib.hid hU2
  have HO2 := Lib.hid ho2
  clear hr2 hm2 ho ho2 hU2 hp5 c4 c5
  go_wp2_with (first | (refine wpList_delSome rfl _ _ 121 3 204 rfl (by kernel_rfl) (by kernel_rfl) mf us.length fr HP5.out.2.1 rfl n rfl v HV.out ?_; intro w4 hm4 hU4) | fail)
  go_end0
  obtain ⟨h1, h2, h3, h4⟩ := HP5.out
  refine ⟨rfl, _, ⟨hU4.heap h1 (fun e => hmp e.symm), by rw [HLEN.out]; exact hm4, own_ext h3 hU4 (fun k hk => (hup k (by rw [← HO2.out]; exact hk)).2), HND.out, ?_, by have := HLEN.out; have := HL.out; omega⟩, HO2.out, ?_⟩
  · intro j
    rw [HMD.out j]
    by_cases hj : j = n
    · subst hj; simp
    · simp only [if_neg hj]; rw [HH.out.usd]; simp [hj]
  · exact ((HU2.out.mono (G := fun i => i = p ∨ i = mf ∨ usv.ownBlock = some i) (fun i _ e => .inr (.inr e))).trans h4 (fun i e => .inl (.inl e))).trans hU4 (fun i e => .inl (.inr (.inl e)))
end Go.Proofs.YtecfhfddgolpfaaGreat
