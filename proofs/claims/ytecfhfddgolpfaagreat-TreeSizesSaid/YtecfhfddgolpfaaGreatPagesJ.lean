/- Pages: Room, Open. -/
import Derived.Test.YtecfhfddgolpfaaGreatPagesI
namespace Go.Proofs.YtecfhfddgolpfaaGreat
open Go.RowKit
variable {w w' : World} {F G FD : Nat → Prop} {p d nf pool dn mf N : Nat} {isv usv : Value} {fr : Int → Option Value} {us σ : List Int} {V : Int → Prop} {C S : Int → Bytes}

/-- How many pages are free. -/
def roomOf (σ : List Int) : Nat := σ.countP (· == 0)
theorem roomOf_succ (σ : List Int) (k : Nat) (hk : k < σ.length) : roomOf (σ.take (k + 1)) = roomOf (σ.take k) + if σ[k] = 0 then 1 else 0 := by
  unfold roomOf
  rw [List.take_succ_eq_append_getElem hk, List.countP_append, List.countP_singleton]
  simp
theorem roomOf_le (σ : List Int) : roomOf σ ≤ σ.length := List.countP_le_length
set_option maxRecDepth 100000 in
set_option maxHeartbeats 1000000 in
theorem room_pgs (h : Pgs w F p nf pool dn σ C N) (h0 : 0 < σ.length) :
    Calls Tryz.prog 73 #[.pointer (some ⟨p, 0, none⟩)] w fun e w' => e = .returned (.int .i64 (roomOf σ : Nat)) ∧ w' = w := by
  obtain ⟨S, d, FD, isv, mf, fr, usv, us, h⟩ := h
  have hsl := h.len
  have hisv := h.is
  obtain ⟨g, cap, cur, rfl, hg, hi1, hi2, -, -⟩ := own_open hisv (by simp; omega)
  rw [intv_length] at h hi1 hisv
  have c3 := h.pl.row.cells.2.2.2.1
  have hisn := h.is
  unfold Own at hisn
  rw [intv_length] at hisn
  have hc : ∀ k (hk : k < σ.length), w.cell? ⟨g, k, none⟩ = some (.int .i64 σ[k]) := fun k hk => by rw [hisn.cellAt k (by omega)]; exact intv_get σ k hk
  have HC := Lib.hid hc
  have hrs := fun k (hk : k < σ.length) => roomOf_succ σ k hk
  have hrl : ∀ k, roomOf (σ.take k) ≤ k := fun k => Nat.le_trans (roomOf_le _) (List.length_take_le _ _)
  have HRS := Lib.hid hrs
  have HRL := Lib.hid hrl
  have hl2 : σ.length ≤ 9223372036854775807 := by omega
  clear h hg hi1 hi2 hisv hisn hc hrs hrl
  go_enter Tryz.func73, Tryz.ntmps73
  go_wp2
  go_loop [3, 13] (fun n i => ∃ k : Nat, k ≤ σ.length ∧ i = .int .i64 k ∧ n = .int .i64 (roomOf (σ.take k) : Nat)) (fun _ i => σ.length - (intOf i).toNat)
  case atStart => exact ⟨0, Nat.zero_le _, rfl, rfl⟩
  case round =>
    obtain ⟨k, hk, rfl, rfl⟩ := hrel
    have hle := HRL.out k
    by_cases hlt : k < σ.length
    · have hcell := HC.out k hlt
      have hst := HRS.out k hlt
      obtain ⟨v, hv⟩ : ∃ v, v = σ[k] := ⟨_, rfl⟩
      rw [← hv] at hcell hst
      obtain ⟨q, hq⟩ : ∃ q, q = roomOf (σ.take k) := ⟨_, rfl⟩
      rw [← hq] at hst hle ⊢
      have HST := Lib.hid hst
      clear hst hv hq
      by_cases hz : v = 0
      · subst hz
        go_wp2
        go_round
        case rel => exact ⟨k + 1, by omega, by go_num, by rw [HST.out]; simp⟩
        case measure => simp [intOf]; omega
      · have hb : (v == 0) = false := by simpa using hz
        go_wp2
        go_round
        case rel => exact ⟨k + 1, by omega, by go_num, by rw [HST.out, if_neg hz]; rfl⟩
        case measure => simp [intOf]; omega
    · obtain rfl : k = σ.length := by omega
      rw [List.take_length]
      go_wp2
      go_ret
      exact ⟨rfl, rfl⟩
theorem info_state : (Tryz.prog.info? 124).map (fun i => (i.zero, i.size, i.bytes)) = some (some (.int .i64 0), 1, 8) := by kernel_rfl
theorem make_states (n : Nat) (hn : n ≤ 100000) (w : World) : (Instr.makeSlice 120 (.int .i64 (n : Nat)) (.int .i64 (n : Nat))).run Tryz.prog w = .ok (.slice (some ⟨w.heap.size, 0, none⟩) n n) (w.alloc (.cells (intv (List.replicate n 0)).toArray 124)) := by
  obtain ⟨i, hi, hz0, hz1, hz2⟩ := info_parts info_state
  have := run_make (P := Tryz.prog) w 120 124 i _ (by kernel_rfl) hi hz0 .i64 .i64 (n : Nat) (n : Nat) (by omega) (by omega) (by rw [hz2]; omega) (by omega)
  rw [this, hz1]
  have e : madeCells (Value.cells (.int .i64 0)) (Int.toNat (n : Nat) * 1) = (intv (List.replicate n 0)).toArray := by
    apply Array.ext'
    show (madeCells #[.int .i64 0] (Int.toNat (n : Nat) * 1)).toList = _
    rw [toList_madeCells_one]
    simp [intv]
  rw [e]
  simp
theorem stOf_replicate (n : Nat) (k : Int) : stOf (List.replicate n 0) k = 0 := by
  unfold stOf
  split
  · rfl
  · rw [List.getElem?_replicate]; split <;> rfl
set_option maxRecDepth 100000 in
set_option maxHeartbeats 1000000 in
theorem open_pgs (h : DiskS w FD d dn S N) (hdn : dn ≤ 65536) (n : Nat) (hn : 4 * n ≤ dn) (hp0 : 1 ≤ pool) (hpm : pool ≤ 1000) (C : Int → Bytes) :
    Calls Tryz.prog 28 #[.pointer (some ⟨d, 0, none⟩), .int .i64 0, .int .i64 n, .int .i64 pool, .slice none 0 0] w fun e w' => ∃ p F', e = .returned (.tuple #[.pointer (some ⟨p, 0, none⟩), .int .i64 0]) ∧ Pgs w' F' p 0 pool dn (List.replicate n 0) C N ∧ (∀ i, F' i → FD i ∨ w.heap.size ≤ i) ∧ Ext w w' := by
  have HS := Lib.hid (diskS_size h)
  have HD := Lib.hid h
  have hmk : ∀ wz, (Instr.makeSlice 120 (.int .i64 (n : Nat)) (.int .i64 (n : Nat))).run Tryz.prog wz = .ok (.slice (some ⟨wz.heap.size, 0, none⟩) n n) (wz.alloc (.cells (intv (List.replicate n 0)).toArray 124)) := make_states n (by omega)
  have hmm : ∀ wz, (Instr.makeMap 121 none).run Tryz.prog wz = .ok (.map (some wz.heap.size)) (wz.alloc (.map #[] 0)) := fun wz => run_mkmap _ wz
  have h1 : ¬ ((n : Int) < 0) := by omega
  have h2 : ¬ ((pool : Int) < 1) := by omega
  have h3 : ¬ ((0 : Int) > (dn : Int)) := by omega
  have h4 : ¬ ((n : Int) > (dn : Int) / 4) := by omega
  have h5 : (0 : Int) ≤ (dn : Int) := by omega
  clear h
  go_enter Tryz.func28, Tryz.ntmps28
  go_wp2_with (first
    | (go_at_call 49; refine HS.out.mono ?_; rintro e w ⟨rfl, rfl⟩)
    | fail)
  have hfin : ∃ F', Pgs (((w.alloc (.cells (intv (List.replicate n 0)).toArray 124)).alloc (.map #[] 0)).alloc (.cells #[.pointer (some ⟨d, 0, none⟩), .int .i64 0, .int .i64 pool, .slice (some ⟨w.heap.size, 0, none⟩) n n, .map (some (w.heap.size + 1)), .slice none 0 0, .bool false] 123)) F' (w.heap.size + 1 + 1) 0 pool dn (List.replicate n 0) C N ∧ (∀ i, F' i → FD i ∨ w.heap.size ≤ i) := by
    obtain ⟨w1, hw1⟩ : ∃ w1, w1 = w.alloc (.cells (intv (List.replicate n 0)).toArray 124) := ⟨_, rfl⟩
    obtain ⟨w2, hw2⟩ : ∃ w2, w2 = w1.alloc (.map #[] 0) := ⟨_, rfl⟩
    have e1 : Ext w w1 := by rw [hw1]; exact (Upd.refl _ w).alloc _
    have e2 : Ext w1 w2 := by rw [hw2]; exact (Upd.refl _ w1).alloc _
    have hs1 : w1.heap.size = w.heap.size + 1 := by rw [hw1]; simp
    have hs2 : w2.heap.size = w.heap.size + 1 + 1 := by rw [hw2]; simp [hs1]
    rw [← hw1, ← hw2]
    obtain ⟨o, ho⟩ : ∃ o, o = Obj.cells #[.pointer (some ⟨d, 0, none⟩), .int .i64 0, .int .i64 pool, .slice (some ⟨w.heap.size, 0, none⟩) n n, .map (some (w.heap.size + 1)), .slice none 0 0, .bool false] 123 := ⟨_, rfl⟩
    rw [← ho]
    have e3 : Ext w2 (w2.alloc o) := (Upd.refl _ w2).alloc _
    have hrow := heap_alloc_new w2 o
    rw [hs2] at hrow
    have hm2 : MapF w2 (w.heap.size + 1) (fun _ => none) 0 := by
      have := MapF.made w1
      rw [← hw2, hs1] at this; exact this
    have hmd : ¬ FD (w.heap.size + 1) := fun e => by have := HD.out.lt e; omega
    have hst : Own (w2.alloc o) 124 (.slice (some ⟨w.heap.size, 0, none⟩) n n) (intv (List.replicate n 0)) := by
      have hh : (w2.alloc o).heap[w.heap.size]? = some (.cells (intv (List.replicate n 0)).toArray 124 (0, 0)) :=
        e3.heap (e2.heap (by rw [hw1]; exact heap_alloc_new w _) (fun f => f)) (fun f => f)
      refine ⟨by simp, .inr ⟨w.heap.size, n, _, by rw [intv_length, List.length_replicate], Nat.zero_le _, hh, by simp, by unfold maxLen; omega, by simp, ?_⟩⟩
      rw [Nat.mul_one]
      exact List.take_of_length_le (by simp)
    refine ⟨footOf (w.heap.size + 1 + 1) FD (.slice (some ⟨w.heap.size, 0, none⟩) n n) (w.heap.size + 1) (.slice none 0 0) (fun _ => none), ⟨S, d, FD, _, w.heap.size + 1, fun _ => none, .slice none 0 0, [], ⟨⟨?_, hm2.upd e3 (fun f => f), Own.nil _ _, List.nodup_nil, by simp, by simp⟩, ((HD.out.upd e1 (fun _ _ f => f) (fun _ _ _ f => f.elim)).upd e2 (fun _ _ f => f) (fun _ _ _ f => f.elim)).upd e3 (fun _ _ f => f) (fun _ _ _ f => f.elim), hst, fun k v e => by simp at e, fun k hk _ => ?_, fun k hk => hk.range, hmd, Nat.zero_le _, hp0, hpm, by simp; omega, hdn, fun i => Iff.rfl⟩⟩, ?_⟩
    · unfold PgRow; rw [hrow, ho]; rfl
    · unfold usedP at hk; rw [stOf_replicate] at hk; omega
    · rintro i (e | e | e | e | e | ⟨k, e⟩)
      · exact .inr (by omega)
      · exact .inl e
      · simp [Value.ownBlock] at e; exact .inr (by omega)
      · exact .inr (by omega)
      · simp [Value.ownBlock] at e
      · simp at e
  have HFIN := Lib.hid hfin
  clear hfin hmk hmm
  go_loop [50] (fun i => i = .int .i64 0) (fun _ => 0)
  case atStart => rfl
  case round =>
    subst hrel
    go_wp2
    go_ret2
    obtain ⟨F', g1, g2⟩ := HFIN.out
    exact ⟨w.heap.size + 1 + 1, rfl, F', g1, g2, (((Upd.refl _ w).alloc _).alloc _).alloc _⟩
end Go.Proofs.YtecfhfddgolpfaaGreat
