/- Pages: Alloc, Put, Free, Fresh. -/
import Derived.Test.YtecfhfddgolpfaaGreatPagesH
namespace Go.Proofs.YtecfhfddgolpfaaGreat
open Go.RowKit
variable {w w' : World} {F G FD : Nat → Prop} {p d nf pool dn mf N : Nat} {isv usv : Value} {fr : Int → Option Value} {us σ : List Int} {V : Int → Prop} {C S : Int → Bytes}

theorem stOf_set {σ : List Int} {n : Nat} (hn : n < σ.length) (s k : Int) : stOf (σ.set n s) k = if k = n then s else stOf σ k := by
  unfold stOf
  by_cases h : k < 0
  · rw [if_pos h, if_pos h, if_neg (by omega)]
  · rw [if_neg h, if_neg h]
    by_cases hk : k = n
    · subst hk; simp [hn]
    · rw [if_neg hk, List.getElem?_set_ne (by omega)]
theorem intv_set (l : List Int) (n : Nat) (s : Int) : (intv l).set n (.int .i64 s) = intv (l.set n s) := by simp [intv, List.map_set]
/-- Another state of one page. -/
theorem PgsAt.setIs {V' : Int → Prop} (h : PgsAt w F p nf pool dn σ V C S N d FD isv mf fr usv us) {g m cap : Nat} (hi : isv = .slice (some ⟨g, 0, none⟩) m cap) (n : Nat) (s : Int) (hV : ∀ k, V' k → V k) :
    PgsAt (w.setCell ⟨g, n, none⟩ (.int .i64 s)) F p nf pool dn (σ.set n s) V' C S N d FD isv mf fr usv us ∧ Upd (fun i => isv.ownBlock = some i) w (w.setCell ⟨g, n, none⟩ (.int .i64 s)) := by
  obtain ⟨hp1, hp2, hp3, hp4, hp5, hp6⟩ := h.pne
  have hb : isv.ownBlock = some g := by rw [hi]; rfl
  have hU : Upd (fun i => i = g) w (w.setCell ⟨g, n, none⟩ (.int .i64 s)) := (Upd.refl _ w).setCell _ (.inl rfl)
  obtain ⟨gcur, hg⟩ := ownN_type h.is hb
  have hnb : ∀ b cs fr, b = g → w.heap[b]? ≠ some (.cells cs 5 fr) := by rintro b cs fr rfl e; rw [hg] at e; simp at e
  have hlen : m = σ.length := by
    have := h.is.2
    subst hi
    rcases this with ⟨e, -⟩ | ⟨g', cap', cur, e, -⟩
    · simp at e
    · simp at e; exact e.2.1
  refine ⟨⟨h.pl.upd hU (fun e => hp2 (e ▸ hb)) (fun e => (hp5 g hb).2.1 e.symm) (fun k hk e => (hp5 g hb).2.2 (e ▸ hk)), h.dk.upd hU (fun i hi e => (hp5 g hb).1 (e ▸ hi)) hnb, ?_, ?_, fun k a b => h.cold k (hV k a) b, fun k a => by simpa using h.vr k (hV k a), h.mfd, h.up, h.p0, h.pm, by simpa using h.fit, h.dnm, h.foot⟩, hU.mono (fun i _ e => by rw [e]; exact hb)⟩
  · have h1 := h.is
    unfold Own at h1 ⊢
    subst hi hlen
    rw [intv_length] at h1
    have := (h1.stored n (.int .i64 s)).1
    rw [intv_set] at this
    rw [intv_length, List.length_set]
    exact this
  · intro k v hv
    have := (h.frs k v hv).upd hU (fun i hi e => by
      obtain ⟨fb, bv, dirty, e1, g1, -⟩ := h.frs k v hv
      rw [hi] at e1; simp at e1; subst e1
      exact (h.fne g1).2.2.1 (e ▸ hb)) hnb
    rw [List.length_set]; exact this
/-- The first free page. -/
theorem idx_spec {σ : List Int} {n : Nat} (h : idxI σ 0 = n) : n < σ.length ∧ stOf σ n = 0 := by
  unfold idxI at h
  cases hf : σ.findIdx? (· == 0) with
  | none => rw [hf] at h; simp at h
  | some k =>
    rw [hf] at h
    obtain rfl : k = n := by simp at h; omega
    obtain ⟨h1, h2, -⟩ := List.findIdx?_eq_some_iff_getElem.1 hf
    refine ⟨h1, ?_⟩
    rw [stOf_nat σ k h1]; simpa using h2
set_option maxRecDepth 100000 in
set_option maxHeartbeats 1000000 in
theorem alloc_pgs (h : Pgs w F p nf pool dn σ C N) (hN : N + 4 ≤ 1000000000) (n : Nat) (hn : idxI σ 0 = n) :
    Calls Tryz.prog 80 #[.pointer (some ⟨p, 0, none⟩)] w fun e w' => e = .returned (.tuple #[.int .i64 n, .int .i64 0]) ∧ ∃ F', Pgs w' F' p nf pool dn (σ.set n 2) (fun k => if k = n then List.replicate 1024 0 else C k) (N + 4) ∧ (∀ i, F' i → F i ∨ w.heap.size ≤ i) ∧ Upd F w w' := by
  obtain ⟨S, d, FD, isv, mf, fr, usv, us, h⟩ := h
  obtain ⟨hnl, hn0⟩ := idx_spec hn
  have hsl := h.len
  have hisv := h.is
  obtain ⟨g, cap, cur, rfl, hg, hi1, hi2, -, -⟩ := own_open hisv (by simp; omega)
  rw [intv_length] at h hi1 hisv
  have c3 := h.pl.row.cells.2.2.2.1
  have HL := Lib.hid (lost_any h.pl.row)
  have HIX := Lib.hid (indexS_any _ σ 0 w (own_rd h.is) (by omega))
  rw [hn] at HIX
  have hmk : ∀ wz, (Instr.makeSlice 23 (.int .i64 1024) (.int .i64 1024)).run Tryz.prog wz = .ok (.slice (some ⟨wz.heap.size, 0, none⟩) 1024 1024) (wz.alloc (.cells (byv (List.replicate 1024 0)).toArray 5)) := make_zeros 1024 (by omega)
  obtain ⟨wA, hwA⟩ : ∃ wA, wA = w.alloc (.cells (byv (List.replicate 1024 0)).toArray 5) := ⟨_, rfl⟩
  have hxA : Ext w wA := by rw [hwA]; exact (Upd.refl _ w).alloc _
  have hbA : Bts wA (.slice (some ⟨w.heap.size, 0, none⟩) 1024 1024) (List.replicate 1024 0) := by
    have hh : wA.heap[w.heap.size]? = some (.cells (byv (List.replicate 1024 0)).toArray 5 (0, 0)) := by rw [hwA]; exact heap_alloc_new w _
    exact ⟨some ⟨w.heap.size, 0, none⟩, 1024, by simp only [byv_length, List.length_replicate], by simp only [byv_length, List.length_replicate]; omega, by unfold maxLen; omega, fun e => by simp at e, .inr ⟨w.heap.size, 0, _, (0, 0), rfl, hh, fun j x hx => by rw [Nat.zero_add]; simpa only [List.getElem?_toArray] using hx⟩⟩
  have hxB : Ext wA (wA.alloc (.cells #[.int .i64 n, .slice (some ⟨w.heap.size, 0, none⟩) 1024 1024, .bool true] 206)) := (Upd.refl _ wA).alloc _
  have hPA := (h.upd hxA (fun _ _ f => f) (fun _ _ _ f => f.elim)).upd hxB (fun _ _ f => f) (fun _ _ _ f => f.elim)
  have HP := Lib.hid (put_frame hPA hN (heap_alloc_new wA _) (fun e => by have := h.lt e; have := hxA.size; omega) (hbA.ext hxB) List.length_replicate (by omega) (by omega) (fun e => by simp at e))
  have HX := Lib.hid (And.intro hxA hxB)
  have hszA : wA.heap.size = w.heap.size + 1 := by rw [hwA]; simp
  rw [hszA] at HP
  have HWA := Lib.hid hwA
  have HH := Lib.hid h
  have HN0 := Lib.hid hn0
  have HSA := Lib.hid hszA
  have hlenm : σ.length ≤ 1000000 := by omega
  clear h hn hxA hbA hxB hPA hisv hwA hn0 hg hi1 hi2 hszA
  go_enter Tryz.func80, Tryz.ntmps80
  rw [HWA.out] at HP
  go_wp2_with (first
    | (go_at_call 95; refine HL.out.mono ?_; rintro e w ⟨rfl, rfl⟩)
    | (go_at_call 113; refine HIX.out.mono ?_; rintro e w ⟨rfl, rfl⟩)
    | (go_at_call 114
       refine HP.out.mono ?_
       rintro e w2 ⟨rfl, F2, S2, FD2, fr2, usv2, us2, h2, -, -, hF2, hU2⟩
       have c32 := h2.pl.row.cells.2.2.2.1
       have cg2 : w2.cell? ⟨g, n, none⟩ = some (.int .i64 σ[n]) := by
         have := h2.is
         unfold Own at this
         rw [intv_length] at this
         rw [this.cellAt n (by omega)]; exact intv_get σ n hnl
       have fg2 : w2.frozen? ⟨g, n, none⟩ = false := by
         have := h2.is
         unfold Own at this
         rw [intv_length] at this
         exact this.frozenAt n
       have H2 := Lib.hid (And.intro h2 (And.intro hF2 hU2))
       clear h2 hF2 hU2)
    | fail)
  go_ret2
  obtain ⟨h2, hF2, hU2⟩ := H2.out
  obtain ⟨hxA, hxB⟩ := HX.out
  have hUB : Upd F w w2 := by
    have hx := hxA.trans hxB (fun _ f => f.elim)
    rw [HWA.out] at hx
    exact (hx.ext).trans hU2 (fun i e => .inl e)
  obtain ⟨h3, hU3⟩ := h2.setIs rfl n 2 (V' := usedP (σ.set n 2)) (fun k hk => by
    unfold usedP at hk
    rw [stOf_set hnl] at hk
    by_cases e : k = n
    · exact .inr e
    · rw [if_neg e] at hk; exact .inl hk)
  refine ⟨rfl, F2, ⟨S2, d, FD2, _, mf, fr2, usv2, us2, h3⟩, fun i hi => ?_, hUB.trans hU3 (fun i e => .inl ((HH.out.foot i).2 (.inr (.inr (.inl e)))))⟩
  rcases hF2 i hi with e | e | e
  · exact .inl e
  · exact .inr (by omega)
  · have h4 := hxB.size
    have h5 := hxA.size
    rw [HWA.out] at h4 h5
    exact .inr (by omega)
set_option maxRecDepth 100000 in
set_option maxHeartbeats 1000000 in
theorem put_pgs (h : Pgs w F p nf pool dn σ C N) (hN : N + 4 ≤ 1000000000) (k : Int) (hk : stOf σ k = 2) (bv : Value) (B : Bytes) (hb : Bts w bv B) (hB : B.length = 1024) :
    Calls Tryz.prog 81 #[.pointer (some ⟨p, 0, none⟩), .int .i64 k, bv] w fun e w' => e = .returned (.int .i64 0) ∧ ∃ F', Pgs w' F' p nf pool dn σ (fun j => if j = k then B else C j) (N + 4) ∧ (∀ i, F' i → F i ∨ w.heap.size ≤ i) ∧ Upd F w w' := by
  obtain ⟨S, d, FD, isv, mf, fr, usv, us, h⟩ := h
  obtain ⟨hk0, hkc⟩ := stOf_range (σ := σ) (k := k) (by omega)
  obtain ⟨ba, bc, rfl, -⟩ := hb.open
  have HL := Lib.hid (lost_any h.pl.row)
  have HO := Lib.hid (of_any h.pl.row σ h.is k)
  rw [hk] at HO
  have HC := Lib.hid (cloneb_any _ B w hb (by omega))
  rw [hB] at HC ⊢
  have HH := Lib.hid h
  have HB := Lib.hid hB
  have HK := Lib.hid hk
  clear h hb hB hk
  go_enter Tryz.func81, Tryz.ntmps81
  go_wp2_with (first
    | (go_at_call 95; refine HL.out.mono ?_; rintro e w ⟨rfl, rfl⟩)
    | (go_at_call 96; refine HO.out.mono ?_; rintro e w ⟨rfl, rfl⟩)
    | fail)
  refine HC.out.mono ?_
  rintro e w1 ⟨v1, rfl, ho, hn, hU1⟩
  obtain ⟨va, vc, he, -⟩ := own_slice ho
  rw [byv_length, HB.out] at he
  subst he
  have hb1 : Bts w1 (.slice va 1024 vc) B := own_rd ho
  have hxB : Ext w1 (w1.alloc (.cells #[.int .i64 k, .slice va 1024 vc, .bool true] 206)) := (Upd.refl _ w1).alloc _
  have h1 := HH.out.upd hU1 (fun _ _ f => f) (fun _ _ _ f => f.elim)
  have hPA := h1.upd hxB (fun _ _ f => f) (fun _ _ _ f => f.elim)
  have HP := Lib.hid (put_frame hPA hN (heap_alloc_new w1 _) (fun e => by have := h1.lt e; omega) (hb1.ext hxB) HB.out hk0 hkc (fun e => by simp at e))
  have HX := Lib.hid (And.intro hU1 hxB)
  clear ho hn hU1 hb1 hxB h1 hPA
  go_wp2_with (first
    | (go_at_call 114
       refine HP.out.mono ?_
       rintro e w2 ⟨rfl, F2, S2, FD2, fr2, usv2, us2, h2, -, -, hF2, hU2⟩
       have H2 := Lib.hid (And.intro h2 (And.intro hF2 hU2))
       clear h2 hF2 hU2)
    | fail)
  go_ret
  obtain ⟨h2, hF2, hU2⟩ := H2.out
  obtain ⟨hU1, hxB⟩ := HX.out
  have hx := hU1.trans hxB (fun _ f => f.elim)
  refine ⟨rfl, F2, ⟨S2, d, FD2, isv, mf, fr2, usv2, us2, h2.imp (fun j hj => .inl hj)⟩, fun i hi => ?_, (hx.ext).trans hU2 (fun i e => .inl e)⟩
  rcases hF2 i hi with e | e | e
  · exact .inl e
  · exact .inr (by have := hU1.size; omega)
  · exact .inr (by have := hx.size; omega)
set_option maxRecDepth 100000 in
set_option maxHeartbeats 1000000 in
theorem free_pgs (h : Pgs w F p nf pool dn σ C N) (n : Nat) (hk : stOf σ n = 2) :
    Calls Tryz.prog 67 #[.pointer (some ⟨p, 0, none⟩), .int .i64 n] w fun e w' => e = .returned (.int .i64 0) ∧ ∃ F', Pgs w' F' p nf pool dn (σ.set n 0) C N ∧ (∀ i, F' i → F i) ∧ Upd F w w' := by
  obtain ⟨S, d, FD, isv, mf, fr, usv, us, h⟩ := h
  obtain ⟨hk0, hkc⟩ := stOf_range (σ := σ) (k := n) (by omega)
  have hnl : n < σ.length := by omega
  have hsl := h.len
  have hisv := h.is
  obtain ⟨g, cap, cur, rfl, hg, hi1, hi2, -, -⟩ := own_open hisv (by simp; omega)
  rw [intv_length] at h hi1 hisv
  have c3 := h.pl.row.cells.2.2.2.1
  have hisn := h.is
  unfold Own at hisn
  rw [intv_length] at hisn
  have cg : w.cell? ⟨g, n, none⟩ = some (.int .i64 σ[n]) := by rw [hisn.cellAt n (by omega)]; exact intv_get σ n hnl
  have fg : w.frozen? ⟨g, n, none⟩ = false := hisn.frozenAt n
  have HL := Lib.hid (lost_any h.pl.row)
  have HO := Lib.hid (of_any h.pl.row σ h.is n)
  rw [hk] at HO
  obtain ⟨h3, hU3⟩ := h.setIs rfl n 0 (V' := usedP (σ.set n 0)) (fun k hk => by
    unfold usedP at hk
    rw [stOf_set hnl] at hk
    by_cases e : k = n
    · rw [if_pos e] at hk; omega
    · rw [if_neg e] at hk; exact hk)
  have HD := Lib.hid (drop_pgs h3 n)
  have HH := Lib.hid h
  have H3 := Lib.hid (And.intro h3 hU3)
  clear h hisn hg hi1 hi2 hisv hk h3 hU3
  go_enter Tryz.func67, Tryz.ntmps67
  go_wp2_with (first
    | (go_at_call 95; refine HL.out.mono ?_; rintro e w ⟨rfl, rfl⟩)
    | (go_at_call 96; refine HO.out.mono ?_; rintro e w ⟨rfl, rfl⟩)
    | (go_at_call 97
       refine HD.out.mono ?_
       rintro e w2 ⟨rfl, F2, usv2, us2, h2, -, hF2, -, hU2⟩)
    | fail)
  go_ret
  have hU2F := hU2.mono (G := F) (fun i _ e => (H3.out.1.foot i).2 (by rcases e with e | e | e <;> simp [e]))
  refine ⟨rfl, F2, ⟨S, d, FD, _, mf, _, usv2, us2, h2.imp (fun j hj => ⟨hj, .inl (fun e => ?_)⟩)⟩, hF2, (H3.out.2.mono (fun i _ e => (HH.out.foot i).2 (.inr (.inr (.inl e))))).trans hU2F (fun i e => .inl e)⟩
  subst e
  unfold usedP at hj
  rw [stOf_set hnl, if_pos rfl] at hj
  omega
theorem fresh_pgs (h : Pgs w F p nf pool dn σ C N) (n : Int) :
    Calls Tryz.prog 79 #[.pointer (some ⟨p, 0, none⟩), .int .i64 n] w fun e w' => e = .returned (.bool (stOf σ n == 2)) ∧ w' = w := by
  obtain ⟨S, d, FD, isv, mf, fr, usv, us, h⟩ := h
  exact fresh_any h.pl.row σ h.is n _ rfl
end Go.Proofs.YtecfhfddgolpfaaGreat
