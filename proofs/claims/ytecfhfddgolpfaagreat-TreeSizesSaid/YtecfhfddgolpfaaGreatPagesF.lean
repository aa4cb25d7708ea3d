/- Pages: put. -/
import Derived.Test.YtecfhfddgolpfaaGreatPagesE
namespace Go.Proofs.YtecfhfddgolpfaaGreat
open Go.RowKit
variable {w w' : World} {F G FD : Nat → Prop} {p d nf pool dn mf N : Nat} {isv usv : Value} {fr : Int → Option Value} {us σ : List Int} {V : Int → Prop} {C S : Int → Bytes}

set_option maxRecDepth 100000 in
set_option maxHeartbeats 1000000 in
theorem put_frame (h : PgsAt w F p nf pool dn σ V C S N d FD isv mf fr usv us) (hN : N + 4 ≤ 1000000000) {n : Int} {fb : Nat} {bv : Value} {dirty : Bool} {B : Bytes} (hfb : w.heap[fb]? = some (.cells #[.int .i64 n, bv, .bool dirty] 206 (0, 0))) (hff : ¬ F fb) (hb : Bts w bv B) (hB : B.length = 1024)
    (hn0 : 0 ≤ n) (hn : n < σ.length) (hc : dirty = false → B = sec4 S nf n) :
    Calls Tryz.prog 114 #[.pointer (some ⟨p, 0, none⟩), .pointer (some ⟨fb, 0, none⟩)] w fun e w' => e = .returned (.bool true) ∧ ∃ F' S' FD' fr' usv' us', PgsAt w' F' p nf pool dn σ (fun k => V k ∨ k = n) (fun k => if k = n then B else C k) S' (N + 4) d FD' isv mf fr' usv' us' ∧
      fr' n = some (.pointer (some ⟨fb, 0, none⟩)) ∧ w'.heap[fb]? = some (.cells #[.int .i64 n, bv, .bool dirty] 206 (0, 0)) ∧ (∀ i, F' i → F i ∨ i = fb ∨ w.heap.size ≤ i) ∧ Upd F w w' := by
  have HD := Lib.hid (drop_pgs h n)
  have q0 : w.cell? ⟨fb, 0, none⟩ = some (.int .i64 n) := by rw [cell_heap hfb]; rfl
  have HH := Lib.hid h
  have HFB := Lib.hid hfb
  have HFF := Lib.hid hff
  have HB := Lib.hid hb
  have HBL := Lib.hid hB
  have HC := Lib.hid hc
  clear h hfb hff hb hB hc
  go_enter Tryz.func114, Tryz.ntmps114
  go_wp2_with (go_at_call 97; refine HD.out.mono ?_; rintro e w1 ⟨rfl, F1, usv1, us1, h1, -, hF1, -, hU1⟩)
  have hU1F : Upd F w w1 := hU1.mono (fun i _ e => (HH.out.foot i).2 (by rcases e with e | e | e <;> simp [e]))
  have hfb1 := hU1F.heap HFB.out HFF.out
  have hff1 : ¬ F1 fb := fun e => HFF.out (hF1 _ e)
  have hb1 := HB.out.upd hU1F HH.out.notByte
  obtain ⟨fr1, hfr1⟩ : ∃ f : Int → Option Value, f = fun j => if j = n then none else fr j := ⟨_, rfl⟩
  rw [← hfr1] at h1
  have hn1 : fr1 n = none := by rw [hfr1]; simp
  have h1' := h1.imp (V' := fun k => V k ∧ k ≠ n) (fun k a => ⟨a.1, .inl a.2⟩)
  have c2 := h1.pl.row.cells.2.2.1
  have c4 := h1.pl.row.cells.2.2.2.2.1
  have c5 := h1.pl.row.cells.2.2.2.2.2.1
  have hlen : ∀ q, (Builtin.len_ #[121] 3 #[.map (some mf)]).run Tryz.prog (w1.drewN q) = .ok (.int .i64 us1.length) (w1.drewN q) := fun q =>
    (h1.pl.frm.upd (Upd.ofDrewN w1 q) (fun f => f)).run_len (kt := 3) (et := 204) (by kernel_rfl) _
  have H1 := Lib.hid h1'
  have HU1 := Lib.hid hU1F
  have HFB1 := Lib.hid hfb1
  have HFF1 := Lib.hid hff1
  have HB1 := Lib.hid hb1
  have HN1 := Lib.hid hn1
  have HF1 := Lib.hid hF1
  clear h1 h1' hU1F hfb1 hff1 hb1 hfr1 hn1 hF1 hU1 q0
  by_cases hup : us1.length < pool
  · have hge : ¬ ((us1.length : Int) ≥ (pool : Int)) := by omega
    go_wp2_with fail
    go_quiet (fail)
    go_wp2_with fail
    have hx : Ext w1 (w1.drewN nq) := Upd.ofDrewN w1 nq
    have key : ∃ F2 S2 FD2 N2 fr2 usv2 us2, PgsAt (w1.drewN nq) F2 p nf pool dn σ (fun k => V k ∧ k ≠ n) C S2 N2 d FD2 isv mf fr2 usv2 us2 ∧ N2 ≤ N + 4 ∧ (w1.drewN nq).heap[fb]? = some (.cells #[.int .i64 n, bv, .bool dirty] 206 (0, 0)) ∧ ¬ F2 fb ∧ Bts (w1.drewN nq) bv B ∧ Upd F w (w1.drewN nq) ∧ (∀ i, F2 i → F i ∨ w.heap.size ≤ i) ∧ fr2 n = none ∧ (dirty = false → B = sec4 S2 nf n) ∧ us2.length < pool :=
      ⟨F1, S, FD, N, fr1, usv1, us1, H1.out.upd hx (fun _ _ f => f) (fun _ _ _ f => f.elim), by omega, hx.heap HFB1.out (fun f => f), HFF1.out, HB1.out.ext hx, HU1.out.andExt hx, fun i hi => .inl (HF1.out i hi), HN1.out, HC.out, hup⟩
    clear hlen c2 c4 c5 hge hup
    clear H1 HFB1 HB1 HU1 HFF1 HF1 HN1 HC HD HH HFB HFF HB hx
    generalize w1.drewN nq = W at *
    obtain ⟨F2, S2, FD2, N2, fr2, usv2, us2, h2, hN2, hfb2, hff2, hb2, hU2, hF2, hnn, hc2, hup⟩ := key
    have q0 : W.cell? ⟨fb, 0, none⟩ = some (.int .i64 n) := by rw [cell_heap hfb2]; rfl
    have c4 := h2.pl.row.cells.2.2.2.2.1
    have hx2 : Ext W W.drew := (Upd.refl _ W).drew
    have H3 := Lib.hid (h2.upd hx2 (fun _ _ f => f) (fun _ _ _ f => f.elim))
    have HFB3 := Lib.hid (hx2.heap hfb2 (fun f => f))
    have HB3 := Lib.hid (hb2.ext hx2)
    have HU3 := Lib.hid (hU2.andExt hx2)
    have HFF3 := Lib.hid hff2
    have HF3 := Lib.hid hF2
    have HNN := Lib.hid hnn
    have HC3 := Lib.hid hc2
    clear h2 hfb2 hb2 hU2 hff2 hF2 hnn hc2 hx2
    go_still_tail 9, (by kernel_rfl)
    change wpList _ _ _ _ _ W.drew
    clear c4 q0
    generalize W.drew = W2 at *
    go_wp2_with (first | (at_mapUpdate; refine wpList_updNone rfl _ _ _ 121 3 204 rfl (by kernel_rfl) (by kernel_rfl) mf us2.length fr2 H3.out.pl.frm rfl n rfl _ rfl HNN.out ?_; intro w3 hm3 hU3) | fail)
    have hp3 := H3.out.pne
    have hrow3 : PgRow w3 p d nf pool isv mf usv2 := hU3.heap H3.out.pl.row hp3.2.2.1
    have c5 := hrow3.cells.2.2.2.2.2.1
    have hfb3 := hU3.heap HFB3.out (fun e => (H3.out.fne HFB3.out).2.2.2.1 e)
    have q0 : w3.cell? ⟨fb, 0, none⟩ = some (.int .i64 n) := by rw [cell_heap hfb3]; rfl
    have hus3 := own_ext H3.out.pl.used hU3 (fun k hk => (hp3.2.2.2.2.2 k hk).2)
    have f5 : w3.frozen? ⟨p, 5, none⟩ = false := frozen_heap hrow3
    have hvb : (w3.drew.alloc (.cells #[.int .i64 n] 3)).heap[w3.heap.size]? = some (.cells #[.int .i64 n] 3 (0, 0)) := heap_alloc_new w3.drew _
    have hxa : Ext w3 (w3.drew.alloc (.cells #[.int .i64 n] 3)) := ((Upd.refl _ w3).drew).alloc _
    have hins := insI_any usv2 (intv us2) 0 w3.heap.size (.int .i64 n) _ (own_ext hus3 hxa (fun _ _ f => f)) (by omega) (by have := H3.out.pl.len; simp; omega) hvb (fun e => by
      have := (H3.out.pl.used.lt w3.heap.size e).2
      have := hU3.size; omega) (intv_one _) rfl
    have c5a : (w3.alloc (.cells #[.int .i64 n] 3)).cell? ⟨p, 5, none⟩ = some usv2 := ((Upd.refl (fun _ => False) w3).alloc _).cell c5 (fun f => f)
    have q0a : (w3.alloc (.cells #[.int .i64 n] 3)).cell? ⟨fb, 0, none⟩ = some (.int .i64 n) := ((Upd.refl (fun _ => False) w3).alloc _).cell q0 (fun f => f)
    have HXA := Lib.hid hxa
    have HINS := Lib.hid hins
    have HM3 := Lib.hid hm3
    have HU4 := Lib.hid hU3
    have HUS3 := Lib.hid hus3
    have HROW3 := Lib.hid hrow3
    clear hp3 hrow3 hfb3 hus3 hm3 hU3 hvb hxa hins
    go_region_law (
      (go_simp
       go_at_call 77
       refine HINS.out.mono ?_
       rintro e w5 ⟨usv', rfl, ho, hnw, hU5⟩
       obtain ⟨ua, um, uc, rfl⟩ : ∃ ua um uc, usv' = .slice ua um uc := by
         obtain ⟨ua, uc, e, -⟩ := own_slice ho
         exact ⟨ua, _, uc, e⟩
       have hr5 : PgRow w5 p d nf pool isv mf usv2 := (hU5.heap (HXA.out.heap HROW3.out (fun f => f)) (fun e => H3.out.pne.2.2.2.1 e))
       have c55 := hr5.cells.2.2.2.2.2.1
       have f55 : w5.frozen? ⟨p, 5, none⟩ = false := frozen_heap hr5
       have HR5 := Lib.hid hr5
       have HO5 := Lib.hid ho
       have HNW5 := Lib.hid hnw
       have HU5 := Lib.hid hU5
       clear hr5 ho hnw hU5
       dsimp only))
    all_goals
      go_wp2_with fail
      go_ret
      have hnw' : Nw w3 usv2 (.slice ua um uc) := fun k hk => (HNW5.out k hk).imp id (fun e => by have := HXA.out.size; omega)
      have hU5' : Upd (fun k => usv2.ownBlock = some k) w3 w5 := (HXA.out.ext).trans HU5.out (fun i e => .inl e)
      obtain ⟨F', g1, g2, g3, g4⟩ := put_fin H3.out HFB3.out HFF3.out HB3.out HBL.out hn0 hn HC3.out HNN.out hup HM3.out HU4.out HO5.out hnw' hU5'
      refine ⟨rfl, F', S2, FD2, _, _, _, (g1.mono (by omega)).imp (fun k hk => ?_), by simp, g2, fun i hi => ?_, HU3.out.trans g4 (fun i e => HF3.out i e)⟩
      · by_cases e : k = n
        · exact .inr e
        · exact .inl ⟨hk.resolve_right e, e⟩
      · rcases g3 i hi with e | e | e
        · exact (HF3.out i e).imp id .inr
        · exact .inr (.inl e)
        · exact .inr (.inr (by have := HU3.out.size; omega))
  · have hge : ((us1.length : Int) ≥ (pool : Int)) := by omega
    have hpos : 1 ≤ us1.length := by have := H1.out.p0; omega
    have hupE : us1.length = pool := by have := H1.out.up; omega
    obtain ⟨la, hla⟩ : ∃ la, us1[us1.length - 1]? = some la := ⟨_, List.getElem?_eq_getElem (by omega)⟩
    have hlam : la ∈ us1 := List.mem_of_getElem? hla
    obtain ⟨lv, hlv⟩ := Option.isSome_iff_exists.1 ((H1.out.pl.usd la).2 hlam)
    have hlan : la ≠ n := fun e => by rw [e, HN1.out] at hlv; simp at hlv
    obtain ⟨lb, lbv, ld, rfl, hlb, -, -, hlc, hl0, hlcnt⟩ := H1.out.frs la lv hlv
    have hown1 := H1.out.pl.used
    obtain ⟨ug, ucap, ucur, rfl, hug, hu1, hu2, hu3, hu4⟩ := own_open hown1 (by simp; omega)
    have cl : w1.cell? ⟨ug, us1.length - 1, none⟩ = some (.int .i64 la) := row_cell hug hu4 (by rw [intv, List.getElem?_map, hla]; rfl)
    simp only [intv_length] at c5 H1 hown1 hu1
    have l0 : w1.cell? ⟨lb, 0, none⟩ = some (.int .i64 la) := by rw [cell_heap hlb]; rfl
    have l2 : w1.cell? ⟨lb, 2, none⟩ = some (.bool ld) := by rw [cell_heap hlb]; rfl
    have hlook : ∀ q, (Instr.lookup 121 (.map (some mf)) (.int .i64 la) false).run Tryz.prog (w1.drewN q) = .ok (.pointer (some ⟨lb, 0, none⟩)) (w1.drewN q) := fun q => by
      have := (H1.out.pl.frm.upd (Upd.ofDrewN w1 q) (fun f => f)).run_look (t := 121) (kt := 3) (et := 204) (by kernel_rfl) (by kernel_rfl) _ (zero_frame _) la false
      rw [hlv] at this
      exact this
    have z1 : IntKind.i64.wrap ((us1.length : Int) - 1) = (us1.length : Int) - 1 := IntWalk.i64_in _ (by have := H1.out.pl.len; omega)
    have z2 : 0 ≤ (us1.length : Int) - 1 := by omega
    have z3 : ((us1.length : Int) - 1).toNat = us1.length - 1 := by omega
    have z4 : (us1.length : Int) - 1 < (us1.length : Int) := by omega
    have z5 : us1.length - 1 < us1.length := by omega
    have HLV := Lib.hid hlv
    have HLB := Lib.hid hlb
    have HLC := Lib.hid hlc
    have HLAN := Lib.hid hlan
    have HUPE := Lib.hid hupE
    clear hown1 hug hu2 hu3 hu4 hlv hlb hlc hlan hlam hla hl0 hlcnt hup hupE
    go_wp2_with fail
    go_quiet (fail)
    revert nq
    intro nq1
    go_wp2_with fail
    go_quiet (fail)
    have hx : Ext w1 ((w1.drewN nq1).drewN nq) := (Upd.ofDrewN w1 nq1).drewN nq
    have hPW := H1.out.upd hx (fun _ _ f => f) (fun _ _ _ f => f.elim)
    have l0' := hx.cell l0 (fun f => f)
    have l2' := hx.cell l2 (fun f => f)
    have HPW := Lib.hid hPW
    have HX := Lib.hid hx
    have hlbW := hx.heap HLB.out (fun f => f)
    have HLBW := Lib.hid hlbW
    have HL0 := Lib.hid l0'
    clear hPW hx hlbW l0 l2 hlook z1 z2 z3 z4 z5 c2 c4 c5 cl hlen hge l0'
    generalize (w1.drewN nq1).drewN nq = W at *
    cases ld with
    | false =>
      have l0 := HL0.out
      have HDL := Lib.hid (drop_pgs HPW.out la)
      go_wp2_with (go_at_call 97; refine HDL.out.mono ?_; rintro e w4 ⟨rfl, F4, usv4, us4, h4, hs4, hF4, -, hU4⟩)
      have hUF4 := hU4.mono (G := F1) (fun i _ e => (HPW.out.foot i).2 (by rcases e with e | e | e <;> simp [e]))
      have hfbW := HX.out.heap HFB1.out (fun f => f)
      have key : ∃ F2 S2 FD2 N2 fr2 usv2 us2, PgsAt w4 F2 p nf pool dn σ (fun k => V k ∧ k ≠ n) C S2 N2 d FD2 isv mf fr2 usv2 us2 ∧ N2 ≤ N + 4 ∧ w4.heap[fb]? = some (.cells #[.int .i64 n, bv, .bool dirty] 206 (0, 0)) ∧ ¬ F2 fb ∧ Bts w4 bv B ∧ Upd F w w4 ∧ (∀ i, F2 i → F i ∨ w.heap.size ≤ i) ∧ fr2 n = none ∧ (dirty = false → B = sec4 S2 nf n) ∧ us2.length < pool := by
        refine ⟨F4, S, FD, N, (fun j => if j = la then none else fr1 j), usv4, us4, h4.imp (fun k hk => ⟨hk, ?_⟩), by omega, hUF4.heap hfbW HFF1.out, fun e => HFF1.out (hF4 _ e), (HB1.out.ext HX.out).upd hUF4 HPW.out.notByte, (HU1.out.andExt HX.out).trans hUF4 (fun i e => .inl (HF1.out i e)), fun i hi => .inl (HF1.out i (hF4 i hi)), ?_, HC.out, ?_⟩
        · exact .inr (HLC.out trivial)
        · simp only []; split
          · rfl
          · exact HN1.out
        · have := hs4 (by rw [HLV.out]; rfl); have := HUPE.out; omega
      clear h4 hs4 hF4 hU4 hUF4 hfbW l0 l2'
      clear H1 HFB1 HB1 HU1 HFF1 HF1 HN1 HC HD HH HFB HFF HB HPW HX HLBW HL0 HDL HLV HLB HLC HLAN HUPE
      obtain ⟨F2, S2, FD2, N2, fr2, usv2, us2, h2, hN2, hfb2, hff2, hb2, hU2, hF2, hnn, hc2, hup⟩ := key
      have q0 : w4.cell? ⟨fb, 0, none⟩ = some (.int .i64 n) := by rw [cell_heap hfb2]; rfl
      have c4 := h2.pl.row.cells.2.2.2.2.1
      have hx2 : Ext w4 w4.drew := (Upd.refl _ w4).drew
      have H3 := Lib.hid (h2.upd hx2 (fun _ _ f => f) (fun _ _ _ f => f.elim))
      have HFB3 := Lib.hid (hx2.heap hfb2 (fun f => f))
      have HB3 := Lib.hid (hb2.ext hx2)
      have HU3 := Lib.hid (hU2.andExt hx2)
      have HFF3 := Lib.hid hff2
      have HF3 := Lib.hid hF2
      have HNN := Lib.hid hnn
      have HC3 := Lib.hid hc2
      clear h2 hfb2 hb2 hU2 hff2 hF2 hnn hc2 hx2
      go_still_tail 9, (by kernel_rfl)
      change wpList _ _ _ _ _ w4.drew
      clear c4 q0
      generalize w4.drew = W2 at *
      go_wp2_with (first | (at_mapUpdate; refine wpList_updNone rfl _ _ _ 121 3 204 rfl (by kernel_rfl) (by kernel_rfl) mf us2.length fr2 H3.out.pl.frm rfl n rfl _ rfl HNN.out ?_; intro w3 hm3 hU3) | fail)
      have hp3 := H3.out.pne
      have hrow3 : PgRow w3 p d nf pool isv mf usv2 := hU3.heap H3.out.pl.row hp3.2.2.1
      have c5 := hrow3.cells.2.2.2.2.2.1
      have hfb3 := hU3.heap HFB3.out (fun e => (H3.out.fne HFB3.out).2.2.2.1 e)
      have q0 : w3.cell? ⟨fb, 0, none⟩ = some (.int .i64 n) := by rw [cell_heap hfb3]; rfl
      have hus3 := own_ext H3.out.pl.used hU3 (fun k hk => (hp3.2.2.2.2.2 k hk).2)
      have f5 : w3.frozen? ⟨p, 5, none⟩ = false := frozen_heap hrow3
      have hvb : (w3.drew.alloc (.cells #[.int .i64 n] 3)).heap[w3.heap.size]? = some (.cells #[.int .i64 n] 3 (0, 0)) := heap_alloc_new w3.drew _
      have hxa : Ext w3 (w3.drew.alloc (.cells #[.int .i64 n] 3)) := ((Upd.refl _ w3).drew).alloc _
      have hins := insI_any usv2 (intv us2) 0 w3.heap.size (.int .i64 n) _ (own_ext hus3 hxa (fun _ _ f => f)) (by omega) (by have := H3.out.pl.len; simp; omega) hvb (fun e => by
        have := (H3.out.pl.used.lt w3.heap.size e).2
        have := hU3.size; omega) (intv_one _) rfl
      have c5a : (w3.alloc (.cells #[.int .i64 n] 3)).cell? ⟨p, 5, none⟩ = some usv2 := ((Upd.refl (fun _ => False) w3).alloc _).cell c5 (fun f => f)
      have q0a : (w3.alloc (.cells #[.int .i64 n] 3)).cell? ⟨fb, 0, none⟩ = some (.int .i64 n) := ((Upd.refl (fun _ => False) w3).alloc _).cell q0 (fun f => f)
      have HXA := Lib.hid hxa
      have HINS := Lib.hid hins
      have HM3 := Lib.hid hm3
      have HU4 := Lib.hid hU3
      have HUS3 := Lib.hid hus3
      have HROW3 := Lib.hid hrow3
      clear hp3 hrow3 hfb3 hus3 hm3 hU3 hvb hxa hins
      go_region_law (
        (go_simp
         go_at_call 77
         refine HINS.out.mono ?_
         rintro e w5 ⟨usv', rfl, ho, hnw, hU5⟩
         obtain ⟨ua, um, uc, rfl⟩ : ∃ ua um uc, usv' = .slice ua um uc := by
           obtain ⟨ua, uc, e, -⟩ := own_slice ho
           exact ⟨ua, _, uc, e⟩
         have hr5 : PgRow w5 p d nf pool isv mf usv2 := (hU5.heap (HXA.out.heap HROW3.out (fun f => f)) (fun e => H3.out.pne.2.2.2.1 e))
         have c55 := hr5.cells.2.2.2.2.2.1
         have f55 : w5.frozen? ⟨p, 5, none⟩ = false := frozen_heap hr5
         have HR5 := Lib.hid hr5
         have HO5 := Lib.hid ho
         have HNW5 := Lib.hid hnw
         have HU5 := Lib.hid hU5
         clear hr5 ho hnw hU5
         dsimp only))
      all_goals
        go_wp2_with fail
        go_ret
        have hnw' : Nw w3 usv2 (.slice ua um uc) := fun k hk => (HNW5.out k hk).imp id (fun e => by have := HXA.out.size; omega)
        have hU5' : Upd (fun k => usv2.ownBlock = some k) w3 w5 := (HXA.out.ext).trans HU5.out (fun i e => .inl e)
        obtain ⟨F', g1, g2, g3, g4⟩ := put_fin H3.out HFB3.out HFF3.out HB3.out HBL.out hn0 hn HC3.out HNN.out hup HM3.out HU4.out HO5.out hnw' hU5'
        refine ⟨rfl, F', S2, FD2, _, _, _, (g1.mono (by omega)).imp (fun k hk => ?_), by simp, g2, fun i hi => ?_, HU3.out.trans g4 (fun i e => HF3.out i e)⟩
        · by_cases e : k = n
          · exact .inr e
          · exact .inl ⟨hk.resolve_right e, e⟩
        · rcases g3 i hi with e | e | e
          · exact (HF3.out i e).imp id .inr
          · exact .inr (.inl e)
          · exact .inr (.inr (by have := HU3.out.size; omega))
    | true =>
      have HWR := Lib.hid (write_frame HPW.out hN la lb HLV.out)
      go_wp2_with (first
        | (go_at_call 131
           refine HWR.out.mono ?_
           rintro e wv ⟨rfl, F5, FD5, S5, h5, hs5, ho5, ⟨bv5, hb5⟩, hF5, hU5⟩
           have l0 : wv.cell? ⟨lb, 0, none⟩ = some (.int .i64 la) := by rw [cell_heap hb5]; rfl
           have HDL := Lib.hid (drop_pgs h5 la)
           have H5 := Lib.hid (And.intro h5 (And.intro hs5 (And.intro ho5 (And.intro hF5 hU5))))
           clear h5 hs5 ho5 hb5 hF5 hU5 l2')
        | (go_at_call 97; refine HDL.out.mono ?_; rintro e w4 ⟨rfl, F4, usv4, us4, h4, hs4, hF4, -, hU4⟩))
      obtain ⟨h5, hs5, ho5, hF5, hU5⟩ := H5.out
      have hUF4 := hU4.mono (G := F5) (fun i _ e => (h5.foot i).2 (by rcases e with e | e | e <;> simp [e]))
      have hfbW := HX.out.heap HFB1.out (fun f => f)
      have hfblt := heap_lt HFB1.out
      have hff5 : ¬ F5 fb := fun e => (hF5 fb e).elim HFF1.out (fun e => by have := HX.out.size; omega)
      have hszW : w.heap.size ≤ W.heap.size := Nat.le_trans HU1.out.size HX.out.size
      have hF5w : ∀ i, F5 i → F i ∨ w.heap.size ≤ i := fun i hi => (hF5 i hi).elim (fun e => .inl (HF1.out i e)) (fun e => .inr (by omega))
      have key : ∃ F2 S2 FD2 N2 fr2 usv2 us2, PgsAt w4 F2 p nf pool dn σ (fun k => V k ∧ k ≠ n) C S2 N2 d FD2 isv mf fr2 usv2 us2 ∧ N2 ≤ N + 4 ∧ w4.heap[fb]? = some (.cells #[.int .i64 n, bv, .bool dirty] 206 (0, 0)) ∧ ¬ F2 fb ∧ Bts w4 bv B ∧ Upd F w w4 ∧ (∀ i, F2 i → F i ∨ w.heap.size ≤ i) ∧ fr2 n = none ∧ (dirty = false → B = sec4 S2 nf n) ∧ us2.length < pool := by
        refine ⟨F4, S5, FD5, N + 4, (fun j => if j = la then none else fr1 j), usv4, us4, h4.imp (fun k hk => ⟨hk, ?_⟩), by omega, hUF4.heap (hU5.heap hfbW HFF1.out) hff5, fun e => hff5 (hF4 _ e), ((HB1.out.ext HX.out).upd hU5 HPW.out.notByte).upd hUF4 h5.notByte, ((HU1.out.andExt HX.out).trans hU5 (fun i e => .inl (HF1.out i e))).trans hUF4 (fun i e => hF5w i e), fun i hi => hF5w i (hF4 i hi), ?_, fun e => ?_, ?_⟩
        · exact .inr hs5.symm
        · simp only []; split
          · rfl
          · exact HN1.out
        · rw [ho5 n (fun e => HLAN.out e.symm)]; exact HC.out e
        · have := hs4 (by rw [HLV.out]; rfl); have := HUPE.out; omega
      clear h4 hs4 hF4 hU4 hUF4 hfbW l0 h5 hs5 ho5 hF5 hU5 hfblt hff5 hszW hF5w
      clear H1 HFB1 HB1 HU1 HFF1 HF1 HN1 HC HD HH HFB HFF HB HPW HX HLBW HL0 HDL HLV HLB HLC HLAN HUPE HWR H5
      obtain ⟨F2, S2, FD2, N2, fr2, usv2, us2, h2, hN2, hfb2, hff2, hb2, hU2, hF2, hnn, hc2, hup⟩ := key
      have q0 : w4.cell? ⟨fb, 0, none⟩ = some (.int .i64 n) := by rw [cell_heap hfb2]; rfl
      have c4 := h2.pl.row.cells.2.2.2.2.1
      have hx2 : Ext w4 w4.drew := (Upd.refl _ w4).drew
      have H3 := Lib.hid (h2.upd hx2 (fun _ _ f => f) (fun _ _ _ f => f.elim))
      have HFB3 := Lib.hid (hx2.heap hfb2 (fun f => f))
      have HB3 := Lib.hid (hb2.ext hx2)
      have HU3 := Lib.hid (hU2.andExt hx2)
      have HFF3 := Lib.hid hff2
      have HF3 := Lib.hid hF2
      have HNN := Lib.hid hnn
      have HC3 := Lib.hid hc2
      clear h2 hfb2 hb2 hU2 hff2 hF2 hnn hc2 hx2
      go_still_tail 9, (by kernel_rfl)
      change wpList _ _ _ _ _ w4.drew
      clear c4 q0
      generalize w4.drew = W2 at *
      go_wp2_with (first | (at_mapUpdate; refine wpList_updNone rfl _ _ _ 121 3 204 rfl (by kernel_rfl) (by kernel_rfl) mf us2.length fr2 H3.out.pl.frm rfl n rfl _ rfl HNN.out ?_; intro w3 hm3 hU3) | fail)
      have hp3 := H3.out.pne
      have hrow3 : PgRow w3 p d nf pool isv mf usv2 := hU3.heap H3.out.pl.row hp3.2.2.1
      have c5 := hrow3.cells.2.2.2.2.2.1
      have hfb3 := hU3.heap HFB3.out (fun e => (H3.out.fne HFB3.out).2.2.2.1 e)
      have q0 : w3.cell? ⟨fb, 0, none⟩ = some (.int .i64 n) := by rw [cell_heap hfb3]; rfl
      have hus3 := own_ext H3.out.pl.used hU3 (fun k hk => (hp3.2.2.2.2.2 k hk).2)
      have f5 : w3.frozen? ⟨p, 5, none⟩ = false := frozen_heap hrow3
      have hvb : (w3.drew.alloc (.cells #[.int .i64 n] 3)).heap[w3.heap.size]? = some (.cells #[.int .i64 n] 3 (0, 0)) := heap_alloc_new w3.drew _
      have hxa : Ext w3 (w3.drew.alloc (.cells #[.int .i64 n] 3)) := ((Upd.refl _ w3).drew).alloc _
      have hins := insI_any usv2 (intv us2) 0 w3.heap.size (.int .i64 n) _ (own_ext hus3 hxa (fun _ _ f => f)) (by omega) (by have := H3.out.pl.len; simp; omega) hvb (fun e => by
        have := (H3.out.pl.used.lt w3.heap.size e).2
        have := hU3.size; omega) (intv_one _) rfl
      have c5a : (w3.alloc (.cells #[.int .i64 n] 3)).cell? ⟨p, 5, none⟩ = some usv2 := ((Upd.refl (fun _ => False) w3).alloc _).cell c5 (fun f => f)
      have q0a : (w3.alloc (.cells #[.int .i64 n] 3)).cell? ⟨fb, 0, none⟩ = some (.int .i64 n) := ((Upd.refl (fun _ => False) w3).alloc _).cell q0 (fun f => f)
      have HXA := Lib.hid hxa
      have HINS := Lib.hid hins
      have HM3 := Lib.hid hm3
      have HU4 := Lib.hid hU3
      have HUS3 := Lib.hid hus3
      have HROW3 := Lib.hid hrow3
      clear hp3 hrow3 hfb3 hus3 hm3 hU3 hvb hxa hins
      go_region_law (
        (go_simp
         go_at_call 77
         refine HINS.out.mono ?_
         rintro e w5 ⟨usv', rfl, ho, hnw, hU5⟩
         obtain ⟨ua, um, uc, rfl⟩ : ∃ ua um uc, usv' = .slice ua um uc := by
           obtain ⟨ua, uc, e, -⟩ := own_slice ho
           exact ⟨ua, _, uc, e⟩
         have hr5 : PgRow w5 p d nf pool isv mf usv2 := (hU5.heap (HXA.out.heap HROW3.out (fun f => f)) (fun e => H3.out.pne.2.2.2.1 e))
         have c55 := hr5.cells.2.2.2.2.2.1
         have f55 : w5.frozen? ⟨p, 5, none⟩ = false := frozen_heap hr5
         have HR5 := Lib.hid hr5
         have HO5 := Lib.hid ho
         have HNW5 := Lib.hid hnw
         have HU5 := Lib.hid hU5
         clear hr5 ho hnw hU5
         dsimp only))
      all_goals
        go_wp2_with fail
        go_ret
        have hnw' : Nw w3 usv2 (.slice ua um uc) := fun k hk => (HNW5.out k hk).imp id (fun e => by have := HXA.out.size; omega)
        have hU5' : Upd (fun k => usv2.ownBlock = some k) w3 w5 := (HXA.out.ext).trans HU5.out (fun i e => .inl e)
        obtain ⟨F', g1, g2, g3, g4⟩ := put_fin H3.out HFB3.out HFF3.out HB3.out HBL.out hn0 hn HC3.out HNN.out hup HM3.out HU4.out HO5.out hnw' hU5'
        refine ⟨rfl, F', S2, FD2, _, _, _, (g1.mono (by omega)).imp (fun k hk => ?_), by simp, g2, fun i hi => ?_, HU3.out.trans g4 (fun i e => HF3.out i e)⟩
        · by_cases e : k = n
          · exact .inr e
          · exact .inl ⟨hk.resolve_right e, e⟩
        · rcases g3 i hi with e | e | e
          · exact (HF3.out i e).imp id .inr
          · exact .inr (.inl e)
          · exact .inr (.inr (by have := HU3.out.size; omega))
end Go.Proofs.YtecfhfddgolpfaaGreat
