/- Pages: Get of a page that isn't in memory. -/
import Derived.Test.YtecfhfddgolpfaaGreatPagesG
namespace Go.Proofs.YtecfhfddgolpfaaGreat
open Go.RowKit
variable {w w' : World} {F G FD : Nat → Prop} {p d nf pool dn mf N : Nat} {isv usv : Value} {fr : Int → Option Value} {us σ : List Int} {V : Int → Prop} {C S : Int → Bytes}

/-- The first r sectors of a page. -/
def preS (S : Int → Bytes) (nf : Nat) (k : Int) : Nat → Bytes
  | 0 => []
  | r + 1 => preS S nf k r ++ S (nf + 4 * k + r)
theorem preS_four (S : Int → Bytes) (nf : Nat) (k : Int) : preS S nf k 4 = sec4 S nf k := by simp [preS, sec4]
theorem preS_len (S : Int → Bytes) (nf : Nat) (k : Int) (h : ∀ j, (S j).length = 256) : ∀ r, (preS S nf k r).length = 256 * r
  | 0 => rfl
  | r + 1 => by rw [preS, List.length_append, preS_len S nf k h r, h]; omega
/-- The disk's record has but another count of reads. -/
def DSame (w w' : World) (d : Nat) : Prop := ∃ n mn ml pv a0 a1 a2 b0, DiskRow w d n mn ml pv a0 a1 a2 ∧ DiskRow w' d n mn ml pv b0 a1 a2
theorem DSame.trans {a b c : World} (h : DSame a b d) (k : DSame b c d) : DSame a c d := by
  obtain ⟨n, mn, ml, pv, a0, a1, a2, b0, h1, h2⟩ := h
  obtain ⟨n', mn', ml', pv', a0', a1', a2', b0', k1, k2⟩ := k
  unfold DiskRow at *
  rw [h2] at k1
  simp at k1
  obtain ⟨rfl, rfl, rfl, rfl, rfl, rfl, rfl⟩ := k1
  exact ⟨_, _, _, _, _, _, _, _, h1, k2⟩
theorem DSame.ext {a b c : World} (h : DSame a b d) (hU : Upd G b c) (hG : ¬ G d) : DSame a c d := by
  obtain ⟨n, mn, ml, pv, a0, a1, a2, b0, h1, h2⟩ := h
  exact ⟨n, mn, ml, pv, a0, a1, a2, b0, h1, hU.heap h2 hG⟩
theorem DiskS.same {n : Nat} (h : DiskS w F d n S N) : DSame w w d := by
  obtain ⟨mn, ml, pv, a0, a1, a2, cnt, xs, c, f, h1, h2, h3, h4, h5, h6⟩ := h
  exact ⟨_, _, _, _, _, _, _, _, h1, h1⟩
theorem DiskS.after {n : Nat} (h : DiskS w F d n S N) (hs : DSame w w' d) (hU : Upd (fun i => i = d) w w') : DiskS w' F d n S N := by
  obtain ⟨mn, ml, pv, a0, a1, a2, cnt, xs, c, f, h1, h2, h3, h4, h5, h6⟩ := h
  obtain ⟨n', mn', ml', pv', a0', a1', a2', b0', k1, k2⟩ := hs
  have hmd : mn ≠ d := fun e => by subst e; exact h2.notCells _ _ _ h1
  have hnb : ∀ b cs fr, b = d → w.heap[b]? ≠ some (.cells cs 5 fr) := by rintro b cs fr rfl e; rw [show w.heap[b]? = _ from h1] at e; simp at e
  have hpd : ∀ k, pv.ownBlock = some k → k ≠ d := fun k hk e => by
    obtain ⟨cur, hc⟩ := ownN_type h4 hk
    rw [e, show w.heap[d]? = _ from h1] at hc; simp at hc
  have e1 := h1
  unfold DiskRow at k1 e1
  rw [e1] at k1
  simp at k1
  obtain ⟨rfl, rfl, rfl, rfl, rfl, rfl, rfl⟩ := k1
  exact ⟨mn, ml, pv, _, a1, a2, cnt, xs, c, f, k2, h2.upd hU hmd, h3.upd hU hnb, own_ext h4 hU hpd, h5, h6⟩
theorem diskS_readD {n : Nat} (h : DiskS w F d n S N) (k : Nat) (hk : k < n) :
    Calls Tryz.prog 115 #[.pointer (some ⟨d, 0, none⟩), .int .i64 k] w fun e w' => ∃ v, e = .returned (.tuple #[v, .int .i64 0]) ∧ Bts w' v (S k) ∧ DSame w w' d ∧ Upd (fun i => i = d) w w' := by
  obtain ⟨mn, ml, pv, a0, a1, a2, cnt, xs, c, f, h1, h2, h3, h4, h5, h6⟩ := h
  refine (read_disk h1 h2 h3 k hk).mono ?_
  rintro e w' ⟨v, r, rfl, hb, hr, hU⟩
  exact ⟨v, rfl, hb, ⟨_, _, _, _, _, _, _, _, h1, hr⟩, hU⟩
set_option maxRecDepth 100000 in
set_option maxHeartbeats 1000000 in
theorem get_cold (h : PgsAt w F p nf pool dn σ (usedP σ) C S N d FD isv mf fr usv us) (hN : N + 4 ≤ 1000000000) (k : Int) (hk : usedP σ k) (hf : fr k = none) :
    Calls Tryz.prog 82 #[.pointer (some ⟨p, 0, none⟩), .int .i64 k] w fun e w' => ∃ v F', e = .returned (.tuple #[v, .int .i64 0]) ∧ Own w' 5 v (byv (C k)) ∧ Nw w (.slice none 0 0) v ∧ Pgs w' F' p nf pool dn σ C (N + 4) ∧ (∀ i, F' i → F i ∨ w.heap.size ≤ i) ∧ Upd F w w' := by
  have hC : C k = sec4 S nf k := h.cold k hk hf
  obtain ⟨hk0, hkc⟩ := hk.range
  obtain ⟨n, rfl⟩ : ∃ n : Nat, k = n := ⟨k.toNat, by omega⟩
  have hfit := h.fit
  have hdnm := h.dnm
  have hnf : nf ≤ 100000 := by omega
  have hn1 : n ≤ 100000 := by omega
  have hlenS := h.dk.len
  obtain ⟨hp1, -⟩ := h.pne
  have HL := Lib.hid (lost_any h.pl.row)
  have HO := Lib.hid (of_any h.pl.row σ h.is n)
  have hs : stOf σ n = 1 ∨ stOf σ n = 2 := hk
  have c4 := h.pl.row.cells.2.2.2.2.1
  have HC0 := Lib.hid h.pl.row.cells.1
  have HC1 := Lib.hid h.pl.row.cells.2.1
  have HZ := Lib.hid (zero_frame w)
  have HH := Lib.hid h
  have HF := Lib.hid hf
  have HC := Lib.hid hC
  have HK := Lib.hid hk
  have HLS := Lib.hid hlenS
  clear h hf hC hk hlenS
  rcases hs with hs | hs
  all_goals
    rw [hs] at HO
    clear hs
    go_enter Tryz.func82, Tryz.ntmps82
    go_wp2_with (first
      | (go_at_call 95; refine HL.out.mono ?_; rintro e w' ⟨rfl, rfl⟩)
      | (go_at_call 96; refine HO.out.mono ?_; rintro e w' ⟨rfl, rfl⟩)
      | (at_lookup; refine wpList_lookF rfl _ _ 121 3 204 true rfl (by kernel_rfl) (by kernel_rfl) mf us.length fr HH.out.pl.frm rfl (n : Int) rfl _ HZ.out ?_; rw [HF.out])
      | fail)
    have hdF : FD d := HH.out.dk.fd
    have hlts : d < w'.heap.size := HH.out.dk.lt hdF
    have hpd : p ≠ d := fun e => hp1 (e ▸ hdF)
    go_loopw [9, 45] (fun v i wr => ∃ r : Nat, r ≤ 4 ∧ i = .int .i64 (r : Nat) ∧ Own wr 5 v (byv (preS S nf n r)) ∧ (∀ i, v.ownBlock = some i → w'.heap.size ≤ i) ∧ DSame w' wr d ∧ Upd (fun i => i = d) w' wr) (fun _ i _ => 4 - (intOf i).toNat)
    case atStart => exact ⟨0, by omega, rfl, Own.nil _ _, fun i hi => by simp [Value.ownBlock] at hi, HH.out.dk.same, Upd.refl _ _⟩
    case round =>
      obtain ⟨r, hr, rfl, hv, hvb, hsm, hU⟩ := hrel
      have c0 := hU.cell HC0.out hpd
      have c1 := hU.cell HC1.out hpd
      have HV := Lib.hid hv
      have HVB := Lib.hid hvb
      have HS := Lib.hid hsm
      have HU := Lib.hid hU
      have HDK := Lib.hid (HH.out.dk.after hsm hU)
      clear hv hvb hsm hU
      by_cases hlt : r < 4
      · have hdr : Ext wr wr.drew := (Upd.refl _ wr).drew
        have hcast : ((nf + 4 * n + r : Nat) : Int) = (nf : Int) + 4 * (n : Int) + (r : Int) := by omega
        have hw := diskS_readD (HDK.out.upd hdr (fun _ _ f => f) (fun _ _ _ f => f.elim)) (nf + 4 * n + r) (by omega)
        rw [hcast] at hw
        have HW := Lib.hid hw
        have HDR := Lib.hid hdr
        clear hw hcast hdr
        go_wp2_with fail
        have e1 : IntKind.i64.wrap (4 * (n : Int)) = 4 * (n : Int) := IntWalk.i64_in _ (by omega)
        have e2 : IntKind.i64.wrap ((nf : Int) + 4 * (n : Int)) = (nf : Int) + 4 * (n : Int) := IntWalk.i64_in _ (by omega)
        have e3 : IntKind.i64.wrap ((nf : Int) + 4 * (n : Int) + (r : Int)) = (nf : Int) + 4 * (n : Int) + (r : Int) := IntWalk.i64_in _ (by omega)
        go_region_law (
          (go_simp
           go_at_call 115
           refine HW.out.mono ?_
           rintro e w4 ⟨sv, rfl, hb4, hd4, hU4⟩
           have hv4 := own_ext HV.out (HDR.out.ext.trans hU4 (fun i e => .inl e)) (fun i hi e => by have := HVB.out i hi; omega)
           have HV4 := Lib.hid hv4
           have HB4 := Lib.hid hb4
           have HD4 := Lib.hid (And.intro hd4 hU4)
           clear hv4 hb4 hd4 hU4
           dsimp only))
        all_goals
          clear e1 e2 e3
          go_wp2_with (first
            | (at_builtin; refine wpList_app rfl (.tmp 70) (.tmp 71) 23 rfl 5 (.int .u8 0) 1 (by kernel_rfl) info_u8 rfl u9 (byv (preS S nf n r)) rfl HV4.out sv (byv (S (nf + 4 * n + r))) rfl HB4.out (byv_one _) (by rw [byv_length, byv_length, preS_len _ _ _ HLS.out, HLS.out]; omega) (by decide) ?_; intro v5 w5 ho5 hnw5 hU5)
            | fail)
          obtain ⟨hd4, hU4⟩ := HD4.out
          have hsz := HU.out.size
          have hsz1 := HDR.out.size
          have hsz2 := hU4.size
          have hUr4 : Upd (fun i => i = d) w' w4 := (HU.out.andExt HDR.out).trans hU4 (fun i e => .inl e)
          go_roundw
          case rel => exact ⟨r + 1, by omega, by go_num, by rw [preS, byv_append]; exact ho5, fun i hi => (hnw5 i hi).elim (fun e => HVB.out i e) (fun e => by omega), ((HS.out.ext HDR.out (fun f => f)).trans hd4).ext hU5 (fun e => by have := HVB.out d e; omega), hUr4.trans hU5 (fun i e => .inr (HVB.out i e))⟩
          case measure => simp [intOf]; omega
      · obtain rfl : r = 4 := by omega
        have hv := HV.out
        rw [preS_four, ← HC.out] at hv
        have hlenC : (C (n : Int)).length = 1024 := HH.out.clen HK.out
        obtain ⟨ba, bc, he, -⟩ := own_slice hv
        rw [byv_length, hlenC] at he
        subst he
        have hUF : Upd F w' wr := HU.out.mono (fun i _ e => (HH.out.foot i).2 (.inr (.inl (e ▸ hdF))))
        have hPW : PgsAt wr F p nf pool dn σ (usedP σ) C S N d FD isv mf fr usv us := HH.out.ofDisk HDK.out (HU.out.mono (fun i _ e => e ▸ hdF))
        have hxa : Ext wr (wr.alloc (.cells #[.int .i64 n, .slice ba 1024 bc, .bool false] 206)) := (Upd.refl _ wr).alloc _
        have hPA := hPW.upd hxa (fun _ _ f => f) (fun _ _ _ f => f.elim)
        have hb : Bts wr (.slice ba 1024 bc) (C n) := own_rd hv
        have HP := Lib.hid (put_frame hPA hN (heap_alloc_new wr _) (fun e => by have := hPW.lt e; omega) (hb.ext hxa) hlenC hk0 hkc (fun _ => HC.out))
        have HE := Lib.hid (And.intro hUF (And.intro hPW (And.intro hxa hb)))
        have HLC := Lib.hid hlenC
        clear hUF hPW hxa hPA hb hv hlenC c0 c1
        go_wp2_with (first
          | (go_at_call 114
             refine HP.out.mono ?_
             rintro e w2 ⟨rfl, F2, S2, FD2, fr2, usv2, us2, h2, -, -, hF2, hU2⟩
             have hb2 := (HE.out.2.2.2.ext HE.out.2.2.1).upd hU2 (HE.out.2.1.upd HE.out.2.2.1 (fun _ _ f => f) (fun _ _ _ f => f.elim)).notByte
             have HC2 := Lib.hid (cloneb_any _ _ w2 hb2 (by rw [HLC.out]; omega))
             have H2 := Lib.hid (And.intro h2 (And.intro hF2 hU2))
             clear h2 hF2 hU2 hb2)
          | (go_at_call 51
             refine HC2.out.mono ?_
             rintro e w3 ⟨v3, rfl, ho, hn, hU3⟩)
          | fail)
        go_ret2
        obtain ⟨h2, hF2, hU2⟩ := H2.out
        obtain ⟨hUF, -, hxa, -⟩ := HE.out
        have hs1 := hUF.size
        have hs2 := hxa.size
        have hs3 := hU2.size
        refine ⟨_, F2, rfl, ho, ?_, ⟨S2, d, FD2, isv, mf, fr2, usv2, us2, (((h2.upd hU3 (fun _ _ f => f) (fun _ _ _ f => f.elim)).cong ?_).imp (fun j hj => .inl hj))⟩, ?_, ((hUF.andExt hxa).trans hU2 (fun i e => .inl e)).andExt hU3⟩
        · intro i hi
          exact (hn i hi).imp id (fun e => by omega)
        · funext j; split
          · rename_i e; rw [e]
          · rfl
        · intro i hi
          rcases hF2 i hi with e | e | e
          · exact .inl e
          · exact .inr (by omega)
          · exact .inr (by omega)
theorem get_pgs (h : Pgs w F p nf pool dn σ C N) (hN : N + 4 ≤ 1000000000) (k : Int) (hk : usedP σ k) :
    Calls Tryz.prog 82 #[.pointer (some ⟨p, 0, none⟩), .int .i64 k] w fun e w' => ∃ v F', e = .returned (.tuple #[v, .int .i64 0]) ∧ Own w' 5 v (byv (C k)) ∧ Nw w (.slice none 0 0) v ∧ Pgs w' F' p nf pool dn σ C (N + 4) ∧ (∀ i, F' i → F i ∨ w.heap.size ≤ i) ∧ Upd F w w' := by
  obtain ⟨S, d, FD, isv, mf, fr, usv, us, h⟩ := h
  cases hf : fr k with
  | none => exact get_cold h hN k hk hf
  | some v =>
    obtain ⟨fb, bv, dirty, rfl, -⟩ := h.frs k v hf
    exact get_warm h hN k hk fb hf
end Go.Proofs.YtecfhfddgolpfaaGreat
