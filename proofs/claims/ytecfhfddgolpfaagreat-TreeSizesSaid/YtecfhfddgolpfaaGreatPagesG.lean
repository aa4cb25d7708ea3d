/- Pages: Get. -/
import Derived.Test.YtecfhfddgolpfaaGreatPagesF
namespace Go.Proofs.YtecfhfddgolpfaaGreat
open Go.RowKit
variable {w w' : World} {F G FD : Nat → Prop} {p d nf pool dn mf N : Nat} {isv usv : Value} {fr : Int → Option Value} {us σ : List Int} {V : Int → Prop} {C S : Int → Bytes}

/-- Held or fresh. -/
def usedP (σ : List Int) (k : Int) : Prop := stOf σ k = 1 ∨ stOf σ k = 2
theorem stOf_range {σ : List Int} {k : Int} (h : stOf σ k ≠ 0) : 0 ≤ k ∧ k < σ.length := by
  unfold stOf at h
  split at h
  · exact absurd rfl h
  · refine ⟨by omega, ?_⟩
    rcases Nat.lt_or_ge k.toNat σ.length with h1 | h1
    · omega
    · rw [List.getElem?_eq_none h1] at h; exact absurd rfl h
theorem usedP.range {σ : List Int} {k : Int} (h : usedP σ k) : 0 ≤ k ∧ k < σ.length := stOf_range (by unfold usedP at h; omega)
/-- Pages in one word: σ what they are, C what those hold that are used; N bounds the writes that are pending; F: the blocks that calls write. -/
def Pgs (w : World) (F : Nat → Prop) (p nf pool dn : Nat) (σ : List Int) (C : Int → Bytes) (N : Nat) : Prop :=
  ∃ S d FD isv mf fr usv us, PgsAt w F p nf pool dn σ (usedP σ) C S N d FD isv mf fr usv us
theorem Pgs.upd (h : Pgs w F p nf pool dn σ C N) (hU : Upd G w w') (hG : ∀ i, F i → ¬ G i) (hb : ∀ b cs fr, G b → w.heap[b]? ≠ some (.cells cs 5 fr)) : Pgs w' F p nf pool dn σ C N := by
  obtain ⟨S, d, FD, isv, mf, fr, usv, us, h⟩ := h
  exact ⟨S, d, FD, isv, mf, fr, usv, us, h.upd hU hG hb⟩
theorem Pgs.ext (h : Pgs w F p nf pool dn σ C N) (hU : Ext w w') : Pgs w' F p nf pool dn σ C N := h.upd hU (fun _ _ f => f) (fun _ _ _ f => f.elim)
theorem Pgs.mono {N' : Nat} (h : Pgs w F p nf pool dn σ C N) (hN : N ≤ N') : Pgs w F p nf pool dn σ C N' := by
  obtain ⟨S, d, FD, isv, mf, fr, usv, us, h⟩ := h
  exact ⟨S, d, FD, isv, mf, fr, usv, us, h.mono hN⟩
theorem Pgs.lt (h : Pgs w F p nf pool dn σ C N) {i : Nat} (hi : F i) : i < w.heap.size := by
  obtain ⟨S, d, FD, isv, mf, fr, usv, us, h⟩ := h
  exact h.lt hi
theorem Pgs.notByte (h : Pgs w F p nf pool dn σ C N) : ∀ b cs fr, F b → w.heap[b]? ≠ some (.cells cs 5 fr) := by
  obtain ⟨S, d, FD, isv, mf, fr, usv, us, h⟩ := h
  exact h.notByte
theorem Pgs.fp (h : Pgs w F p nf pool dn σ C N) : F p := by
  obtain ⟨S, d, FD, isv, mf, fr, usv, us, h⟩ := h
  exact (h.foot p).2 (.inl rfl)
theorem PgsAt.len (h : PgsAt w F p nf pool dn σ V C S N d FD isv mf fr usv us) : σ.length ≤ 20000 := by
  have := h.fit; have := h.dnm; omega
theorem PgsAt.clen (h : PgsAt w F p nf pool dn σ V C S N d FD isv mf fr usv us) {k : Int} (hk : V k) : (C k).length = 1024 := by
  cases hf : fr k with
  | none => rw [h.cold k hk hf]; simp [sec4, h.dk.len]
  | some v =>
    obtain ⟨fb, bv, dirty, -, -, -, hl, -⟩ := h.frs k v hf
    exact hl
theorem Pgs.clen (h : Pgs w F p nf pool dn σ C N) {k : Int} (hk : usedP σ k) : (C k).length = 1024 := by
  obtain ⟨S, d, FD, isv, mf, fr, usv, us, h⟩ := h
  exact h.clen hk
theorem PgsAt.cong {C' : Int → Bytes} (h : PgsAt w F p nf pool dn σ V C S N d FD isv mf fr usv us) (e : C' = C) : PgsAt w F p nf pool dn σ V C' S N d FD isv mf fr usv us := by subst e; exact h

set_option maxRecDepth 100000 in
set_option maxHeartbeats 1000000 in
theorem get_bad (h : Pgs w F p nf pool dn σ C N) (k : Int) (hk : ¬ usedP σ k) :
    Calls Tryz.prog 82 #[.pointer (some ⟨p, 0, none⟩), .int .i64 k] w fun e w' => e = .returned (.tuple #[.slice none 0 0, .int .i64 1]) ∧ w' = w := by
  obtain ⟨S, d, FD, isv, mf, fr, usv, us, h⟩ := h
  have HL := Lib.hid (lost_any h.pl.row)
  have HO := Lib.hid (of_any h.pl.row σ h.is k)
  unfold usedP at hk
  obtain ⟨s, hs⟩ : ∃ s, s = stOf σ k := ⟨_, rfl⟩
  rw [← hs] at hk HO
  have h1 : ¬ s = 1 := fun e => hk (.inl e)
  have h2 : ¬ s = 2 := fun e => hk (.inr e)
  clear h hs hk
  have b1 : (s == 1) = false := by simpa using h1
  have b2 : (s == 2) = false := by simpa using h2
  have b3 : (s != 1) = true := by simpa using h1
  have b4 : (s != 2) = true := by simpa using h2
  go_enter Tryz.func82, Tryz.ntmps82
  go_wp2_with (first
    | (go_at_call 95; refine HL.out.mono ?_; rintro e w' ⟨rfl, rfl⟩)
    | (go_at_call 96; refine HO.out.mono ?_; rintro e w' ⟨rfl, rfl⟩))
  go_ret2
  exact ⟨rfl, rfl⟩
set_option maxRecDepth 100000 in
set_option maxHeartbeats 1000000 in
/-- Get of a page that lies in memory. -/
theorem get_warm (h : PgsAt w F p nf pool dn σ (usedP σ) C S N d FD isv mf fr usv us) (hN : N + 4 ≤ 1000000000) (k : Int) (hk : usedP σ k) (fb : Nat) (hf : fr k = some (.pointer (some ⟨fb, 0, none⟩))) :
    Calls Tryz.prog 82 #[.pointer (some ⟨p, 0, none⟩), .int .i64 k] w fun e w' => ∃ v F', e = .returned (.tuple #[v, .int .i64 0]) ∧ Own w' 5 v (byv (C k)) ∧ Nw w (.slice none 0 0) v ∧ Pgs w' F' p nf pool dn σ C (N + 4) ∧ (∀ i, F' i → F i ∨ w.heap.size ≤ i) ∧ Upd F w w' := by
  obtain ⟨fb', bv, dirty, e1, hfb, hbv, hlen, hcl, hk0, hkc⟩ := h.frs k _ hf
  simp at e1
  subst e1
  obtain ⟨ba, bc, rfl, -⟩ := hbv.open
  rw [hlen] at hfb hbv
  have HL := Lib.hid (lost_any h.pl.row)
  have HO := Lib.hid (of_any h.pl.row σ h.is k)
  have HD := Lib.hid (drop_pgs h k)
  have hs : stOf σ k = 1 ∨ stOf σ k = 2 := hk
  have c4 := h.pl.row.cells.2.2.2.2.1
  have HZ := Lib.hid (zero_frame w)
  have HH := Lib.hid h
  have HF := Lib.hid hf
  have HFB := Lib.hid hfb
  have HB := Lib.hid hbv
  have HLEN := Lib.hid hlen
  have HCL := Lib.hid hcl
  have HK := Lib.hid hk
  clear h hf hfb hbv hlen hcl hk
  rcases hs with hs | hs
  all_goals
    rw [hs] at HO
    clear hs
    go_enter Tryz.func82, Tryz.ntmps82
    go_wp2_with (first
      | (go_at_call 95; refine HL.out.mono ?_; rintro e w' ⟨rfl, rfl⟩)
      | (go_at_call 96; refine HO.out.mono ?_; rintro e w' ⟨rfl, rfl⟩)
      | (at_lookup; refine wpList_lookF rfl _ _ 121 3 204 true rfl (by kernel_rfl) (by kernel_rfl) mf us.length fr HH.out.pl.frm rfl k rfl _ HZ.out ?_; rw [HF.out])
      | fail)
    refine HD.out.mono ?_
    rintro e w1 ⟨rfl, F1, usv1, us1, h1, -, hF1, hff1, hU1⟩
    have hU1F := hU1.mono (G := F) (fun i _ e => (HH.out.foot i).2 (by rcases e with e | e | e <;> simp [e]))
    have hfb1 := hU1.heap HFB.out (fun e => by
      obtain ⟨a, b, c, d, e2⟩ := HH.out.fne HFB.out
      rcases e with x | x | x
      · exact a x
      · exact d x
      · exact e2 x)
    have HP := Lib.hid (put_frame h1 hN hfb1 (hff1 fb HF.out) (HB.out.upd hU1F HH.out.notByte) HLEN.out hk0 hkc HCL.out)
    have HU1 := Lib.hid (And.intro hF1 hU1F)
    clear h1 hF1 hff1 hU1 hU1F hfb1
    go_wp2_with (first
      | (go_at_call 114
         refine HP.out.mono ?_
         rintro e w2 ⟨rfl, F2, S2, FD2, fr2, usv2, us2, h2, hf2, hfb2, hF2, hU2⟩
         have q1 : w2.cell? ⟨fb, 1, none⟩ = some (.slice ba 1024 bc) := by rw [cell_heap hfb2]; rfl
         have hb2 : Bts w2 (.slice ba 1024 bc) (C k) := by
           obtain ⟨fb', bv, dirty, e1, g1, g2, -⟩ := h2.frs k _ hf2
           simp at e1; subst e1
           rw [hfb2] at g1
           simp at g1
           rw [← g1.1] at g2
           simpa using g2
         have HC := Lib.hid (cloneb_any _ (C k) w2 hb2 (by rw [HLEN.out]; omega))
         have H2 := Lib.hid (And.intro h2 (And.intro hF2 hU2))
         clear h2 hf2 hfb2 hF2 hU2 hb2)
      | (go_at_call 51
         refine HC.out.mono ?_
         rintro e w3 ⟨v3, rfl, ho, hn, hU3⟩))
    go_ret2
    obtain ⟨h2, hF2, hU2⟩ := H2.out
    obtain ⟨hF1, hU1⟩ := HU1.out
    refine ⟨_, F2, rfl, ho, ?_, ⟨S2, d, FD2, isv, mf, fr2, usv2, us2, (((h2.upd hU3 (fun _ _ f => f) (fun _ _ _ f => f.elim)).cong ?_).imp ?_)⟩, ?_, (hU1.trans hU2 (fun i e => .inl (hF1 i e))).andExt hU3⟩
    · intro i hi
      exact (hn i hi).imp id (fun e => by have := hU1.size; have := hU2.size; omega)
    · funext j; split
      · rename_i e; rw [e]
      · rfl
    · intro j hj
      by_cases e : j = k
      · exact .inr e
      · exact .inl ⟨hj, .inl e⟩
    · intro i hi
      rcases hF2 i hi with e | e | e
      · exact .inl (hF1 i e)
      · exact .inl ((HH.out.foot i).2 (.inr (.inr (.inr (.inr (.inr ⟨k, by rw [e]; exact HF.out⟩))))))
      · exact .inr (by have := hU1.size; omega)
end Go.Proofs.YtecfhfddgolpfaaGreat
