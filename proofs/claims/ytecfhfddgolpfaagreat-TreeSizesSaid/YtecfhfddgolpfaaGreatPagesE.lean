/- Pages: drop and put, on pages that lie whole. -/
import Derived.Test.YtecfhfddgolpfaaGreatPagesD
namespace Go.Proofs.YtecfhfddgolpfaaGreat
open Go.RowKit
variable {w w' : World} {F G FD : Nat → Prop} {p d nf pool dn mf N : Nat} {isv usv : Value} {fr : Int → Option Value} {us σ : List Int} {V : Int → Prop} {C S : Int → Bytes}

abbrev footOf (p : Nat) (FD : Nat → Prop) (isv : Value) (mf : Nat) (usv : Value) (fr : Int → Option Value) : Nat → Prop :=
  fun i => i = p ∨ FD i ∨ isv.ownBlock = some i ∨ i = mf ∨ usv.ownBlock = some i ∨ ∃ k, fr k = some (.pointer (some ⟨i, 0, none⟩))
theorem PgsAt.imp {V' : Int → Prop} (h : PgsAt w F p nf pool dn σ V C S N d FD isv mf fr usv us) (hV : ∀ k, V' k → V k) : PgsAt w F p nf pool dn σ V' C S N d FD isv mf fr usv us :=
  { h with cold := fun k a b => h.cold k (hV k a) b, vr := fun k a => h.vr k (hV k a) }
theorem PgsAt.mono {N' : Nat} (h : PgsAt w F p nf pool dn σ V C S N d FD isv mf fr usv us) (hN : N ≤ N') : PgsAt w F p nf pool dn σ V C S N' d FD isv mf fr usv us := { h with dk := h.dk.mono hN }
theorem drop_pgs (h : PgsAt w F p nf pool dn σ V C S N d FD isv mf fr usv us) (n : Int) :
    Calls Tryz.prog 97 #[.pointer (some ⟨p, 0, none⟩), .int .i64 n] w fun e w' => e = .returned (.tuple #[]) ∧ ∃ F' usv' us', PgsAt w' F' p nf pool dn σ (fun k => V k ∧ (k ≠ n ∨ C n = sec4 S nf n)) C S N d FD isv mf (fun j => if j = n then none else fr j) usv' us' ∧
      ((fr n).isSome = true → us'.length + 1 = us.length) ∧ (∀ i, F' i → F i) ∧ (∀ i, fr n = some (.pointer (some ⟨i, 0, none⟩)) → ¬ F' i) ∧ Upd (fun i => i = p ∨ i = mf ∨ usv.ownBlock = some i) w w' := by
  obtain ⟨hp1, hp2, hp3, hp4, hp5, hp6⟩ := h.pne
  cases hn : fr n with
  | none =>
    refine (drop_no h.pl n hn).mono ?_
    rintro e w' ⟨rfl, rfl⟩
    have e : (fun j => if j = n then none else fr j) = fr := by
      funext j; split
      · rename_i e; rw [e, hn]
      · rfl
    rw [e]
    exact ⟨rfl, F, usv, us, h.imp (fun k a => a.1), fun e => by simp at e, fun i a => a, fun i a => by simp at a, Upd.refl _ _⟩
  | some v =>
    have hmem := (h.pl.usd n).1 (by rw [hn]; rfl)
    obtain ⟨k, hk, hkn⟩ := List.getElem_of_mem hmem
    refine (drop_yes h.pl k hk n hkn).mono ?_
    rintro e w' ⟨rfl, usv', hpl, ho, hU⟩
    have hnb : ∀ b cs fr, (b = p ∨ b = mf ∨ usv.ownBlock = some b) → w.heap[b]? ≠ some (.cells cs 5 fr) := by
      intro b cs fr hb
      exact h.notByte b cs fr ((h.foot b).2 (by rcases hb with e | e | e <;> simp [e]))
    have hfrs : ∀ i k, fr k = some (.pointer (some ⟨i, 0, none⟩)) → ¬ (i = p ∨ i = mf ∨ usv.ownBlock = some i) := by
      intro i k hi
      obtain ⟨gb, gv, gd, e, g1, -⟩ := h.frs k _ hi
      simp at e; subst e
      obtain ⟨a, b, c, d, e⟩ := h.fne g1
      rintro (x | x | x)
      · exact a x
      · exact d x
      · exact e x
    refine ⟨rfl, footOf p FD isv mf usv' (fun j => if j = n then none else fr j), usv', _, ⟨hpl, h.dk.upd hU ?_ hnb, own_ext h.is hU ?_, ?_, ?_, fun k a => h.vr k a.1, h.mfd, ?_, h.p0, h.pm, h.fit, h.dnm, fun i => Iff.rfl⟩, ?_, ?_, ?_, hU⟩
    · rintro i hi (e | e | e)
      · exact hp1 (e ▸ hi)
      · exact h.mfd (e ▸ hi)
      · exact (hp6 i e).1 hi
    · rintro i hi (e | e | e)
      · exact hp2 (e ▸ hi)
      · exact (hp5 i hi).2.1 e
      · exact (hp5 i hi).2.2 e
    · intro k v hv
      by_cases e : k = n
      · simp [e] at hv
      · simp only [if_neg e] at hv
        exact (h.frs k v hv).upd hU (fun i hi => hfrs i k (hi ▸ hv)) hnb
    · rintro k ⟨hV, hc⟩ hv
      by_cases e : k = n
      · subst e
        rcases hc with hc | hc
        · exact absurd rfl hc
        · exact hc
      · simp only [if_neg e] at hv
        exact h.cold k hV hv
    · have := h.up; simp; omega
    · intro _; simp; omega
    · rintro i (e | e | e | e | e | ⟨k, e⟩)
      · exact (h.foot i).2 (.inl e)
      · exact (h.foot i).2 (.inr (.inl e))
      · exact (h.foot i).2 (.inr (.inr (.inl e)))
      · exact (h.foot i).2 (.inr (.inr (.inr (.inl e))))
      · exact (h.foot i).2 (.inr (.inr (.inr (.inr (.inl (ho ▸ e))))))
      · refine (h.foot i).2 (.inr (.inr (.inr (.inr (.inr ⟨k, ?_⟩)))))
        simp only at e
        split at e
        · simp at e
        · exact e
    · intro i hi
      simp at hi; subst hi
      obtain ⟨gb, gv, gd, e, g1, -⟩ := h.frs n _ hn
      simp at e; subst e
      obtain ⟨a, b, c, d, e⟩ := h.fne g1
      rintro (x | x | x | x | x | ⟨k, x⟩)
      · exact a x
      · exact b x
      · exact c x
      · exact d x
      · exact e (ho ▸ x)
      · simp only at x
        split at x
        · simp at x
        · rename_i hkn2
          obtain ⟨gb2, gv2, gd2, e2, g2, -⟩ := h.frs k _ x
          simp at e2; subst e2
          rw [g1] at g2
          simp at g2
          exact hkn2 g2.1.symm
/-- What put leaves: the frame under its number, at the head of the order. -/
theorem put_fin (h : PgsAt w F p nf pool dn σ V C S N d FD isv mf fr usv us) {n : Int} {fb : Nat} {bv : Value} {dirty : Bool} {B : Bytes} (hfb : w.heap[fb]? = some (.cells #[.int .i64 n, bv, .bool dirty] 206 (0, 0))) (hff : ¬ F fb) (hb : Bts w bv B) (hB : B.length = 1024)
    (hn0 : 0 ≤ n) (hn : n < σ.length) (hc : dirty = false → B = sec4 S nf n) (hfn : fr n = none) (hup : us.length < pool) {w1 w2 : World} {usv' : Value}
    (hm : MapF w1 mf (fun j => if j = n then some (.pointer (some ⟨fb, 0, none⟩)) else fr j) (us.length + 1)) (hU1 : Upd (fun i => i = mf) w w1) (ho : Own w2 3 usv' (intv (n :: us))) (hnw : Nw w1 usv usv') (hU2 : Upd (fun k => usv.ownBlock = some k) w1 w2) :
    ∃ F', PgsAt (w2.setCell ⟨p, 5, none⟩ usv') F' p nf pool dn σ (fun k => V k ∨ k = n) (fun k => if k = n then B else C k) S N d FD isv mf (fun j => if j = n then some (.pointer (some ⟨fb, 0, none⟩)) else fr j) usv' (n :: us) ∧
      (w2.setCell ⟨p, 5, none⟩ usv').heap[fb]? = some (.cells #[.int .i64 n, bv, .bool dirty] 206 (0, 0)) ∧ (∀ i, F' i → F i ∨ i = fb ∨ w.heap.size ≤ i) ∧ Upd F w (w2.setCell ⟨p, 5, none⟩ usv') := by
  obtain ⟨hp1, hp2, hp3, hp4, hp5, hp6⟩ := h.pne
  obtain ⟨hf1, hf2, hf3, hf4, hf5⟩ := h.fne hfb
  have hFp : F p := (h.foot p).2 (.inl rfl)
  have hFm : F mf := (h.foot mf).2 (.inr (.inr (.inr (.inl rfl))))
  have hFu : ∀ k, usv.ownBlock = some k → F k := fun k hk => (h.foot k).2 (.inr (.inr (.inr (.inr (.inl hk)))))
  have hFs : ∀ k v i, fr k = some v → v = .pointer (some ⟨i, 0, none⟩) → F i := fun k v i hk hv => (h.foot i).2 (.inr (.inr (.inr (.inr (.inr ⟨k, hv ▸ hk⟩)))))
  have hs2 : Upd (fun i => i = p) w2 (w2.setCell ⟨p, 5, none⟩ usv') := (Upd.refl _ w2).setCell _ (.inl rfl)
  have hU12 : Upd (fun i => i = mf ∨ usv.ownBlock = some i) w w2 := (hU1.mono (fun i _ e => .inl e)).trans hU2 (fun i e => .inl (.inr e))
  have hU : Upd (fun i => i = mf ∨ usv.ownBlock = some i ∨ i = p) w (w2.setCell ⟨p, 5, none⟩ usv') := (hU12.mono (fun i _ e => e.elim .inl (fun e => .inr (.inl e)))).trans hs2 (fun i e => .inl (.inr (.inr e)))
  have hFall : ∀ i, (i = mf ∨ usv.ownBlock = some i ∨ i = p) → F i := by
    rintro i (rfl | e | rfl)
    · exact hFm
    · exact hFu i e
    · exact hFp
  have hUF : Upd F w (w2.setCell ⟨p, 5, none⟩ usv') := hU.mono (fun i _ e => hFall i e)
  have hnb : ∀ b cs fr, (b = mf ∨ usv.ownBlock = some b ∨ b = p) → w.heap[b]? ≠ some (.cells cs 5 fr) := fun b cs fr e => h.notByte b cs fr (hFall b e)
  have hrow2 : w2.heap[p]? = some (.cells #[.pointer (some ⟨d, 0, none⟩), .int .i64 nf, .int .i64 pool, isv, .map (some mf), usv, .bool false] 123 (0, 0)) := hU12.heap h.pl.row (fun e => e.elim hp3 hp4)
  have hU2p : usv'.ownBlock ≠ some p := fun e => by
    obtain ⟨cur, e⟩ := ownN_type ho e
    rw [hrow2] at e; simp at e
  have hU2m : usv.ownBlock ≠ some mf := fun e => (hp6 mf e).2 rfl
  have hm2 := hm.upd hU2 hU2m
  refine ⟨footOf p FD isv mf usv' (fun j => if j = n then some (.pointer (some ⟨fb, 0, none⟩)) else fr j), ?_, hUF.heap hfb hff, ?_, hUF⟩
  · refine ⟨⟨?_, ?_, own_ext ho hs2 (fun k hk e => hU2p (e ▸ hk)), ?_, ?_, ?_⟩, h.dk.upd hU ?_ hnb, own_ext h.is hU ?_, ?_, ?_, ?_, h.mfd, by simp; omega, h.p0, h.pm, h.fit, h.dnm, fun i => Iff.rfl⟩
    · unfold PgRow
      rw [heap_setCell_same w2 p 5 _ _ _ hrow2]
      rfl
    · rw [List.length_cons]; exact hm2.upd hs2 (fun e => hp3 e.symm)
    · refine List.nodup_cons.2 ⟨fun e => ?_, h.pl.nodup⟩
      have := (h.pl.usd n).2 e
      rw [hfn] at this; simp at this
    · intro j
      by_cases e : j = n
      · simp [e]
      · simp only [List.mem_cons, e, false_or]; exact h.pl.usd j
    · have := h.pm; simp; omega
    · rintro i hi (e | e | e)
      · exact h.mfd (e ▸ hi)
      · exact (hp6 i e).1 hi
      · exact hp1 (e ▸ hi)
    · rintro i hi (e | e | e)
      · exact (hp5 i hi).2.1 e
      · exact (hp5 i hi).2.2 e
      · exact hp2 (e ▸ hi)
    · intro k v hv
      by_cases e : k = n
      · subst e
        simp at hv; subst hv
        exact ⟨fb, bv, dirty, rfl, hUF.heap hfb hff, by simpa using hb.upd hU hnb, by simpa using hB, fun e => by simpa using hc e, hn0, hn⟩
      · simp only [if_neg e] at hv
        have := (h.frs k v hv).upd hU (fun i hi he => ?_) hnb
        · obtain ⟨gb, gv, gd, r1, r2, r3, r4, r5, r6⟩ := this
          exact ⟨gb, gv, gd, r1, r2, by simpa [e] using r3, by simpa [e] using r4, fun x => by simpa [e] using r5 x, r6⟩
        · obtain ⟨gb, gv, gd, e1, g1, -⟩ := h.frs k _ hv
          rw [hi] at e1; simp at e1; subst e1
          obtain ⟨a, b, c, d, e2⟩ := h.fne g1
          rcases he with x | x | x
          · exact d x
          · exact e2 x
          · exact a x
    · intro k hk hv
      by_cases e : k = n
      · simp [e] at hv
      · simp only [if_neg e] at hv ⊢
        exact h.cold k (hk.resolve_right e) hv
    · rintro k (hk | rfl)
      · exact h.vr k hk
      · exact ⟨hn0, hn⟩
  · rintro i (e | e | e | e | e | ⟨k, e⟩)
    · exact .inl ((h.foot i).2 (.inl e))
    · exact .inl ((h.foot i).2 (.inr (.inl e)))
    · exact .inl ((h.foot i).2 (.inr (.inr (.inl e))))
    · exact .inl ((h.foot i).2 (.inr (.inr (.inr (.inl e)))))
    · rcases hnw i e with e | e
      · exact .inl (hFu i e)
      · exact .inr (.inr (by have := hU1.size; omega))
    · by_cases hk : k = n
      · simp [hk] at e; exact .inr (.inl e.symm)
      · simp only [if_neg hk] at e; exact .inl (hFs k _ i e rfl)
end Go.Proofs.YtecfhfddgolpfaaGreat
