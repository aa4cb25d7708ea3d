/- Pages: how they lie in memory, whole; write of a frame. -/
import Derived.Test.YtecfhfddgolpfaaGreatPagesB
namespace Go.Proofs.YtecfhfddgolpfaaGreat
open Go.RowKit

/-- The four sectors of a page. -/
def sec4 (S : Int → Bytes) (nf : Nat) (k : Int) : Bytes := S (nf + 4 * k) ++ S (nf + 4 * k + 1) ++ S (nf + 4 * k + 2) ++ S (nf + 4 * k + 3)
/-- A frame: page k of cnt; its bytes are C k. -/
def FrAt (w : World) (nf cnt : Nat) (C S : Int → Bytes) (k : Int) (v : Value) : Prop :=
  ∃ fb bv dirty, v = .pointer (some ⟨fb, 0, none⟩) ∧ w.heap[fb]? = some (.cells #[.int .i64 k, bv, .bool dirty] 206 (0, 0)) ∧ Bts w bv (C k) ∧ (C k).length = 1024 ∧ (dirty = false → C k = sec4 S nf k) ∧ 0 ≤ k ∧ k < cnt
/-- Pages, whole: σ what they are, V those whose content is C, S the disk. -/
structure PgsAt (w : World) (F : Nat → Prop) (p nf pool dn : Nat) (σ : List Int) (V : Int → Prop) (C S : Int → Bytes) (N : Nat) (d : Nat) (FD : Nat → Prop) (isv : Value) (mf : Nat) (fr : Int → Option Value) (usv : Value) (us : List Int) : Prop where
  pl : PoolAt w p d nf pool isv mf fr usv us
  dk : DiskS w FD d dn S N
  is : Own w 124 isv (intv σ)
  frs : ∀ k v, fr k = some v → FrAt w nf σ.length C S k v
  cold : ∀ k, V k → fr k = none → C k = sec4 S nf k
  vr : ∀ k, V k → 0 ≤ k ∧ k < σ.length
  mfd : ¬ FD mf
  up : us.length ≤ pool
  p0 : 1 ≤ pool
  pm : pool ≤ 1000
  fit : nf + 4 * σ.length ≤ dn
  dnm : dn ≤ 65536
  foot : ∀ i, F i ↔ (i = p ∨ FD i ∨ isv.ownBlock = some i ∨ i = mf ∨ usv.ownBlock = some i ∨ ∃ k, fr k = some (.pointer (some ⟨i, 0, none⟩)))
variable {w w' : World} {F G FD : Nat → Prop} {p d nf pool dn mf N : Nat} {isv usv : Value} {fr : Int → Option Value} {us σ : List Int} {V : Int → Prop} {C S : Int → Bytes}
theorem PgsAt.types (h : PgsAt w F p nf pool dn σ V C S N d FD isv mf fr usv us) {i : Nat} (hi : F i) :
    (∃ cs E, w.heap[i]? = some (.cells cs E (0, 0)) ∧ (E = 123 ∨ E = 134 ∨ E = 250 ∨ E = 124 ∨ E = 3 ∨ E = 206)) ∨ ∃ es c, w.heap[i]? = some (.map es c) := by
  rcases (h.foot i).1 hi with rfl | h1 | h1 | rfl | h1 | ⟨k, h1⟩
  · exact .inl ⟨_, _, h.pl.row, .inl rfl⟩
  · rcases h.dk.types h1 with ⟨cs, e⟩ | ⟨cs, e⟩ | ⟨es, c, e⟩
    · exact .inl ⟨_, _, e, by simp⟩
    · exact .inl ⟨_, _, e, by simp⟩
    · exact .inr ⟨_, _, e⟩
  · obtain ⟨cur, e⟩ := ownN_type h.is h1
    exact .inl ⟨_, _, e, by simp⟩
  · obtain ⟨es, c, e, -⟩ := h.pl.frm
    exact .inr ⟨_, _, e⟩
  · obtain ⟨cur, e⟩ := ownN_type h.pl.used h1
    exact .inl ⟨_, _, e, by simp⟩
  · obtain ⟨fb, bv, dirty, e1, e2, -⟩ := h.frs k _ h1
    simp at e1
    subst e1
    exact .inl ⟨_, _, e2, by simp⟩
theorem PgsAt.lt (h : PgsAt w F p nf pool dn σ V C S N d FD isv mf fr usv us) {i : Nat} (hi : F i) : i < w.heap.size := by
  rcases h.types hi with ⟨cs, E, e, -⟩ | ⟨es, c, e⟩ <;> exact heap_lt e
theorem PgsAt.notByte (h : PgsAt w F p nf pool dn σ V C S N d FD isv mf fr usv us) : ∀ b cs fr, F b → w.heap[b]? ≠ some (.cells cs 5 fr) := by
  intro b cs fr hb e
  rcases h.types hb with ⟨cs, E, e2, h2⟩ | ⟨es, c, e2⟩
  · rw [e] at e2
    simp at e2
    obtain ⟨-, rfl, -⟩ := e2
    revert h2; decide
  · rw [e] at e2; simp at e2
theorem FrAt.upd {cnt : Nat} {k : Int} {v : Value} (h : FrAt w nf cnt C S k v) (hU : Upd G w w') (hG : ∀ i, v = .pointer (some ⟨i, 0, none⟩) → ¬ G i) (hb : ∀ b cs fr, G b → w.heap[b]? ≠ some (.cells cs 5 fr)) : FrAt w' nf cnt C S k v := by
  obtain ⟨fb, bv, dirty, rfl, h1, h2, h3⟩ := h
  exact ⟨fb, bv, dirty, rfl, hU.heap h1 (hG fb rfl), h2.upd hU hb, h3⟩
theorem PgsAt.upd (h : PgsAt w F p nf pool dn σ V C S N d FD isv mf fr usv us) (hU : Upd G w w') (hG : ∀ i, F i → ¬ G i) (hb : ∀ b cs fr, G b → w.heap[b]? ≠ some (.cells cs 5 fr)) : PgsAt w' F p nf pool dn σ V C S N d FD isv mf fr usv us where
  pl := h.pl.upd hU (hG _ ((h.foot _).2 (.inl rfl))) (hG _ ((h.foot _).2 (.inr (.inr (.inr (.inl rfl)))))) (fun _ hk => hG _ ((h.foot _).2 (.inr (.inr (.inr (.inr (.inl hk)))))))
  dk := h.dk.upd hU (fun _ hi => hG _ ((h.foot _).2 (.inr (.inl hi)))) hb
  is := own_ext h.is hU (fun _ hk => hG _ ((h.foot _).2 (.inr (.inr (.inl hk)))))
  frs := fun k v hv => (h.frs k v hv).upd hU (fun _ hi => hG _ ((h.foot _).2 (.inr (.inr (.inr (.inr (.inr ⟨k, hi ▸ hv⟩))))))) hb
  cold := h.cold
  vr := h.vr
  mfd := h.mfd
  up := h.up
  p0 := h.p0
  pm := h.pm
  fit := h.fit
  dnm := h.dnm
  foot := h.foot
/-- The frame blocks are the frames' own. -/
theorem PgsAt.fne (h : PgsAt w F p nf pool dn σ V C S N d FD isv mf fr usv us) {fb : Nat} {cs : Array Value} (hf : w.heap[fb]? = some (.cells cs 206 (0, 0))) : fb ≠ p ∧ ¬ FD fb ∧ isv.ownBlock ≠ some fb ∧ fb ≠ mf ∧ usv.ownBlock ≠ some fb := by
  refine ⟨?_, h.dk.not hf (by decide) (by decide), ?_, ?_, ?_⟩
  · rintro rfl; rw [show w.heap[fb]? = _ from h.pl.row] at hf; simp at hf
  · intro e; obtain ⟨cur, e⟩ := ownN_type h.is e; rw [e] at hf; simp at hf
  · rintro rfl; exact h.pl.frm.notCells _ _ _ hf
  · intro e; obtain ⟨cur, e⟩ := ownN_type h.pl.used e; rw [e] at hf; simp at hf
theorem PgsAt.pne (h : PgsAt w F p nf pool dn σ V C S N d FD isv mf fr usv us) : ¬ FD p ∧ isv.ownBlock ≠ some p ∧ p ≠ mf ∧ usv.ownBlock ≠ some p ∧ (∀ k, isv.ownBlock = some k → ¬ FD k ∧ k ≠ mf ∧ usv.ownBlock ≠ some k) ∧ (∀ k, usv.ownBlock = some k → ¬ FD k ∧ k ≠ mf) := by
  have hp : w.heap[p]? = _ := h.pl.row
  refine ⟨h.dk.not hp (by decide) (by decide), ?_, ?_, ?_, fun k hk => ?_, fun k hk => ?_⟩
  · intro e; obtain ⟨cur, e⟩ := ownN_type h.is e; rw [e] at hp; simp at hp
  · rintro rfl; exact h.pl.frm.notCells _ _ _ hp
  · intro e; obtain ⟨cur, e⟩ := ownN_type h.pl.used e; rw [e] at hp; simp at hp
  · obtain ⟨cur, hc⟩ := ownN_type h.is hk
    refine ⟨h.dk.not hc (by decide) (by decide), ?_, ?_⟩
    · rintro rfl; exact h.pl.frm.notCells _ _ _ hc
    · intro e; obtain ⟨cur, e⟩ := ownN_type h.pl.used e; rw [e] at hc; simp at hc
  · obtain ⟨cur, hc⟩ := ownN_type h.pl.used hk
    refine ⟨h.dk.not hc (by decide) (by decide), ?_⟩
    rintro rfl; exact h.pl.frm.notCells _ _ _ hc

/-- A call of the disk's that left the sectors alone. -/
theorem PgsAt.ofDisk {N' : Nat} (h : PgsAt w F p nf pool dn σ V C S N d FD isv mf fr usv us) (hd : DiskS w' FD d dn S N') (hU : Upd FD w w') : PgsAt w' F p nf pool dn σ V C S N' d FD isv mf fr usv us := by
  obtain ⟨hp1, hp2, hp3, hp4, hp5, hp6⟩ := h.pne
  refine ⟨h.pl.upd hU hp1 h.mfd (fun k hk => (hp6 k hk).1), hd, own_ext h.is hU (fun k hk => (hp5 k hk).1), fun k v hv => (h.frs k v hv).upd hU (fun i hi => ?_) h.dk.notByte, h.cold, h.vr, h.mfd, h.up, h.p0, h.pm, h.fit, h.dnm, h.foot⟩
  obtain ⟨fb, bv, dirty, e1, g1, -⟩ := h.frs k v hv
  rw [hi] at e1
  simp at e1; subst e1
  exact (h.fne g1).2.1

/-- Part q of a page. -/
def chunk (l : Bytes) (q : Nat) : Bytes := (l.drop (q * 256)).take 256
set_option maxRecDepth 10000 in
theorem chunks (l : Bytes) (h : l.length = 1024) : chunk l 0 ++ chunk l 1 ++ chunk l 2 ++ chunk l 3 = l := by
  have h3 : (l.drop 768).take 256 = l.drop 768 := List.take_of_length_le (by simp; omega)
  have e2 := List.take_append_drop 256 (l.drop 512)
  have e1 := List.take_append_drop 256 (l.drop 256)
  have e0 := List.take_append_drop 256 l
  simp only [List.drop_drop, Nat.reduceAdd] at e1 e2
  simp only [chunk, Nat.reduceMul, List.drop_zero, List.append_assoc]
  rw [h3, e2, e1, e0]
theorem chunk_len (l : Bytes) (h : l.length = 1024) (q : Nat) (hq : q < 4) : (chunk l q).length = 256 := by simp [chunk, h]; omega
/-- The disk behind i parts of page k. -/
def laidS (S : Int → Bytes) (nf : Nat) (k : Int) (l : Bytes) (i : Nat) : Int → Bytes := fun j => if nf + 4 * k ≤ j ∧ j < nf + 4 * k + i then chunk l (j - (nf + 4 * k)).toNat else S j
theorem laidS_zero (S : Int → Bytes) (nf : Nat) (k : Int) (l : Bytes) : laidS S nf k l 0 = S := by
  funext j; unfold laidS; rw [if_neg (by omega)]
theorem laidS_succ (S : Int → Bytes) (nf : Nat) (k : Int) (l : Bytes) (i : Nat) : (fun j => if j = (nf + 4 * k + i : Int) then chunk l i else laidS S nf k l i j) = laidS S nf k l (i + 1) := by
  funext j; unfold laidS
  by_cases h : j = (nf + 4 * k + i : Int)
  · rw [if_pos h, if_pos (by omega)]; congr 1; omega
  · rw [if_neg h]
    by_cases h2 : nf + 4 * k ≤ j ∧ j < nf + 4 * k + i
    · rw [if_pos h2, if_pos (by omega)]
    · rw [if_neg h2, if_neg (by omega)]
theorem laidS_sec4 (S : Int → Bytes) (nf : Nat) (k : Int) (l : Bytes) (h : l.length = 1024) : sec4 (laidS S nf k l 4) nf k = l := by
  have e0 : ((nf : Int) + 4 * k - (nf + 4 * k)).toNat = 0 := by omega
  have e1 : ((nf : Int) + 4 * k + 1 - (nf + 4 * k)).toNat = 1 := by omega
  have e2 : ((nf : Int) + 4 * k + 2 - (nf + 4 * k)).toNat = 2 := by omega
  have e3 : ((nf : Int) + 4 * k + 3 - (nf + 4 * k)).toNat = 3 := by omega
  have hc := chunks l h
  unfold sec4 laidS
  rw [if_pos (by omega), if_pos (by omega), if_pos (by omega), if_pos (by omega), e0, e1, e2, e3]
  exact hc
theorem laidS_other (S : Int → Bytes) (nf : Nat) (k m : Int) (l : Bytes) (hm : m ≠ k) : sec4 (laidS S nf k l 4) nf m = sec4 S nf m := by
  unfold sec4 laidS
  rw [if_neg (by omega), if_neg (by omega), if_neg (by omega), if_neg (by omega)]
end Go.Proofs.YtecfhfddgolpfaaGreat
