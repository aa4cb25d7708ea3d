/- The disk in one word: DiskS; its Read, Write, Size, New. -/
import Derived.Test.YtecfhfddgolpfaaGreatDiskC
namespace Go.Proofs.YtecfhfddgolpfaaGreat
open Go.RowKit

/-- A disk that doesn't fail: n sectors that read as S; at most N writes pending; F: the blocks that its calls write. -/
def DiskS (w : World) (F : Nat → Prop) (d n : Nat) (S : Int → Bytes) (N : Nat) : Prop :=
  ∃ mn ml pv a0 a1 a2 cnt xs c f, DiskRow w d n mn ml pv a0 a1 a2 ∧ MapF w mn f c ∧ Secs w f S ∧ w.ownsRow 0 250 2 pv cnt xs ∧ cnt ≤ N ∧ ∀ i, F i ↔ (i = d ∨ i = mn ∨ pv.ownBlock = some i)
variable {w w' : World} {F G : Nat → Prop} {d n N : Nat} {S : Int → Bytes}
theorem ownN_type {E : TypeId} {v : Value} {sz n : Nat} {xs : List Value} (h : w.ownsRow 0 E sz v n xs) {k : Nat} (hk : v.ownBlock = some k) : ∃ cur, w.heap[k]? = some (.cells cur E (0, 0)) := by
  rcases h.2 with ⟨rfl, _⟩ | ⟨g, cap, cur, rfl, _, hg, _⟩
  · simp [Value.ownBlock] at hk
  · simp [Value.ownBlock] at hk; subst hk; exact ⟨cur, hg⟩
theorem DiskS.types (h : DiskS w F d n S N) {i : Nat} (hi : F i) : (∃ cs, w.heap[i]? = some (.cells cs 134 (0, 0))) ∨ (∃ cs, w.heap[i]? = some (.cells cs 250 (0, 0))) ∨ ∃ es c, w.heap[i]? = some (.map es c) := by
  obtain ⟨mn, ml, pv, a0, a1, a2, cnt, xs, c, f, h1, h2, h3, h4, h5, h6⟩ := h
  rcases (h6 i).1 hi with rfl | rfl | h
  · exact .inl ⟨_, h1⟩
  · obtain ⟨es, c, h2, -⟩ := h2; exact .inr (.inr ⟨es, c, h2⟩)
  · exact .inr (.inl (ownN_type h4 h))
theorem DiskS.not (h : DiskS w F d n S N) {i : Nat} {cs : Array Value} {E : TypeId} {fr : Nat × Nat} (hi : w.heap[i]? = some (.cells cs E fr)) (h1 : E ≠ 134) (h2 : E ≠ 250) : ¬ F i := by
  intro hF
  rcases h.types hF with ⟨cs', e⟩ | ⟨cs', e⟩ | ⟨es, c, e⟩ <;> rw [hi] at e <;> simp at e
  · exact h1 e.2.1
  · exact h2 e.2.1
theorem DiskS.notByte (h : DiskS w F d n S N) : ∀ b cs fr, F b → w.heap[b]? ≠ some (.cells cs 5 fr) := by
  intro b cs fr hb e
  exact h.not e (by decide) (by decide) hb
theorem DiskS.fd (h : DiskS w F d n S N) : F d := by
  obtain ⟨mn, ml, pv, a0, a1, a2, cnt, xs, c, f, h1, h2, h3, h4, h5, h6⟩ := h
  exact (h6 d).2 (.inl rfl)
theorem DiskS.lt (h : DiskS w F d n S N) {i : Nat} (hi : F i) : i < w.heap.size := by
  rcases h.types hi with ⟨cs', e⟩ | ⟨cs', e⟩ | ⟨es, c, e⟩ <;> exact heap_lt e
theorem DiskS.upd (h : DiskS w F d n S N) (hU : Upd G w w') (hG : ∀ i, F i → ¬ G i) (hb : ∀ b cs fr, G b → w.heap[b]? ≠ some (.cells cs 5 fr)) : DiskS w' F d n S N := by
  obtain ⟨mn, ml, pv, a0, a1, a2, cnt, xs, c, f, h1, h2, h3, h4, h5, h6⟩ := h
  exact ⟨mn, ml, pv, a0, a1, a2, cnt, xs, c, f, hU.heap h1 (hG _ ((h6 d).2 (.inl rfl))), h2.upd hU (hG _ ((h6 mn).2 (.inr (.inl rfl)))), h3.upd hU hb, own_ext h4 hU (fun k hk => hG _ ((h6 k).2 (.inr (.inr hk)))), h5, h6⟩
theorem DiskS.mono {N' : Nat} (h : DiskS w F d n S N) (hN : N ≤ N') : DiskS w F d n S N' := by
  obtain ⟨mn, ml, pv, a0, a1, a2, cnt, xs, c, f, h1, h2, h3, h4, h5, h6⟩ := h
  exact ⟨mn, ml, pv, a0, a1, a2, cnt, xs, c, f, h1, h2, h3, h4, by omega, h6⟩
theorem DiskS.len (h : DiskS w F d n S N) (k : Int) : (S k).length = 256 := by
  obtain ⟨mn, ml, pv, a0, a1, a2, cnt, xs, c, f, h1, h2, h3, h4, h5, h6⟩ := h
  exact (h3 k).1
theorem diskS_size (h : DiskS w F d n S N) : Calls Tryz.prog 49 #[.pointer (some ⟨d, 0, none⟩)] w fun e w' => e = .returned (.int .i64 n) ∧ w' = w := by
  obtain ⟨mn, ml, pv, a0, a1, a2, cnt, xs, c, f, h1, h2, h3, h4, h5, h6⟩ := h
  exact size_disk h1
theorem diskS_read (h : DiskS w F d n S N) (k : Nat) (hk : k < n) :
    Calls Tryz.prog 115 #[.pointer (some ⟨d, 0, none⟩), .int .i64 k] w fun e w' => ∃ v, e = .returned (.tuple #[v, .int .i64 0]) ∧ Bts w' v (S k) ∧ DiskS w' F d n S N ∧ Upd F w w' := by
  obtain ⟨mn, ml, pv, a0, a1, a2, cnt, xs, c, f, h1, h2, h3, h4, h5, h6⟩ := h
  refine (read_disk h1 h2 h3 k hk).mono ?_
  rintro e w' ⟨v, r, rfl, hb, hr, hU⟩
  have hmd : mn ≠ d := fun e => by subst e; exact h2.notCells _ _ _ h1
  have hnb : ∀ b cs fr, b = d → w.heap[b]? ≠ some (.cells cs 5 fr) := by rintro b cs fr rfl e; rw [show w.heap[b]? = _ from h1] at e; simp at e
  have hpd : ∀ k, pv.ownBlock = some k → k ≠ d := fun k hk e => by
    obtain ⟨cur, hc⟩ := ownN_type h4 hk
    rw [e, show w.heap[d]? = _ from h1] at hc; simp at hc
  exact ⟨v, rfl, hb, ⟨mn, ml, pv, r, a1, a2, cnt, xs, c, f, hr, h2.upd hU hmd, h3.upd hU hnb, own_ext h4 hU hpd, h5, h6⟩, hU.mono (fun i _ e => (h6 i).2 (.inl e))⟩
theorem diskS_write (h : DiskS w F d n S N) (hN : N ≤ 1000000000) (k : Nat) (hk : k < n) (bv : Value) (b : Bytes) (hb : Bts w bv b) (hbl : b.length = 256) :
    Calls Tryz.prog 152 #[.pointer (some ⟨d, 0, none⟩), .int .i64 k, bv] w fun e w' => e = .returned (.int .i64 0) ∧ ∃ F', DiskS w' F' d n (fun j => if j = (k : Int) then b else S j) (N + 1) ∧ (∀ i, F' i → F i ∨ w.heap.size ≤ i) ∧ Upd F w w' := by
  obtain ⟨mn, ml, pv, a0, a1, a2, cnt, xs, c, f, h1, h2, h3, h4, h5, h6⟩ := h
  refine (write_disk h1 h2 h3 h4 (by omega) k hk bv b hb hbl).mono ?_
  rintro e w' ⟨rfl, pv', xs', c', f', r, g1, g2, g3, g4, g5, g6⟩
  refine ⟨rfl, fun i => i = d ∨ i = mn ∨ pv'.ownBlock = some i, ⟨mn, ml, pv', a0, r, a2, cnt + 1, xs', c', f', g1, g2, g3, g4, by omega, fun i => Iff.rfl⟩, ?_, g6.mono (fun i _ e => (h6 i).2 e)⟩
  rintro i (e | e | e)
  · exact .inl ((h6 i).2 (.inl e))
  · exact .inl ((h6 i).2 (.inr (.inl e)))
  · exact (g5 i e).imp (fun e => (h6 i).2 (.inr (.inr e))) id
theorem diskS_new (n : Nat) (hn : n ≤ 65536) (w : World) :
    Calls Tryz.prog 27 #[.int .i64 n] w fun e w' => ∃ d F, e = .returned (.pointer (some ⟨d, 0, none⟩)) ∧ DiskS w' F d n (fun _ => List.replicate 256 0) 0 ∧ (∀ i, F i → w.heap.size ≤ i) ∧ Ext w w' := by
  refine (new_disk n hn w).mono ?_
  rintro e w' ⟨d, mn, ml, rfl, h1, h2, h3, h4, h5, h6, -, -, -, hE⟩
  refine ⟨d, fun i => i = d ∨ i = mn ∨ (Value.slice none 0 0).ownBlock = some i, rfl, ⟨mn, ml, _, 0, 0, 0, 0, [], 0, _, h1, h2, fun k => ⟨List.length_replicate, rfl⟩, World.ownsRow_nil w' 0 _ 2, Nat.le_refl _, fun i => Iff.rfl⟩, ?_, hE⟩
  rintro i (rfl | rfl | e)
  · exact h4
  · exact h5
  · simp [Value.ownBlock] at e
end Go.Proofs.YtecfhfddgolpfaaGreat
