/- The tree's plain law, fourth part: what a split makes of an overfull node. -/
import Derived.Test.YtecfhfddgolpfaaGreatTreeR
import Derived.Test.YtecfhfddgolpfaaGreatNodeM
namespace Go.Proofs.YtecfhfddgolpfaaGreat
variable {sub sub' : Int → List Ent → List Int → Prop} {h : Nat} {x : Nd} {es : List Ent} {ps : List Int}

theorem Shaped.esz_leaf (hx : Shaped x) (hl : x.leaf = true) (i : Nat) (hi : i < x.keys.length) : esz x i ≤ 503 := by
  obtain ⟨a, b, c⟩ := hx.leafv hl
  unfold esz
  rw [if_pos hl, List.getD_eq_getElem?_getD, List.getD_eq_getElem?_getD, List.getElem?_eq_getElem hi, List.getElem?_eq_getElem (by omega)]
  have := (hx.key i hi).2
  have := c _ (List.getElem_mem (show i < x.vals.length by omega))
  simp only [Option.getD_some]; omega
theorem Shaped.esz_inner (hx : Shaped x) (hl : x.leaf = false) (i : Nat) (hi : i < x.keys.length) : esz x i ≤ 245 := by
  unfold esz
  rw [if_neg (by simp [hl]), List.getD_eq_getElem?_getD, List.getElem?_eq_getElem hi]
  have := (hx.key i hi).2
  simp only [Option.getD_some]; omega
theorem szTo_bound (x : Nd) (M : Nat) (hM : ∀ i, i < x.keys.length → esz x i ≤ M) : ∀ k, k ≤ x.keys.length → szTo x k ≤ 7 + M * k
  | 0, _ => by unfold szTo; split <;> omega
  | k + 1, hk => by
    have := szTo_bound x M hM k (by omega)
    have := hM k (by omega)
    unfold szTo
    rw [Nat.mul_add]; omega
def capOf (x : Nd) : Nat := if x.leaf then 1527 else 1269
theorem Shaped.fits (hx : Shaped x) (h1 : 1024 < nsize x) (h2 : nsize x ≤ capOf x) : 1 ≤ lastK x ∧ ∃ k, 1 ≤ k ∧ k ≤ lastK x ∧ mxK x k ≤ 1024 := by
  unfold capOf at h2
  cases hl : x.leaf with
  | true =>
    rw [hl] at h2
    obtain ⟨k, a, b, c, d⟩ := fits_leaf x hl (fun i hi => hx.esz_leaf hl i hi) h1 h2
    have e : lastK x = x.keys.length - 1 := by simp [lastK, hl]
    exact ⟨by omega, k, a, by omega, by unfold mxK; omega⟩
  | false =>
    rw [hl] at h2
    obtain ⟨k, a, b, c, d⟩ := fits_inner x hl (fun i hi => hx.esz_inner hl i hi) h1 (by simpa using h2)
    have e : lastK x = x.keys.length - 2 := by simp [lastK, hl]
    exact ⟨by omega, k, a, by omega, by unfold mxK; omega⟩
theorem zip_mem_key {ks vs : List Bytes} {e : Ent} (h : e ∈ ks.zip vs) : e.1 ∈ ks := (List.of_mem_zip (a := e.1) (b := e.2) h).1
theorem Body.split (hb : Body sub h x es ps) (h1 : 1024 < nsize x) (h2 : nsize x ≤ capOf x) {k : Nat} (k1 : 1 ≤ k) (k2 : k ≤ lastK x) (k3 : ∀ j, 1 ≤ j → j ≤ lastK x → mxK x k ≤ mxK x j) :
    ∃ es1 es2 ps1 ps2, Body sub h (fstN x k) es1 ps1 ∧ Body sub h (sndN x k) es2 ps2 ∧ es = es1 ++ es2 ∧ ps = ps1 ++ ps2 ∧ nsize (fstN x k) ≤ 1024 ∧ nsize (sndN x k) ≤ 1024 ∧ (fstN x k).keys ≠ [] ∧ (sndN x k).keys ≠ [] ∧
      (∀ e ∈ es1, cmpB e.1 (x.keys.getD k []) < 0) ∧ (∀ e ∈ es2, 0 ≤ cmpB e.1 (x.keys.getD k [])) ∧ 1 ≤ (x.keys.getD k []).length ∧ (x.keys.getD k []).length ≤ 240 := by
  obtain ⟨hx, hb⟩ := hb
  obtain ⟨-, j, j1, j2, j3⟩ := hx.fits h1 h2
  have hm := k3 j j1 j2
  have hmk : mxK x k ≤ 1024 := by omega
  have hf : nsize (fstN x k) ≤ 1024 := by unfold mxK at hmk; omega
  have hs : nsize (sndN x k) ≤ 1024 := by unfold mxK at hmk; omega
  have keyb : ∀ a ∈ x.keys, 1 ≤ a.length ∧ a.length ≤ 240 := fun a ha => by obtain ⟨i, hi, rfl⟩ := List.getElem_of_mem ha; exact hx.key i hi
  have keyt : ∀ n, ∀ (i : Nat) (h : i < (x.keys.take n).length), 1 ≤ (x.keys.take n)[i].length ∧ (x.keys.take n)[i].length ≤ 240 := fun n i hi => keyb _ (List.mem_of_mem_take (List.getElem_mem hi))
  have keyd : ∀ n, ∀ (i : Nat) (h : i < (x.keys.drop n).length), 1 ≤ (x.keys.drop n)[i].length ∧ (x.keys.drop n)[i].length ≤ 240 := fun n i hi => keyb _ (List.mem_of_mem_drop (List.getElem_mem hi))
  cases hl : x.leaf with
  | true =>
    have e : lastK x = x.keys.length - 1 := by simp [lastK, hl]
    have hkl : k < x.keys.length := by omega
    obtain ⟨a, b, c⟩ := hx.leafv hl
    have hK : x.keys.getD k [] = x.keys[k] := by rw [List.getD_eq_getElem?_getD, List.getElem?_eq_getElem hkl]; rfl
    have e1 : fstN x k = ⟨true, x.keys.take k, x.vals.take k, []⟩ := by simp [fstN, hl]
    have e2 : sndN x k = ⟨true, x.keys.drop k, x.vals.drop k, []⟩ := by simp [sndN, hl]
    rcases hb with ⟨rfl, -, rfl, rfl⟩ | ⟨-, e, -⟩
    · rw [e1] at hf ⊢
      rw [e2] at hs ⊢
      rw [hK]
      refine ⟨(x.keys.take k).zip (x.vals.take k), (x.keys.drop k).zip (x.vals.drop k), [], [], ⟨⟨keyt k, Srt.take hx.srt k, fun _ => ⟨by simp; omega, rfl, fun v hv => c v (List.mem_of_mem_take hv)⟩, fun e => by simp at e⟩, .inl ⟨rfl, rfl, rfl, rfl⟩⟩,
        ⟨⟨keyd k, Srt.drop hx.srt k, fun _ => ⟨by simp; omega, rfl, fun v hv => c v (List.mem_of_mem_drop hv)⟩, fun e => by simp at e⟩, .inl ⟨rfl, rfl, rfl, rfl⟩⟩, ?_, rfl, hf, hs, ?_, ?_, ?_, ?_, (hx.key k hkl).1, (hx.key k hkl).2⟩
      · rw [← List.zip_append (by simp; omega), List.take_append_drop, List.take_append_drop]
      · intro e; have := congrArg List.length e; simp only [List.length_take, List.length_nil] at this; omega
      · intro e; have := congrArg List.length e; simp only [List.length_drop, List.length_nil] at this; omega
      · intro e he
        obtain ⟨i, hi⟩ := List.getElem?_of_mem (zip_mem_key he)
        rw [List.getElem?_take] at hi
        split at hi
        · exact Srt.get? hx.srt (by omega) hi (List.getElem?_eq_getElem hkl)
        · simp at hi
      · intro e he
        obtain ⟨i, hi⟩ := List.getElem?_of_mem (zip_mem_key he)
        rw [List.getElem?_drop] at hi
        by_cases hi0 : i = 0
        · subst hi0
          rw [Nat.add_zero, List.getElem?_eq_getElem hkl] at hi
          simp at hi; rw [← hi, cmp_self]; omega
        · have := Srt.get? hx.srt (show k < k + i by omega) (List.getElem?_eq_getElem hkl) hi
          have := cmp_lt_gt this; omega
    · rw [hl] at e; simp at e
  | false =>
    have e : lastK x = x.keys.length - 2 := by simp [lastK, hl]
    have hkl : k < x.keys.length := by omega
    obtain ⟨a, b, c⟩ := hx.inn hl
    have hK : x.keys.getD k [] = x.keys[k] := by rw [List.getD_eq_getElem?_getD, List.getElem?_eq_getElem hkl]; rfl
    have e1 : fstN x k = ⟨false, x.keys.take k, [], x.kids.take (k + 1)⟩ := by simp [fstN, hl]
    have e2 : sndN x k = ⟨false, x.keys.drop (k + 1), [], x.kids.drop (k + 1)⟩ := by simp [sndN, hl]
    rcases hb with ⟨-, e, -⟩ | ⟨hh, -, ss, s1, s2, s3, rfl, rfl⟩
    · rw [hl] at e; simp at e
    · rw [e1] at hf ⊢
      rw [e2] at hs ⊢
      rw [hK]
      have hkk : x.keys[k]? = some x.keys[k] := List.getElem?_eq_getElem hkl
      have hbl := s3.below hx.srt hkk
      have hab := s3.above hx.srt (by simp; omega) hkk
      refine ⟨ents (ss.take (k + 1)), ents (ss.drop (k + 1)), pgsOf (ss.take (k + 1)), pgsOf (ss.drop (k + 1)), ⟨⟨keyt k, Srt.take hx.srt k, fun e => by simp at e, fun _ => ⟨rfl, by simp; omega, fun q hq => c q (List.mem_of_mem_take hq)⟩⟩, .inr ⟨hh, rfl, ss.take (k + 1), by simp; omega, fun i q t hq ht => ?_, ?_, rfl, rfl⟩⟩,
        ⟨⟨keyd (k + 1), Srt.drop hx.srt (k + 1), fun e => by simp at e, fun _ => ⟨rfl, by simp; omega, fun q hq => c q (List.mem_of_mem_drop hq)⟩⟩, .inr ⟨hh, rfl, ss.drop (k + 1), by simp; omega, fun i q t hq ht => ?_, ?_, rfl, rfl⟩⟩, ?_, ?_, hf, hs, ?_, ?_, ?_, ?_, (hx.key k hkl).1, (hx.key k hkl).2⟩
      · simp only at hq
        rw [List.getElem?_take] at hq ht
        split at hq
        · rename_i hi
          rw [if_pos hi] at ht
          exact s2 i q t hq ht
        · simp at hq
      · have := s3.take k
        simpa [List.map_take] using this
      · simp only at hq
        rw [List.getElem?_drop] at hq ht
        exact s2 _ q t hq ht
      · have := s3.drop (k + 1)
        simpa [List.map_drop] using this
      · unfold ents; rw [← List.flatten_append, ← List.map_append, List.take_append_drop]
      · unfold pgsOf; rw [← List.flatten_append, ← List.map_append, List.take_append_drop]
      · intro e; have := congrArg List.length e; simp only [List.length_take, List.length_nil] at this; omega
      · intro e; have := congrArg List.length e; simp only [List.length_drop, List.length_nil] at this; omega
      · intro e he
        exact hbl e (by rw [← List.map_take]; exact he)
      · intro e he
        exact hab e (by rw [← List.map_drop]; exact he)
end Go.Proofs.YtecfhfddgolpfaaGreat
