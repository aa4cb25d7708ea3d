/- The tree's plain law, third part: an entry is put into a leaf, a kid is put back, a node is split. -/
import Derived.Test.YtecfhfddgolpfaaGreatTreeQ
namespace Go.Proofs.YtecfhfddgolpfaaGreat
variable {sub sub' : Int → List Ent → List Int → Prop} {h : Nat} {x : Nd} {es : List Ent} {ps : List Int}

theorem Body.shaped (hb : Body sub h x es ps) : Shaped x := hb.1
theorem Srt.of {ks : List Bytes} (h : ∀ (i j : Nat) (a b : Bytes), i < j → ks[i]? = some a → ks[j]? = some b → cmpB a b < 0) : Srt ks :=
  List.pairwise_iff_getElem.2 (fun i j hi hj hij => h i j _ _ hij (List.getElem?_eq_getElem hi) (List.getElem?_eq_getElem hj))
theorem Srt.take {ks : List Bytes} (h : Srt ks) (k : Nat) : Srt (ks.take k) := List.Pairwise.sublist (List.take_sublist k ks) h
theorem Srt.drop {ks : List Bytes} (h : Srt ks) (k : Nat) : Srt (ks.drop k) := List.Pairwise.sublist (List.drop_sublist k ks) h
/-- A key between two others. -/
theorem Srt.ins {ks : List Bytes} (h : Srt ks) {c : Nat} (hc : c ≤ ks.length) {m : Bytes} (h1 : ∀ j k, j + 1 = c → ks[j]? = some k → cmpB k m < 0) (h2 : ∀ k, ks[c]? = some k → cmpB m k < 0) : Srt (ks.take c ++ m :: ks.drop c) := by
  unfold Srt at *
  rw [List.pairwise_append]
  refine ⟨Srt.take h c, List.pairwise_cons.2 ⟨fun b hb => ?_, Srt.drop h c⟩, fun a ha b hb => ?_⟩
  · obtain ⟨j, hj⟩ := List.getElem?_of_mem hb
    rw [List.getElem?_drop] at hj
    have hlt := (List.getElem?_eq_some_iff.1 hj).1
    have h3 := h2 _ (List.getElem?_eq_getElem (show c < ks.length by omega))
    cases j with
    | zero => rw [Nat.add_zero, List.getElem?_eq_getElem (show c < ks.length by omega)] at hj; cases hj; exact h3
    | succ j => exact cmp_trans _ _ _ h3 (Srt.get? h (show c < c + (j + 1) by omega) (List.getElem?_eq_getElem (by omega)) hj)
  · have ham : cmpB a m < 0 := by
      obtain ⟨i, hi⟩ := List.getElem?_of_mem ha
      rw [List.getElem?_take] at hi
      split at hi
      · have hlt := (List.getElem?_eq_some_iff.1 hi).1
        have h3 := h1 (c - 1) _ (by omega) (List.getElem?_eq_getElem (show c - 1 < ks.length by omega))
        by_cases e : i = c - 1
        · subst e; rw [List.getElem?_eq_getElem hlt] at hi; cases hi; exact h3
        · exact cmp_trans _ _ _ (Srt.get? h (show i < c - 1 by omega) hi (List.getElem?_eq_getElem (by omega))) h3
      · simp at hi
    rcases List.mem_cons.1 hb with rfl | hb
    · exact ham
    · obtain ⟨j, hj⟩ := List.getElem?_of_mem hb
      rw [List.getElem?_drop] at hj
      have hlt := (List.getElem?_eq_some_iff.1 hj).1
      have h3 := h2 _ (List.getElem?_eq_getElem (show c < ks.length by omega))
      cases j with
      | zero => rw [Nat.add_zero, List.getElem?_eq_getElem (show c < ks.length by omega)] at hj; cases hj; exact cmp_trans _ _ _ ham h3
      | succ j => exact cmp_trans _ _ _ ham (cmp_trans _ _ _ h3 (Srt.get? h (show c < c + (j + 1) by omega) (List.getElem?_eq_getElem (by omega)) hj))
theorem mem_ins {k v : Bytes} : ∀ {l : List Ent} {e : Ent}, e ∈ ins k v l → e = (k, v) ∨ e ∈ l
  | [], e, h => by simp [ins] at h; exact .inl h
  | a :: l, e, h => by
    rw [ins] at h
    split at h
    · rcases List.mem_cons.1 h with rfl | h
      · simp
      · exact (mem_ins h).imp id (fun h => by simp [h])
    · split at h
      · rcases List.mem_cons.1 h with rfl | h
        · simp
        · simp [h]
      · rcases List.mem_cons.1 h with rfl | h
        · simp
        · exact .inr h
theorem ins_ne (k v : Bytes) (l : List Ent) : ins k v l ≠ [] := by
  cases l with
  | nil => simp [ins]
  | cons a l => rw [ins]; split; · simp
                split <;> simp

/-! ### a leaf -/
theorem key_len_ins {ks : List Bytes} {c : Nat} {m : Bytes} (h : ∀ (i : Nat) (h : i < ks.length), 1 ≤ ks[i].length ∧ ks[i].length ≤ 240) (h1 : 1 ≤ m.length) (h2 : m.length ≤ 240) :
    ∀ (i : Nat) (h : i < (ks.take c ++ m :: ks.drop c).length), 1 ≤ (ks.take c ++ m :: ks.drop c)[i].length ∧ (ks.take c ++ m :: ks.drop c)[i].length ≤ 240 := by
  have hm : ∀ a ∈ ks, 1 ≤ a.length ∧ a.length ≤ 240 := fun a ha => by obtain ⟨i, hi, rfl⟩ := List.getElem_of_mem ha; exact h i hi
  intro i hi
  have := List.getElem_mem hi
  rcases List.mem_append.1 this with e | e
  · exact hm _ (List.mem_of_mem_take e)
  · rcases List.mem_cons.1 e with e | e
    · rw [e]; exact ⟨h1, h2⟩
    · exact hm _ (List.mem_of_mem_drop e)
theorem ins_length {α : Type} (l : List α) (c : Nat) (a : α) (hc : c ≤ l.length) : (l.take c ++ a :: l.drop c).length = l.length + 1 := by simp; omega
theorem sumLen_ins (l : List Bytes) (c : Nat) (a : Bytes) : sumLen (l.take c ++ a :: l.drop c) = sumLen l + a.length := by
  have := sumLen_split l c
  simp; omega
theorem sumLen_set (l : List Bytes) (c : Nat) (a : Bytes) : sumLen (l.set c a) ≤ sumLen l + a.length := by
  induction l generalizing c with
  | nil => simp
  | cons b l ih =>
    cases c with
    | zero => simp; omega
    | succ c => have := ih c; simp; omega
theorem leaf_hit (hb : Body sub h x es ps) (hl : x.leaf = true) {key v : Bytes} (hv : v.length ≤ 260) (hf : ∃ h : fk x.keys key < x.keys.length, x.keys[fk x.keys key] = key) :
    Body sub h { x with vals := x.vals.set (fk x.keys key) v } (ins key v es) ps ∧ nsize { x with vals := x.vals.set (fk x.keys key) v } ≤ nsize x + 260 := by
  obtain ⟨hx, hb⟩ := hb
  obtain ⟨a, b, c⟩ := hx.leafv hl
  rcases hb with ⟨h0, -, rfl, hp⟩ | ⟨-, e, -⟩
  · refine ⟨⟨⟨hx.key, hx.srt, fun _ => ⟨by simpa using a, b, fun u hu => ?_⟩, fun e => by simp [hl] at e⟩, .inl ⟨h0, hl, ins_zip_hit key v _ _ a hf, hp⟩⟩, ?_⟩
    · rcases List.mem_or_eq_of_mem_set hu with e | e
      · exact c u e
      · rw [e]; exact hv
    · have e1 := nsize_leaf x hl a
      have e2 := nsize_leaf { x with vals := x.vals.set (fk x.keys key) v } hl (by simpa using a)
      have := sumLen_set x.vals (fk x.keys key) v
      rw [e2]
      show 3 + 3 * x.keys.length + sumLen x.keys + sumLen (x.vals.set _ v) ≤ _
      omega
  · rw [hl] at e; simp at e
theorem leaf_miss (hb : Body sub h x es ps) (hl : x.leaf = true) {key v : Bytes} (hk1 : 1 ≤ key.length) (hk2 : key.length ≤ 240) (hv : v.length ≤ 260) (hf : ¬ ∃ h : fk x.keys key < x.keys.length, x.keys[fk x.keys key] = key) :
    Body sub h { x with keys := x.keys.take (fk x.keys key) ++ key :: x.keys.drop (fk x.keys key), vals := x.vals.take (fk x.keys key) ++ v :: x.vals.drop (fk x.keys key) } (ins key v es) ps ∧
      nsize { x with keys := x.keys.take (fk x.keys key) ++ key :: x.keys.drop (fk x.keys key), vals := x.vals.take (fk x.keys key) ++ v :: x.vals.drop (fk x.keys key) } ≤ nsize x + 503 := by
  obtain ⟨hx, hb⟩ := hb
  obtain ⟨a, b, c⟩ := hx.leafv hl
  have hfl := fk_le x.keys key
  rcases hb with ⟨h0, -, rfl, hp⟩ | ⟨-, e, -⟩
  · refine ⟨⟨⟨key_len_ins hx.key hk1 hk2, hx.srt.ins hfl ?_ ?_, fun _ => ⟨?_, b, fun u hu => ?_⟩, fun e => by simp [hl] at e⟩, .inl ⟨h0, hl, ins_zip_miss key v _ _ a hf, hp⟩⟩, ?_⟩
    · intro j k hj hk
      obtain ⟨h2, rfl⟩ := List.getElem?_eq_some_iff.1 hk
      exact fk_lt (by omega)
    · intro k hk
      obtain ⟨h2, rfl⟩ := List.getElem?_eq_some_iff.1 hk
      exact cmp_gt (cmp_eq (by have := fk_ge h2; omega) (fun e => hf ⟨h2, e⟩))
    · rw [ins_length _ _ _ hfl, ins_length _ _ _ (by omega)]; omega
    · rcases List.mem_append.1 hu with e | e
      · exact c u (List.mem_of_mem_take e)
      · rcases List.mem_cons.1 e with e | e
        · rw [e]; exact hv
        · exact c u (List.mem_of_mem_drop e)
    · have e1 := nsize_leaf x hl a
      have e2 := nsize_leaf { x with keys := x.keys.take (fk x.keys key) ++ key :: x.keys.drop (fk x.keys key), vals := x.vals.take (fk x.keys key) ++ v :: x.vals.drop (fk x.keys key) } hl (by
        show (x.vals.take (fk x.keys key) ++ v :: x.vals.drop (fk x.keys key)).length = (x.keys.take (fk x.keys key) ++ key :: x.keys.drop (fk x.keys key)).length
        rw [ins_length _ _ _ hfl, ins_length _ _ _ (by omega)]; omega)
      rw [e2]
      show 3 + 3 * (x.keys.take (fk x.keys key) ++ key :: x.keys.drop (fk x.keys key)).length + sumLen (x.keys.take (fk x.keys key) ++ key :: x.keys.drop (fk x.keys key)) + sumLen (x.vals.take (fk x.keys key) ++ v :: x.vals.drop (fk x.keys key)) ≤ _
      rw [sumLen_ins, sumLen_ins, ins_length _ _ _ hfl]; omega
  · rw [hl] at e; simp at e

/-! ### an inner node -/
abbrev ents (l : List (List Ent × List Int)) : List Ent := (l.map Prod.fst).flatten
abbrev pgsOf (l : List (List Ent × List Int)) : List Int := (l.map Prod.snd).flatten
/-- A kid among the others. -/
structure At (sub : Int → List Ent → List Int → Prop) (x : Nd) (es : List Ent) (ps : List Int) (c : Nat) (L : List (List Ent × List Int)) (s : List Ent × List Int) (R : List (List Ent × List Int)) : Prop where
  l : L.length = c
  n : c + 1 + R.length = x.kids.length
  subs : ∀ (i : Nat) (k : Int) (t : List Ent × List Int), x.kids[i]? = some k → (L ++ s :: R)[i]? = some t → sub k t.1 t.2
  sep : Sep x.keys (L.map Prod.fst ++ s.1 :: R.map Prod.fst)
  es : es = ents L ++ s.1 ++ ents R
  ps : ps = pgsOf L ++ s.2 ++ pgsOf R
theorem Body.at (hb : Body sub h x es ps) (hl : x.leaf = false) {c : Nat} (hc : c < x.kids.length) : ∃ L s R, At sub x es ps c L s R := by
  obtain ⟨hx, hb⟩ := hb
  rcases hb with ⟨-, e, -⟩ | ⟨h0, -, ss, h1, h2, h3, h4, h5⟩
  · rw [hl] at e; simp at e
  · obtain ⟨L, s, R, hL, rfl⟩ : ∃ L s R, L.length = c ∧ ss = L ++ s :: R :=
      ⟨ss.take c, ss[c]'(by omega), ss.drop (c + 1), by simp; omega, by rw [← List.drop_eq_getElem_cons (by omega), List.take_append_drop]⟩
    simp at h1
    exact ⟨L, s, R, hL, by omega, h2, by simpa using h3, by simp [ents, h4], by simp [pgsOf, h5]⟩
variable {c : Nat} {L R : List (List Ent × List Int)} {s : List Ent × List Int}
theorem At.kid (ha : At sub x es ps c L s R) {k : Int} (hk : x.kids[c]? = some k) : sub k s.1 s.2 :=
  ha.subs c k s hk (by rw [← ha.l]; exact mid_at L R s)
theorem At.low (ha : At sub x es ps c L s R) {key : Bytes} (hc : c = kidx x.keys key) : ∀ e ∈ ents L, cmpB e.1 key < 0 :=
  ha.sep.kid_low (by rw [List.length_map, ha.l, hc])
theorem At.high (ha : At sub x es ps c L s R) (hx : Shaped x) (hl : x.leaf = false) {key : Bytes} (hc : c = kidx x.keys key) : ∀ e ∈ ents R, 0 < cmpB e.1 key :=
  ha.sep.kid_high hx.srt (by rw [List.length_map, ha.l, hc]) (by
    have := ha.n; have := ha.l; have := (hx.inn hl).2.1; simp; omega)
/-- What is put in the kid's place lies between the kid's separators. -/
theorem At.bounds (ha : At sub x es ps c L s R) (hx : Shaped x) {key v : Bytes} (hc : c = kidx x.keys key) {t : List Ent} (ht : ∀ e ∈ t, e ∈ ins key v s.1) :
    (∀ k, x.keys[c]? = some k → ∀ e ∈ t, cmpB e.1 k < 0) ∧ (∀ j k, j + 1 = c → x.keys[j]? = some k → ∀ e ∈ t, 0 ≤ cmpB e.1 k) := by
  constructor
  · intro k hk e he
    rcases mem_ins (ht e he) with rfl | hm
    · exact kidx_high hx.srt (Nat.le_of_eq hc.symm) hk
    · refine (ha.sep c k hk).1 s.1 ?_ e hm
      have := mid_at (L.map Prod.fst) (R.map Prod.fst) s.1
      rwa [List.length_map, ha.l] at this
  · intro j k hj hk e he
    rcases mem_ins (ht e he) with rfl | hm
    · exact kidx_low (j := j) (by rw [← hc]; omega) hk
    · refine (ha.sep j k hk).2 s.1 ?_ e hm
      have := mid_at (L.map Prod.fst) (R.map Prod.fst) s.1
      rw [List.length_map, ha.l] at this
      rw [hj]; exact this
/-- Another tree in the kid's place, under the same page. -/
theorem At.put1 (ha : At sub x es ps c L s R) (hx : Shaped x) (hl : x.leaf = false) (hh : 0 < h) {t : List Ent × List Int}
    (hs : ∀ k a q, (∀ m ∈ q, m ∈ pgsOf L ++ pgsOf R) → sub k a q → sub' k a q) (ht : ∀ k, x.kids[c]? = some k → sub' k t.1 t.2)
    (h1 : ∀ k, x.keys[c]? = some k → ∀ e ∈ t.1, cmpB e.1 k < 0) (h2 : ∀ j k, j + 1 = c → x.keys[j]? = some k → ∀ e ∈ t.1, 0 ≤ cmpB e.1 k) :
    Body sub' h x (ents L ++ t.1 ++ ents R) (pgsOf L ++ t.2 ++ pgsOf R) := by
  refine ⟨hx, .inr ⟨hh, hl, L ++ t :: R, by have := ha.n; have := ha.l; simp; omega, fun i k u hk hu => ?_, ?_, by simp [ents], by simp [pgsOf]⟩⟩
  · by_cases hi : i = c
    · subst hi
      rw [← ha.l, mid_at] at hu
      cases hu
      exact ht k hk
    · have hu2 : (L ++ s :: R)[i]? = some u := by rw [mid_get] at hu ⊢; simpa [show i ≠ L.length by rw [ha.l]; exact hi] using hu
      refine hs k _ _ (fun m hm => ?_) (ha.subs i k u hk hu2)
      have hmem : u ∈ L ++ R := by
        rw [mid_get] at hu
        split at hu
        · exact List.mem_append.2 (.inl (List.mem_of_getElem? hu))
        · split at hu
          · rename_i e; exact absurd (e.trans ha.l) hi
          · exact List.mem_append.2 (.inr (List.mem_of_getElem? hu))
      rcases List.mem_append.1 hmem with e | e
      · exact List.mem_append.2 (.inl (List.mem_flatten.2 ⟨u.2, List.mem_map.2 ⟨u, e, rfl⟩, hm⟩))
      · exact List.mem_append.2 (.inr (List.mem_flatten.2 ⟨u.2, List.mem_map.2 ⟨u, e, rfl⟩, hm⟩))
  · have := ha.sep.put (t := t.1) (by rw [List.length_map, ha.l]; exact h1) (by rw [List.length_map, ha.l]; exact h2)
    simpa using this
/-- Two trees in the kid's place. -/
theorem At.put2 (ha : At sub x es ps c L s R) (hx : Shaped x) (hl : x.leaf = false) (hh : 0 < h) {t u : List Ent × List Int} {m : Bytes} {k2 : Int} (hk2 : 0 ≤ k2 ∧ k2 ≤ 2147483647)
    (hs : ∀ k a q, (∀ m ∈ q, m ∈ pgsOf L ++ pgsOf R) → sub k a q → sub' k a q) (ht : ∀ k, x.kids[c]? = some k → sub' k t.1 t.2) (hu : sub' k2 u.1 u.2)
    (hm1 : 1 ≤ m.length) (hm2 : m.length ≤ 240) (ht0 : t.1 ≠ []) (hu0 : u.1 ≠ []) (hta : ∀ e ∈ t.1, cmpB e.1 m < 0) (hub : ∀ e ∈ u.1, 0 ≤ cmpB e.1 m)
    (h1 : ∀ k, x.keys[c]? = some k → ∀ e ∈ u.1, cmpB e.1 k < 0) (h2 : ∀ j k, j + 1 = c → x.keys[j]? = some k → ∀ e ∈ t.1, 0 ≤ cmpB e.1 k) :
    Body sub' h { x with keys := x.keys.take c ++ m :: x.keys.drop c, kids := x.kids.take (c + 1) ++ k2 :: x.kids.drop (c + 1) } (ents L ++ (t.1 ++ u.1) ++ ents R) (pgsOf L ++ (t.2 ++ u.2) ++ pgsOf R) ∧
      nsize { x with keys := x.keys.take c ++ m :: x.keys.drop c, kids := x.kids.take (c + 1) ++ k2 :: x.kids.drop (c + 1) } ≤ nsize x + 245 := by
  obtain ⟨i1, i2, i3⟩ := hx.inn hl
  have hn := ha.n
  have hL := ha.l
  have hcl : c ≤ x.keys.length := by omega
  obtain ⟨e0, he0⟩ := List.exists_mem_of_ne_nil _ ht0
  obtain ⟨e1, he1⟩ := List.exists_mem_of_ne_nil _ hu0
  refine ⟨⟨⟨key_len_ins hx.key hm1 hm2, hx.srt.ins hcl ?_ ?_, fun e => by simp [hl] at e, fun _ => ⟨i1, ?_, ?_⟩⟩, .inr ⟨hh, hl, L ++ t :: u :: R, ?_, ?_, ?_, ?_, ?_⟩⟩, ?_⟩
  · intro j k hj hk
    exact cmp_lt_of_le_lt (h2 j k hj hk e0 he0) (hta e0 he0)
  · intro k hk
    have a := hub e1 he1
    have b := h1 k hk e1 he1
    by_cases e : m = e1.1
    · rw [e]; exact b
    · exact cmp_trans _ _ _ (cmp_gt (cmp_eq (by omega) (fun e2 => e e2.symm))) b
  · simp only; rw [ins_length _ _ _ (by omega), ins_length _ _ _ hcl]; omega
  · intro k hk
    simp only at hk
    rcases List.mem_append.1 hk with e | e
    · exact i3 k (List.mem_of_mem_take e)
    · rcases List.mem_cons.1 e with e | e
      · rw [e]; exact hk2
      · exact i3 k (List.mem_of_mem_drop e)
  · simp only; rw [ins_length _ _ _ (by omega)]; simp; omega
  · intro i k v hk hv
    simp only at hk
    have hleft : ∀ u', u' ∈ L ++ R → ∀ m ∈ u'.2, m ∈ pgsOf L ++ pgsOf R := fun u' hu' m hm => by
      rcases List.mem_append.1 hu' with e | e
      · exact List.mem_append.2 (.inl (List.mem_flatten.2 ⟨u'.2, List.mem_map.2 ⟨u', e, rfl⟩, hm⟩))
      · exact List.mem_append.2 (.inr (List.mem_flatten.2 ⟨u'.2, List.mem_map.2 ⟨u', e, rfl⟩, hm⟩))
    have hlen : (x.kids.take (c + 1)).length = c + 1 := by simp; omega
    rw [mid_get, hlen] at hk
    rw [mid_get] at hv
    rcases Nat.lt_trichotomy i c with hi | hi | hi
    · rw [if_pos (by omega), List.getElem?_take, if_pos (by omega)] at hk
      rw [if_pos (by omega)] at hv
      exact hs k _ _ (hleft v (List.mem_append.2 (.inl (List.mem_of_getElem? hv)))) (ha.subs i k v hk (by rw [mid_l _ _ _ (by omega)]; exact hv))
    · subst hi
      rw [if_pos (by omega), List.getElem?_take, if_pos (by omega)] at hk
      rw [if_neg (by omega), if_pos hL.symm] at hv
      cases hv
      exact ht k hk
    · rw [if_neg (by omega)] at hk
      rw [if_neg (by omega), if_neg (by omega)] at hv
      obtain ⟨j, rfl⟩ : ∃ j, i = c + 1 + j := ⟨i - c - 1, by omega⟩
      rw [show c + 1 + j - L.length - 1 = j by omega] at hv
      cases j with
      | zero =>
        rw [if_pos (by omega)] at hk
        simp at hv hk
        rw [← hk, ← hv]; exact hu
      | succ j =>
        rw [if_neg (by omega), show c + 1 + (j + 1) - (c + 1) - 1 = j by omega, List.getElem?_drop] at hk
        simp only [List.getElem?_cons_succ] at hv
        exact hs k _ _ (hleft v (List.mem_append.2 (.inr (List.mem_of_getElem? hv)))) (ha.subs (c + 1 + j) k v hk (by
          rw [← hL]; rw [mid_r]; exact hv))
  · have hsp := ha.sep
    have e : x.keys = x.keys.take c ++ x.keys.drop c := (List.take_append_drop c x.keys).symm
    rw [e] at hsp
    have := hsp.split (m := m) (a := t.1) (b := u.1) (by simp; omega) hta hub (fun k hk => h1 k (by simpa using hk)) (fun j k hj hk => h2 j k (by simp at hj; omega) (by
      rw [List.getElem?_take] at hk
      split at hk
      · exact hk
      · simp at hk))
    simpa using this
  · simp [ents]
  · simp [pgsOf]
  · have e1 := nsize_inner x hl
    have e2 := nsize_inner { x with keys := x.keys.take c ++ m :: x.keys.drop c, kids := x.kids.take (c + 1) ++ k2 :: x.kids.drop (c + 1) } hl
    rw [e2]
    show 7 + 5 * (x.keys.take c ++ m :: x.keys.drop c).length + sumLen (x.keys.take c ++ m :: x.keys.drop c) ≤ _
    rw [sumLen_ins, ins_length _ _ _ hcl]; omega
end Go.Proofs.YtecfhfddgolpfaaGreat
