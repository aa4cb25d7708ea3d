/- The tree's plain law, first part: sorted lists of entries, separators, what a node holds. -/
import Derived.Test.YtecfhfddgolpfaaGreatNodeP
namespace Go.Proofs.YtecfhfddgolpfaaGreat

abbrev Ent := Bytes × Bytes
def ins (k v : Bytes) : List Ent → List Ent
  | [] => [(k, v)]
  | e :: r => if cmpB e.1 k < 0 then e :: ins k v r else if e.1 = k then (k, v) :: r else (k, v) :: e :: r
def look (k : Bytes) (l : List Ent) : Option Bytes := (l.find? fun e => decide (e.1 = k)).map (·.2)

theorem cmp_lt_ne {a b : Bytes} (h : cmpB a b < 0) : a ≠ b := by rintro rfl; rw [cmp_self] at h; omega
theorem cmp_gt_ne {a b : Bytes} (h : 0 < cmpB a b) : a ≠ b := by rintro rfl; rw [cmp_self] at h; omega
theorem cmp_gt {a b : Bytes} (h : 0 < cmpB a b) : cmpB b a < 0 := by rw [cmp_swap]; omega
theorem cmp_lt_gt {a b : Bytes} (h : cmpB a b < 0) : 0 < cmpB b a := by rw [cmp_swap]; omega
theorem cmp_ge_of {a b : Bytes} (h : 0 ≤ cmpB a b) : cmpB b a ≤ 0 := by rw [cmp_swap]; omega
theorem cmp_eq {a b : Bytes} (h : ¬ cmpB a b < 0) (h2 : a ≠ b) : 0 < cmpB a b := by
  have := cmp_cases a b
  have : cmpB a b ≠ 0 := fun e => h2 ((cmp_eq_zero a b).1 e)
  omega
theorem cmp_lt_of_lt_le {a b c : Bytes} (h : cmpB a b < 0) (k : 0 ≤ cmpB c b) : cmpB a c < 0 := by
  by_cases e : c = b
  · rw [e]; exact h
  · exact cmp_trans _ _ _ h (cmp_gt (cmp_eq (by omega) e))
theorem cmp_lt_of_le_lt {a b c : Bytes} (h : 0 ≤ cmpB b a) (k : cmpB b c < 0) : cmpB a c < 0 := by
  by_cases e : b = a
  · rw [← e]; exact k
  · exact cmp_trans _ _ _ (cmp_gt (cmp_eq (by omega) e)) k
theorem cmp_le_of_le_lt {a b c : Bytes} (h : 0 ≤ cmpB a b) (k : cmpB c b < 0) : 0 < cmpB a c := cmp_lt_gt (cmp_lt_of_lt_le k h)
theorem cmp_ge_trans {a b c : Bytes} (h : 0 ≤ cmpB a b) (k : 0 ≤ cmpB b c) : 0 ≤ cmpB a c := by
  by_cases e : b = c
  · rw [← e]; exact h
  · have := cmp_le_of_le_lt h (cmp_gt (cmp_eq (by omega) e)); omega

theorem ins_app_left {k v : Bytes} : ∀ (a b : List Ent), (∀ e ∈ a, cmpB e.1 k < 0) → ins k v (a ++ b) = a ++ ins k v b
  | [], b, _ => rfl
  | e :: a, b, h => by
    rw [List.cons_append, ins, if_pos (h e (by simp)), ins_app_left a b (fun x hx => h x (by simp [hx]))]; rfl
theorem ins_app_right {k v : Bytes} : ∀ (a b : List Ent), (∀ e ∈ b, 0 < cmpB e.1 k) → ins k v (a ++ b) = ins k v a ++ b
  | [], [], _ => rfl
  | [], e :: b, h => by
    have h1 := h e (by simp)
    rw [List.nil_append]
    show (if _ then _ else _) = _
    rw [if_neg (by omega), if_neg (cmp_gt_ne h1)]; rfl
  | e :: a, b, h => by
    rw [List.cons_append, ins, ins, ins_app_right a b h]
    split
    · rfl
    · split <;> rfl
theorem look_app_left {k : Bytes} {a b : List Ent} (h : ∀ e ∈ a, cmpB e.1 k < 0) : look k (a ++ b) = look k b := by
  unfold look
  rw [List.find?_append, List.find?_eq_none.2 (fun e he => by simpa using cmp_lt_ne (h e he))]
  rfl
theorem look_app_right {k : Bytes} {a b : List Ent} (h : ∀ e ∈ b, 0 < cmpB e.1 k) : look k (a ++ b) = look k a := by
  unfold look
  rw [List.find?_append, List.find?_eq_none (l := b) |>.2 (fun e he => by simpa using cmp_gt_ne (h e he))]
  simp

/-! ### a leaf -/
theorem fk_cons (a : Bytes) (ks : List Bytes) (k : Bytes) : fk (a :: ks) k = if 0 ≤ cmpB a k then 0 else fk ks k + 1 := by
  unfold fk
  rw [List.findIdx_cons]
  by_cases h : 0 ≤ cmpB a k <;> simp [h]
theorem ins_zip_hit (k v : Bytes) : ∀ (keys vals : List Bytes), vals.length = keys.length → (∃ h : fk keys k < keys.length, keys[fk keys k] = k) → ins k v (keys.zip vals) = keys.zip (vals.set (fk keys k) v)
  | [], _, _, h => by obtain ⟨h, _⟩ := h; simp at h
  | _ :: _, [], h, _ => by simp at h
  | a :: ks, b :: vs, hl, h => by
    have hl' : vs.length = ks.length := by simpa using hl
    rw [List.zip_cons_cons, ins]
    by_cases hc : 0 ≤ cmpB a k
    · have e : fk (a :: ks) k = 0 := by rw [fk_cons, if_pos hc]
      obtain ⟨h1, h2⟩ := h
      have h2 : a = k := by simpa [e] using h2
      rw [if_neg (by show ¬ cmpB a k < 0; omega), if_pos h2, e, List.set_cons_zero, List.zip_cons_cons, h2]
    · have e : fk (a :: ks) k = fk ks k + 1 := by rw [fk_cons, if_neg hc]
      obtain ⟨h1, h2⟩ := h
      have h2 : ∃ h : fk ks k < ks.length, ks[fk ks k] = k := by
        have h3 : fk ks k < ks.length := by rw [e] at h1; simpa using h1
        exact ⟨h3, by simpa [e] using h2⟩
      rw [if_pos (by show cmpB a k < 0; omega), ins_zip_hit k v ks vs hl' h2, e, List.set_cons_succ, List.zip_cons_cons]
theorem ins_zip_miss (k v : Bytes) : ∀ (keys vals : List Bytes), vals.length = keys.length → ¬ (∃ h : fk keys k < keys.length, keys[fk keys k] = k) →
    ins k v (keys.zip vals) = (keys.take (fk keys k) ++ k :: keys.drop (fk keys k)).zip (vals.take (fk keys k) ++ v :: vals.drop (fk keys k))
  | [], [], _, _ => by simp [ins, fk]
  | [], _ :: _, h, _ => by simp at h
  | _ :: _, [], h, _ => by simp at h
  | a :: ks, b :: vs, hl, h => by
    have hl' : vs.length = ks.length := by simpa using hl
    rw [List.zip_cons_cons, ins]
    by_cases hc : 0 ≤ cmpB a k
    · have e : fk (a :: ks) k = 0 := by rw [fk_cons, if_pos hc]
      have h2 : a ≠ k := fun h2 => h ⟨by rw [e]; simp, by simpa [e] using h2⟩
      rw [if_neg (by show ¬ cmpB a k < 0; omega), if_neg h2, e]
      simp
    · have e : fk (a :: ks) k = fk ks k + 1 := by rw [fk_cons, if_neg hc]
      have h2 : ¬ ∃ h : fk ks k < ks.length, ks[fk ks k] = k := fun ⟨h3, h4⟩ => h ⟨by rw [e]; simpa using h3, by simpa [e] using h4⟩
      rw [if_pos (by show cmpB a k < 0; omega), ins_zip_miss k v ks vs hl' h2, e]
      simp
theorem look_zip (k : Bytes) : ∀ (keys vals : List Bytes), vals.length = keys.length → Srt keys → look k (keys.zip vals) = if (∃ h : fk keys k < keys.length, keys[fk keys k] = k) then vals[fk keys k]? else none
  | [], [], _, _ => by simp [look]
  | [], _ :: _, h, _ => by simp at h
  | _ :: _, [], h, _ => by simp at h
  | a :: ks, b :: vs, hl, hs => by
    have hl' : vs.length = ks.length := by simpa using hl
    have ih := look_zip k ks vs hl' (List.pairwise_cons.1 hs).2
    unfold look at ih ⊢
    rw [List.zip_cons_cons, List.find?_cons]
    by_cases hc : 0 ≤ cmpB a k
    · have e : fk (a :: ks) k = 0 := by rw [fk_cons, if_pos hc]
      by_cases h2 : a = k
      · rw [if_pos ⟨by rw [e]; simp, by simpa [e] using h2⟩, e]
        simp [h2]
      · rw [if_neg (fun ⟨_, h4⟩ => h2 (by simpa [e] using h4))]
        have hz : ((ks.zip vs).find? fun e => decide (e.1 = k)) = none := by
          rw [List.find?_eq_none]
          intro e he
          have := (List.of_mem_zip (a := e.1) (b := e.2) he).1
          have h3 := (List.pairwise_cons.1 hs).1 _ this
          have h4 : 0 < cmpB a k := cmp_eq (by omega) h2
          have : cmpB k e.1 < 0 := cmp_trans _ _ _ (cmp_gt h4) h3
          simpa using fun e2 => cmp_lt_ne this e2.symm
        simp [h2, hz]
    · have e : fk (a :: ks) k = fk ks k + 1 := by rw [fk_cons, if_neg hc]
      have h2 : a ≠ k := cmp_lt_ne (by omega)
      simp only [h2, decide_false]
      rw [ih, e]
      by_cases h3 : ∃ h : fk ks k < ks.length, ks[fk ks k] = k
      · rw [if_pos h3, if_pos (by obtain ⟨h3, h4⟩ := h3; exact ⟨by simpa using h3, by simpa using h4⟩)]
        simp
      · rw [if_neg h3, if_neg (fun ⟨h4, h5⟩ => h3 ⟨by simpa using h4, by simpa using h5⟩)]

/-! ### separators -/
/-- keys part the lists: what lies in list i is below key i, what lies in list i + 1 isn't. -/
def Sep (keys : List Bytes) (ess : List (List Ent)) : Prop :=
  ∀ i k, keys[i]? = some k → (∀ es, ess[i]? = some es → ∀ e ∈ es, cmpB e.1 k < 0) ∧ (∀ es, ess[i + 1]? = some es → ∀ e ∈ es, 0 ≤ cmpB e.1 k)
theorem mid_get {α : Type} (L R : List α) (s : α) (i : Nat) : (L ++ s :: R)[i]? = if i < L.length then L[i]? else if i = L.length then some s else R[i - L.length - 1]? := by
  rw [List.getElem?_append]
  split
  · rfl
  · split
    · subst i; simp
    · obtain ⟨j, hj⟩ : ∃ j, i - L.length = j + 1 := ⟨i - L.length - 1, by omega⟩
      rw [hj]; simp
theorem mid_at {α : Type} (L R : List α) (s : α) : (L ++ s :: R)[L.length]? = some s := by rw [mid_get]; simp
theorem mid_l {α : Type} (L R : List α) (s : α) {i : Nat} (h : i < L.length) : (L ++ s :: R)[i]? = L[i]? := by rw [mid_get, if_pos h]
theorem mid_r {α : Type} (L R : List α) (s : α) (i : Nat) : (L ++ s :: R)[L.length + 1 + i]? = R[i]? := by
  rw [mid_get, if_neg (by omega), if_neg (by omega)]; congr 1; omega
/-- Another list in one place. -/
theorem Sep.put {keys : List Bytes} {L R : List (List Ent)} {s t : List Ent} (h : Sep keys (L ++ s :: R))
    (h1 : ∀ k, keys[L.length]? = some k → ∀ e ∈ t, cmpB e.1 k < 0) (h2 : ∀ j k, j + 1 = L.length → keys[j]? = some k → ∀ e ∈ t, 0 ≤ cmpB e.1 k) : Sep keys (L ++ t :: R) := by
  intro i k hk
  have := h i k hk
  constructor
  · intro es he
    by_cases hi : i = L.length
    · subst hi; rw [mid_at] at he; cases he; exact h1 k hk
    · refine this.1 es ?_
      rw [mid_get] at he ⊢; simpa [hi] using he
  · intro es he
    by_cases hi : i + 1 = L.length
    · rw [hi, mid_at] at he; cases he; exact h2 i k hi hk
    · refine this.2 es ?_
      rw [mid_get] at he ⊢; simpa [hi] using he
/-- One list becomes two. -/
theorem Sep.split {KL KR : List Bytes} {L R : List (List Ent)} {s a b : List Ent} {m : Bytes} (h : Sep (KL ++ KR) (L ++ s :: R)) (hL : KL.length = L.length)
    (ha : ∀ e ∈ a, cmpB e.1 m < 0) (hb : ∀ e ∈ b, 0 ≤ cmpB e.1 m)
    (h1 : ∀ k, KR[0]? = some k → ∀ e ∈ b, cmpB e.1 k < 0) (h2 : ∀ j k, j + 1 = KL.length → KL[j]? = some k → ∀ e ∈ a, 0 ≤ cmpB e.1 k) : Sep (KL ++ m :: KR) (L ++ a :: b :: R) := by
  intro i k hk
  rcases Nat.lt_trichotomy i KL.length with hi | hi | hi
  · rw [mid_l _ _ _ hi] at hk
    have := h i k (by rw [List.getElem?_append_left hi]; exact hk)
    constructor
    · intro es he
      refine this.1 es ?_
      rw [mid_l _ _ _ (by omega)] at he ⊢; exact he
    · intro es he
      by_cases hi2 : i + 1 = L.length
      · rw [hi2, mid_at] at he; cases he; exact h2 i k (by omega) hk
      · refine this.2 es ?_
        rw [mid_l _ _ _ (by omega)] at he ⊢; exact he
  · subst hi
    rw [mid_at] at hk
    cases hk
    constructor
    · intro es he; rw [hL, mid_at] at he; cases he; exact ha
    · intro es he
      have e : KL.length + 1 = L.length + 1 + 0 := by omega
      rw [e, mid_r] at he
      simp at he; subst he; exact hb
  · obtain ⟨j, rfl⟩ : ∃ j, i = KL.length + 1 + j := ⟨i - KL.length - 1, by omega⟩
    rw [mid_r] at hk
    have := h (KL.length + j) k (by rw [List.getElem?_append_right (by omega)]; rw [← hk]; congr 1; omega)
    constructor
    · intro es he
      rw [hL, mid_r] at he
      cases j with
      | zero => simp at he; subst he; exact h1 k hk
      | succ j =>
        refine this.1 es ?_
        have e : KL.length + (j + 1) = L.length + 1 + j := by omega
        rw [e, mid_r]
        simpa using he
    · intro es he
      have e : KL.length + 1 + j + 1 = L.length + 1 + (j + 1) := by omega
      rw [e, mid_r] at he
      refine this.2 es ?_
      have e : KL.length + j + 1 = L.length + 1 + j := by omega
      rw [e, mid_r]
      simpa using he
theorem Sep.take {keys : List Bytes} {ess : List (List Ent)} (h : Sep keys ess) (k : Nat) : Sep (keys.take k) (ess.take (k + 1)) := by
  intro i x hx
  rw [List.getElem?_take] at hx
  split at hx
  · have := h i x hx
    constructor
    · intro es he
      rw [List.getElem?_take, if_pos (by omega)] at he
      exact this.1 es he
    · intro es he
      rw [List.getElem?_take, if_pos (by omega)] at he
      exact this.2 es he
  · simp at hx
theorem Sep.drop {keys : List Bytes} {ess : List (List Ent)} (h : Sep keys ess) (k : Nat) : Sep (keys.drop k) (ess.drop k) := by
  intro i x hx
  rw [List.getElem?_drop] at hx
  have := h _ x hx
  constructor
  · intro es he
    rw [List.getElem?_drop] at he
    exact this.1 es he
  · intro es he
    rw [List.getElem?_drop] at he
    exact this.2 es (by rw [← he]; congr 1)
theorem Srt.get? {ks : List Bytes} (h : Srt ks) {i j : Nat} {a b : Bytes} (hij : i < j) (ha : ks[i]? = some a) (hb : ks[j]? = some b) : cmpB a b < 0 := by
  obtain ⟨h1, rfl⟩ := List.getElem?_eq_some_iff.1 ha
  obtain ⟨h2, rfl⟩ := List.getElem?_eq_some_iff.1 hb
  exact h.get hij h2
/-- What lies ahead of a separator is below it. -/
theorem Sep.below {keys : List Bytes} {ess : List (List Ent)} (h : Sep keys ess) (hs : Srt keys) {k : Nat} {m : Bytes} (hm : keys[k]? = some m) : ∀ e ∈ (ess.take (k + 1)).flatten, cmpB e.1 m < 0 := by
  intro e he
  obtain ⟨es, h1, h2⟩ := List.mem_flatten.1 he
  obtain ⟨i, hi⟩ := List.getElem?_of_mem h1
  rw [List.getElem?_take] at hi
  split at hi
  · have hk : k < keys.length := (List.getElem?_eq_some_iff.1 hm).1
    have h3 := (h i keys[i] (List.getElem?_eq_getElem (by omega))).1 es hi e h2
    by_cases hik : i = k
    · subst hik
      rw [List.getElem?_eq_getElem hk] at hm; cases hm; exact h3
    · exact cmp_trans _ _ _ h3 (hs.get? (by omega) (List.getElem?_eq_getElem (by omega)) hm)
  · simp at hi
/-- .. and what lies behind it isn't. -/
theorem Sep.above {keys : List Bytes} {ess : List (List Ent)} (h : Sep keys ess) (hs : Srt keys) (hl : ess.length ≤ keys.length + 1) {k : Nat} {m : Bytes} (hm : keys[k]? = some m) : ∀ e ∈ (ess.drop (k + 1)).flatten, 0 ≤ cmpB e.1 m := by
  intro e he
  obtain ⟨es, h1, h2⟩ := List.mem_flatten.1 he
  obtain ⟨i, hi⟩ := List.getElem?_of_mem h1
  rw [List.getElem?_drop] at hi
  have hle := (List.getElem?_eq_some_iff.1 hi).1
  have h3 := (h (k + i) (keys[k + i]'(by omega)) (List.getElem?_eq_getElem (by omega))).2 es (by rw [← hi]; congr 1; omega) e h2
  by_cases hik : i = 0
  · subst hik
    rw [List.getElem?_eq_getElem (show k < keys.length by omega)] at hm; cases hm; exact h3
  · have := hs.get? (show k < k + i by omega) hm (List.getElem?_eq_getElem (show k + i < keys.length by omega))
    have := cmp_le_of_le_lt h3 this
    omega
/-- The kid that holds a key. -/
def kidx (keys : List Bytes) (key : Bytes) : Nat := if (∃ h : fk keys key < keys.length, keys[fk keys key] = key) then fk keys key + 1 else fk keys key
theorem kidx_le (keys : List Bytes) (key : Bytes) : kidx keys key ≤ keys.length := by
  unfold kidx
  have := fk_le keys key
  split
  · rename_i h; obtain ⟨h, _⟩ := h; omega
  · exact this
theorem kidx_low {keys : List Bytes} {key : Bytes} {j : Nat} {k : Bytes} (hj : j < kidx keys key) (hk : keys[j]? = some k) : 0 ≤ cmpB key k := by
  obtain ⟨h1, rfl⟩ := List.getElem?_eq_some_iff.1 hk
  unfold kidx at hj
  split at hj
  · rename_i h
    obtain ⟨h2, h3⟩ := h
    by_cases e : j = fk keys key
    · have h4 : keys[j] = key := by simp only [e]; exact h3
      rw [h4, cmp_self]; omega
    · have := cmp_lt_gt (fk_lt (ks := keys) (key := key) (show j < fk keys key by omega)); omega
  · have := cmp_lt_gt (fk_lt (ks := keys) (key := key) hj); omega
theorem kidx_high {keys : List Bytes} (hs : Srt keys) {key : Bytes} {j : Nat} {k : Bytes} (hj : kidx keys key ≤ j) (hk : keys[j]? = some k) : cmpB key k < 0 := by
  obtain ⟨h1, rfl⟩ := List.getElem?_eq_some_iff.1 hk
  unfold kidx at hj
  split at hj
  · rename_i h
    obtain ⟨h2, h3⟩ := h
    have := hs.get (show fk keys key < j by omega) h1
    rw [h3] at this; exact this
  · rename_i h
    have h2 : fk keys key < keys.length := by omega
    have h3 := fk_ge h2
    have h4 : 0 < cmpB keys[fk keys key] key := cmp_eq (by omega) (fun e => h ⟨h2, e⟩)
    by_cases e : j = fk keys key
    · simp only [e]; exact cmp_gt h4
    · exact cmp_trans _ _ _ (cmp_gt h4) (hs.get (show fk keys key < j by omega) h1)
/-- What lies in the lists ahead of the key's one is below the key. -/
theorem Sep.kid_low {keys : List Bytes} {L R : List (List Ent)} {s : List Ent} (h : Sep keys (L ++ s :: R)) {key : Bytes} (hL : L.length = kidx keys key) : ∀ e ∈ L.flatten, cmpB e.1 key < 0 := by
  intro e he
  obtain ⟨es, h1, h2⟩ := List.mem_flatten.1 he
  obtain ⟨i, hi⟩ := List.getElem?_of_mem h1
  have hi2 := (List.getElem?_eq_some_iff.1 hi).1
  have := kidx_le keys key
  have hk : keys[i]? = some (keys[i]'(by omega)) := List.getElem?_eq_getElem (by omega)
  have h3 := (h i _ hk).1 es (by rw [mid_l _ _ _ hi2]; exact hi) e h2
  exact cmp_lt_of_lt_le h3 (kidx_low (by omega) hk)
theorem Sep.kid_high {keys : List Bytes} {L R : List (List Ent)} {s : List Ent} (h : Sep keys (L ++ s :: R)) (hs : Srt keys) {key : Bytes} (hL : L.length = kidx keys key) (hl : (L ++ s :: R).length ≤ keys.length + 1) : ∀ e ∈ R.flatten, 0 < cmpB e.1 key := by
  intro e he
  obtain ⟨es, h1, h2⟩ := List.mem_flatten.1 he
  obtain ⟨i, hi⟩ := List.getElem?_of_mem h1
  have hi2 := (List.getElem?_eq_some_iff.1 hi).1
  have hlen : L.length + i < keys.length := by simp at hl; omega
  have hk : keys[L.length + i]? = some keys[L.length + i] := List.getElem?_eq_getElem hlen
  have h3 := (h _ _ hk).2 es (by rw [show L.length + i + 1 = L.length + 1 + i by omega, mid_r]; exact hi) e h2
  exact cmp_le_of_le_lt h3 (kidx_high hs (by omega) hk)
end Go.Proofs.YtecfhfddgolpfaaGreat
