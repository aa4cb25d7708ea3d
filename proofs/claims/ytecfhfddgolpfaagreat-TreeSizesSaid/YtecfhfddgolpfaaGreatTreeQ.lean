/- The tree's plain law, second part: sizes, what lies under a page, how pages change. -/
import Derived.Test.YtecfhfddgolpfaaGreatTreeP
import Derived.Test.YtecfhfddgolpfaaGreatPagesJ
namespace Go.Proofs.YtecfhfddgolpfaaGreat

/-! ### sizes -/
def sumLen (l : List Bytes) : Nat := (l.map List.length).sum
@[simp] theorem sumLen_nil : sumLen [] = 0 := rfl
@[simp] theorem sumLen_cons (a : Bytes) (l : List Bytes) : sumLen (a :: l) = a.length + sumLen l := by simp [sumLen]
@[simp] theorem sumLen_append (a b : List Bytes) : sumLen (a ++ b) = sumLen a + sumLen b := by simp [sumLen]
theorem sumLen_split (l : List Bytes) (k : Nat) : sumLen (l.take k) + sumLen (l.drop k) = sumLen l := by
  rw [← sumLen_append, List.take_append_drop]
theorem sumLen_succ (l : List Bytes) (k : Nat) (h : k < l.length) : sumLen (l.take (k + 1)) = sumLen (l.take k) + l[k].length := by
  rw [List.take_succ_eq_append_getElem h, sumLen_append, sumLen_cons, sumLen_nil, Nat.add_zero]
theorem szTo_leaf (x : Nd) (hl : x.leaf = true) (hv : x.vals.length = x.keys.length) : ∀ k, k ≤ x.keys.length → szTo x k = 3 + 3 * k + sumLen (x.keys.take k) + sumLen (x.vals.take k)
  | 0, _ => by simp [szTo, hl]
  | k + 1, h => by
    rw [szTo, szTo_leaf x hl hv k (by omega), esz, if_pos hl, sumLen_succ _ _ (by omega), sumLen_succ _ _ (by omega)]
    rw [List.getD_eq_getElem?_getD, List.getD_eq_getElem?_getD, List.getElem?_eq_getElem (by omega), List.getElem?_eq_getElem (by omega)]
    simp only [Option.getD_some]; omega
theorem szTo_inner (x : Nd) (hl : x.leaf = false) : ∀ k, k ≤ x.keys.length → szTo x k = 7 + 5 * k + sumLen (x.keys.take k)
  | 0, _ => by simp [szTo, hl]
  | k + 1, h => by
    rw [szTo, szTo_inner x hl k (by omega), esz, if_neg (by simp [hl]), sumLen_succ _ _ (by omega)]
    rw [List.getD_eq_getElem?_getD, List.getElem?_eq_getElem (by omega)]
    simp only [Option.getD_some]; omega
theorem nsize_leaf (x : Nd) (hl : x.leaf = true) (hv : x.vals.length = x.keys.length) : nsize x = 3 + 3 * x.keys.length + sumLen x.keys + sumLen x.vals := by
  rw [nsize, szTo_leaf x hl hv _ (Nat.le_refl _), List.take_length, ← hv, List.take_length]
theorem nsize_inner (x : Nd) (hl : x.leaf = false) : nsize x = 7 + 5 * x.keys.length + sumLen x.keys := by
  rw [nsize, szTo_inner x hl _ (Nat.le_refl _), List.take_length]
theorem sumLen_ge (l : List Bytes) (h : ∀ (i : Nat) (h : i < l.length), 1 ≤ l[i].length) : l.length ≤ sumLen l := by
  induction l with
  | nil => simp
  | cons a l ih =>
    have h0 := h 0 (by simp)
    have := ih (fun i hi => by have := h (i + 1) (by simpa using hi); simpa using this)
    simp at h0 ⊢; omega
theorem sumLen_mem (l : List Bytes) (a : Bytes) (h : a ∈ l) : a.length ≤ sumLen l := by
  induction l with
  | nil => simp at h
  | cons b l ih =>
    rcases List.mem_cons.1 h with rfl | h
    · simp
    · have := ih h; simp; omega
theorem Shaped.count {x : Nd} (hx : Shaped x) : 4 * x.keys.length + 3 ≤ nsize x := by
  have h1 := sumLen_ge x.keys (fun i hi => (hx.key i hi).1)
  cases hl : x.leaf with
  | true => rw [nsize_leaf x hl (hx.leafv hl).1]; omega
  | false => rw [nsize_inner x hl]; omega
theorem Shaped.small {x : Nd} (hx : Shaped x) (hn : nsize x ≤ 4000) : Small x := by
  have hc := hx.count
  have hk : ∀ i, (x.keys.getD i []).length ≤ 4000 := fun i => by
    rw [List.getD_eq_getElem?_getD]
    rcases Nat.lt_or_ge i x.keys.length with h | h
    · rw [List.getElem?_eq_getElem h]; have := (hx.key i h).2; simp; omega
    · rw [List.getElem?_eq_none h]; simp
  cases hl : x.leaf with
  | true =>
    obtain ⟨a, b, c⟩ := hx.leafv hl
    refine ⟨by omega, hk, fun i => ?_, by omega, by rw [b]; simp⟩
    rw [List.getD_eq_getElem?_getD]
    rcases Nat.lt_or_ge i x.vals.length with h | h
    · rw [List.getElem?_eq_getElem h]; have := c _ (List.getElem_mem h); simp; omega
    · rw [List.getElem?_eq_none h]; simp
  | false =>
    obtain ⟨a, b, c⟩ := hx.inn hl
    exact ⟨by omega, hk, fun i => by rw [a]; simp, by rw [a]; simp, by omega⟩

/-! ### what lies under a page -/
/-- A node's entries and the pages below it; its kids hold what 'sub' says; height h: that of the kids. -/
def Body (sub : Int → List Ent → List Int → Prop) (h : Nat) (x : Nd) (es : List Ent) (ps : List Int) : Prop :=
  Shaped x ∧ ((h = 0 ∧ x.leaf = true ∧ es = x.keys.zip x.vals ∧ ps = []) ∨
    (0 < h ∧ x.leaf = false ∧ ∃ ss : List (List Ent × List Int), ss.length = x.kids.length ∧ (∀ (i : Nat) (k : Int) (s : List Ent × List Int), x.kids[i]? = some k → ss[i]? = some s → sub k s.1 s.2) ∧ Sep x.keys (ss.map Prod.fst) ∧ es = (ss.map Prod.fst).flatten ∧ ps = (ss.map Prod.snd).flatten))
/-- The tree of height h under page n: its entries, its pages. -/
def Tree (C : Int → Bytes) : Nat → Int → List Ent → List Int → Prop
  | 0, _, _, _ => False
  | h + 1, n, es, ps => ∃ x ps0, x.keys ≠ [] ∧ C n = page x ∧ nsize x ≤ 1024 ∧ Body (Tree C h) h x es ps0 ∧ ps = n :: ps0
theorem Body.imp {sub sub' : Int → List Ent → List Int → Prop} {h : Nat} {x : Nd} {es : List Ent} {ps : List Int} (hb : Body sub h x es ps) (hs : ∀ k e q, (∀ m ∈ q, m ∈ ps) → sub k e q → sub' k e q) : Body sub' h x es ps := by
  obtain ⟨h1, h2⟩ := hb
  refine ⟨h1, h2.imp id ?_⟩
  rintro ⟨a, b, ss, c, d, e, f, g⟩
  refine ⟨a, b, ss, c, fun i k s hk hs2 => hs k s.1 s.2 (fun m hm => ?_) (d i k s hk hs2), e, f, g⟩
  rw [g]
  exact List.mem_flatten.2 ⟨s.2, List.mem_map.2 ⟨s, List.mem_of_getElem? hs2, rfl⟩, hm⟩
theorem Tree.keep {C C' : Int → Bytes} : ∀ {h : Nat} {n : Int} {es : List Ent} {ps : List Int}, Tree C h n es ps → (∀ m ∈ ps, C' m = C m) → Tree C' h n es ps
  | 0, _, _, _, ht, _ => ht
  | h + 1, n, es, ps, ht, hC => by
    obtain ⟨x, ps0, h1, h2, h3, h4, rfl⟩ := ht
    exact ⟨x, ps0, h1, by rw [hC n (by simp)]; exact h2, h3, h4.imp (fun k e q hq hk => hk.keep (fun m hm => hC m (by simp [hq m hm]))), rfl⟩
theorem Tree.pos {C : Int → Bytes} {h : Nat} {n : Int} {es : List Ent} {ps : List Int} (ht : Tree C h n es ps) : 0 < h := by
  cases h with
  | zero => exact ht.elim
  | succ h => omega
theorem Tree.mem {C : Int → Bytes} {h : Nat} {n : Int} {es : List Ent} {ps : List Int} (ht : Tree C h n es ps) : n ∈ ps := by
  cases h with
  | zero => exact ht.elim
  | succ h => obtain ⟨x, ps0, -, -, -, -, rfl⟩ := ht; simp

/-! ### how pages change -/
/-- The pages ps have become ps'; no other page that was used has turned. -/
structure Chg (σ : List Int) (C : Int → Bytes) (ps : List Int) (σ' : List Int) (C' : Int → Bytes) (ps' : List Int) : Prop where
  len : σ'.length = σ.length
  st : ∀ m, m ∉ ps → m ∉ ps' → stOf σ' m = stOf σ m
  off : ∀ m ∈ ps, m ∉ ps' → stOf σ' m = 0
  on : ∀ m ∈ ps', stOf σ' m = 2
  new : ∀ m ∈ ps', m ∉ ps → stOf σ m = 0
  nd : ps'.Nodup
  keep : ∀ m, stOf σ m = 2 → m ∉ ps → C' m = C m
  room : roomOf σ' + ps'.length = roomOf σ + ps.length
/-- Pages of one's own. -/
structure Own2 (σ : List Int) (ps : List Int) : Prop where
  nd : ps.Nodup
  on : ∀ m ∈ ps, stOf σ m = 2
theorem Chg.own {σ σ' : List Int} {C C' : Int → Bytes} {ps ps' : List Int} (h : Chg σ C ps σ' C' ps') : Own2 σ' ps' := ⟨h.nd, h.on⟩
theorem Chg.refl {σ : List Int} {C : Int → Bytes} {ps : List Int} (h : Own2 σ ps) : Chg σ C ps σ C ps :=
  ⟨rfl, fun _ _ _ => rfl, fun _ a b => absurd a b, h.on, fun _ a b => absurd a b, h.nd, fun _ _ _ => rfl, rfl⟩
theorem Chg.trans {σ σ' σ2 : List Int} {C C' C2 : Int → Bytes} {ps ps' ps2 : List Int} (h : Chg σ C ps σ' C' ps') (k : Chg σ' C' ps' σ2 C2 ps2) : Chg σ C ps σ2 C2 ps2 := by
  refine ⟨k.len.trans h.len, fun m h1 h2 => ?_, fun m h1 h2 => ?_, k.on, fun m h1 h2 => ?_, k.nd, fun m h1 h2 => ?_, by have := h.room; have := k.room; omega⟩
  · by_cases hm : m ∈ ps'
    · rw [k.off m hm h2, h.new m hm h1]
    · rw [k.st m hm h2, h.st m h1 hm]
  · by_cases hm : m ∈ ps'
    · exact k.off m hm h2
    · rw [k.st m hm h2]; exact h.off m h1 hm
  · by_cases hm : m ∈ ps'
    · exact h.new m hm h2
    · rw [← h.st m h2 hm]; exact k.new m h1 hm
  · have hm : m ∉ ps' := fun e => by rw [h.new m e h2] at h1; omega
    rw [k.keep m (by rw [h.st m h2 hm]; exact h1) hm, h.keep m h1 h2]
theorem Chg.frame {σ σ' : List Int} {C C' : Int → Bytes} {ps ps' Q : List Int} (h : Chg σ C ps σ' C' ps') (hQ : Own2 σ Q) (hd : ∀ m ∈ Q, m ∉ ps) : Chg σ C (Q ++ ps) σ' C' (Q ++ ps') := by
  have hd' : ∀ m ∈ Q, m ∉ ps' := fun m hm e => by have := h.new m e (hd m hm); rw [hQ.on m hm] at this; omega
  refine ⟨h.len, fun m h1 h2 => ?_, fun m h1 h2 => ?_, fun m h1 => ?_, fun m h1 h2 => ?_, ?_, fun m h1 h2 => ?_, by have := h.room; simp; omega⟩
  · simp at h1 h2; exact h.st m h1.2 h2.2
  · simp at h1 h2
    exact h.off m (h1.resolve_left h2.1) h2.2
  · rcases List.mem_append.1 h1 with e | e
    · rw [h.st m (hd m e) (hd' m e)]; exact hQ.on m e
    · exact h.on m e
  · simp at h1 h2; exact h.new m (h1.resolve_left h2.1) h2.2
  · exact List.nodup_append.2 ⟨hQ.nd, h.nd, fun a ha b hb e => hd' a ha (e ▸ hb)⟩
  · simp at h2; exact h.keep m h1 h2.2
theorem Chg.perm {σ σ' : List Int} {C C' : Int → Bytes} {ps ps' qs qs' : List Int} (h : Chg σ C ps σ' C' ps') (h1 : ps.Perm qs) (h2 : ps'.Perm qs') : Chg σ C qs σ' C' qs' :=
  ⟨h.len, fun m a b => h.st m (fun e => a (h1.mem_iff.1 e)) (fun e => b (h2.mem_iff.1 e)), fun m a b => h.off m (h1.mem_iff.2 a) (fun e => b (h2.mem_iff.1 e)), fun m a => h.on m (h2.mem_iff.2 a), fun m a b => h.new m (h2.mem_iff.2 a) (fun e => b (h1.mem_iff.1 e)), h2.nodup_iff.1 h.nd,
    fun m a b => h.keep m a (fun e => b (h1.mem_iff.1 e)), by rw [← h1.length_eq, ← h2.length_eq]; exact h.room⟩
theorem Own2.perm {σ ps qs : List Int} (h : Own2 σ ps) (hp : ps.Perm qs) : Own2 σ qs := ⟨hp.nodup_iff.1 h.nd, fun m hm => h.on m (hp.mem_iff.2 hm)⟩
theorem Own2.left {σ a b : List Int} (h : Own2 σ (a ++ b)) : Own2 σ a := ⟨(List.nodup_append.1 h.nd).1, fun m hm => h.on m (by simp [hm])⟩
theorem Own2.right {σ a b : List Int} (h : Own2 σ (a ++ b)) : Own2 σ b := ⟨(List.nodup_append.1 h.nd).2.1, fun m hm => h.on m (by simp [hm])⟩
theorem Own2.apart {σ a b : List Int} (h : Own2 σ (a ++ b)) : ∀ m ∈ a, m ∉ b := fun m hm hb => (List.nodup_append.1 h.nd).2.2 m hm m hb rfl
theorem chg_put {σ : List Int} {C : Int → Bytes} {k : Int} (B : Bytes) (hk : stOf σ k = 2) : Chg σ C [k] σ (fun j => if j = k then B else C j) [k] :=
  ⟨rfl, fun _ _ _ => rfl, fun _ a b => absurd a b, fun m hm => by simp at hm; rw [hm]; exact hk, fun _ a b => absurd a b, by simp, fun m _ hm => by simp at hm; simp [hm], rfl⟩
theorem roomOf_set {σ : List Int} {n : Nat} (hn : n < σ.length) (s : Int) : roomOf (σ.set n s) + (if stOf σ n = 0 then 1 else 0) = roomOf σ + if s = 0 then 1 else 0 := by
  unfold roomOf
  rw [List.countP_set hn, stOf_nat σ n hn]
  have hpos : (if (σ[n] == 0) = true then 1 else 0) ≤ σ.countP (· == 0) := by
    split
    · rename_i h
      exact List.countP_pos_iff.2 ⟨σ[n], List.getElem_mem hn, h⟩
    · omega
  generalize σ.countP (· == 0) = c at *
  by_cases h : σ[n] = 0 <;> by_cases h2 : s = 0 <;> simp [h, h2] at hpos ⊢ <;> omega
theorem chg_alloc {σ : List Int} {C C' : Int → Bytes} {n : Nat} (hn : idxI σ 0 = n) (hC : ∀ m, m ≠ (n : Int) → C' m = C m) : Chg σ C [] (σ.set n 2) C' [(n : Int)] := by
  obtain ⟨h1, h2⟩ := idx_spec hn
  refine ⟨by simp, fun m _ hm => ?_, fun m hm => by simp at hm, fun m hm => ?_, fun m hm _ => ?_, by simp, fun m hm _ => hC m (fun e => by rw [e] at hm; omega), ?_⟩
  · rw [stOf_set h1, if_neg (by simpa using hm)]
  · simp at hm; rw [stOf_set h1, if_pos hm]
  · simp at hm; rw [hm]; exact h2
  · have := roomOf_set h1 2
    rw [if_pos h2] at this
    simp at this ⊢; omega
theorem chg_free {σ : List Int} {C : Int → Bytes} {n : Nat} (hn : stOf σ n = 2) : Chg σ C [(n : Int)] (σ.set n 0) C [] := by
  have h1 : n < σ.length := by have := stOf_range (σ := σ) (k := n) (by omega); omega
  refine ⟨by simp, fun m hm _ => ?_, fun m hm _ => ?_, fun m hm => by simp at hm, fun m hm => by simp at hm, by simp, fun _ _ _ => rfl, ?_⟩
  · rw [stOf_set h1, if_neg (by simpa using hm)]
  · simp at hm; rw [stOf_set h1, if_pos hm]
  · have := roomOf_set h1 0
    rw [if_neg (by omega)] at this
    simp at this ⊢; omega
theorem room_idx {σ : List Int} (h : 1 ≤ roomOf σ) : ∃ n : Nat, idxI σ 0 = n := by
  unfold roomOf at h
  obtain ⟨a, ha, hz⟩ := List.countP_pos_iff.1 h
  unfold idxI
  cases hf : σ.findIdx? (· == 0) with
  | some k => exact ⟨k, rfl⟩
  | none =>
    have := List.findIdx?_eq_none_iff.1 hf a ha
    rw [hz] at this; simp at this
end Go.Proofs.YtecfhfddgolpfaaGreat
