/- The plain law of node.Split: a part that fits is found. -/
import Derived.Test.YtecfhfddgolpfaaGreatNodeL
namespace Go.Proofs.YtecfhfddgolpfaaGreat
open Go.RowKit

theorem szTo_mono (x : Nd) : ∀ d k, szTo x k ≤ szTo x (k + d)
  | 0, k => Nat.le_refl _
  | d + 1, k => by have := szTo_mono x d k; show _ ≤ szTo x (k + d) + esz x (k + d); omega
/-- Sums of entries that reach the half are met within one entry. -/
theorem half_meet (x : Nd) (M H : Nat) (h0 : szTo x 0 ≤ H) (hM : ∀ i, i < x.keys.length → esz x i ≤ M) : ∀ n, n ≤ x.keys.length → H < szTo x n → ∃ k, 1 ≤ k ∧ k ≤ n ∧ H < szTo x k ∧ szTo x k ≤ H + M ∧ szTo x (k - 1) ≤ H
  | 0, _, h => by omega
  | n + 1, hn, h => by
    by_cases hh : H < szTo x n
    · obtain ⟨k, h1, h2, h3⟩ := half_meet x M H h0 hM n (by omega) hh
      exact ⟨k, h1, by omega, h3⟩
    · refine ⟨n + 1, by omega, Nat.le_refl _, h, ?_, by simpa using hh⟩
      have := hM n (by omega)
      show szTo x n + esz x n ≤ _
      omega
theorem szTo_fst_leaf (x : Nd) (k : Nat) (hl : x.leaf = true) : ∀ n, n ≤ k → szTo (fstN x k) n = szTo x n
  | 0, _ => by simp [szTo, fstN, hl]
  | n + 1, h => by
    have ih := szTo_fst_leaf x k hl n (by omega)
    show szTo (fstN x k) n + esz (fstN x k) n = szTo x n + esz x n
    have e : esz (fstN x k) n = esz x n := by
      have hn : n < k := by omega
      simp [esz, fstN, hl, hn]
    omega
theorem nsize_fst_leaf (x : Nd) (k : Nat) (hl : x.leaf = true) (hk : k ≤ x.keys.length) : nsize (fstN x k) = szTo x k := by
  have e : (fstN x k).keys.length = k := by simp [fstN, hl]; omega
  unfold nsize
  rw [e]
  exact szTo_fst_leaf x k hl k (Nat.le_refl _)
theorem szTo_snd_leaf (x : Nd) (k : Nat) (hl : x.leaf = true) : ∀ n, szTo (sndN x k) n + szTo x k = szTo x (k + n) + 3
  | 0 => by simp [szTo, sndN, hl]; omega
  | n + 1 => by
    have ih := szTo_snd_leaf x k hl n
    show szTo (sndN x k) n + esz (sndN x k) n + _ = szTo x (k + n) + esz x (k + n) + 3
    have e : esz (sndN x k) n = esz x (k + n) := by simp [esz, sndN, hl, List.getElem?_drop]
    omega
theorem nsize_snd_leaf (x : Nd) (k : Nat) (hl : x.leaf = true) (hk : k ≤ x.keys.length) : nsize (sndN x k) + szTo x k = nsize x + 3 := by
  have e : (sndN x k).keys.length = x.keys.length - k := by simp [sndN, hl]
  unfold nsize
  rw [e]
  have := szTo_snd_leaf x k hl (x.keys.length - k)
  rw [show k + (x.keys.length - k) = x.keys.length by omega] at this
  exact this
theorem szTo_fst_inner (x : Nd) (k : Nat) (hl : x.leaf = false) : ∀ n, n ≤ k → szTo (fstN x k) n = szTo x n
  | 0, _ => by simp [szTo, fstN, hl]
  | n + 1, h => by
    have ih := szTo_fst_inner x k hl n (by omega)
    show szTo (fstN x k) n + esz (fstN x k) n = szTo x n + esz x n
    have e : esz (fstN x k) n = esz x n := by
      have hn : n < k := by omega
      simp [esz, fstN, hl, hn]
    omega
theorem nsize_fst_inner (x : Nd) (k : Nat) (hl : x.leaf = false) (hk : k ≤ x.keys.length) : nsize (fstN x k) = szTo x k := by
  have e : (fstN x k).keys.length = k := by simp [fstN, hl]; omega
  unfold nsize
  rw [e]
  exact szTo_fst_inner x k hl k (Nat.le_refl _)
theorem szTo_snd_inner (x : Nd) (k : Nat) (hl : x.leaf = false) : ∀ n, szTo (sndN x k) n + szTo x (k + 1) = szTo x (k + 1 + n) + 7
  | 0 => by simp [szTo, sndN, hl]; omega
  | n + 1 => by
    have ih := szTo_snd_inner x k hl n
    show szTo (sndN x k) n + esz (sndN x k) n + _ = szTo x (k + 1 + n) + esz x (k + 1 + n) + 7
    have e : esz (sndN x k) n = esz x (k + 1 + n) := by simp [esz, sndN, hl, List.getElem?_drop]
    omega
theorem nsize_snd_inner (x : Nd) (k : Nat) (hl : x.leaf = false) (hk : k + 1 ≤ x.keys.length) : nsize (sndN x k) + szTo x (k + 1) = nsize x + 7 := by
  have e : (sndN x k).keys.length = x.keys.length - (k + 1) := by simp [sndN, hl]
  unfold nsize
  rw [e]
  have := szTo_snd_inner x k hl (x.keys.length - (k + 1))
  rw [show k + 1 + (x.keys.length - (k + 1)) = x.keys.length by omega] at this
  exact this
/-- A part fits: an overfull leaf. -/
theorem fits_leaf (x : Nd) (hl : x.leaf = true) (hM : ∀ i, i < x.keys.length → esz x i ≤ 503) (h1 : 1024 < nsize x) (h2 : nsize x ≤ 1527) :
    ∃ k, 1 ≤ k ∧ k ≤ x.keys.length - 1 ∧ nsize (fstN x k) ≤ 1024 ∧ nsize (sndN x k) ≤ 1024 := by
  have h0 : szTo x 0 = 3 := by simp [szTo, hl]
  have hn : nsize x = szTo x x.keys.length := rfl
  obtain ⟨k, k1, k2, k3, k4, k5⟩ := half_meet x 503 763 (by omega) hM x.keys.length (Nat.le_refl _) (by omega)
  by_cases hk : szTo x k ≤ 1024
  · have hkn : k ≠ x.keys.length := fun e => by rw [e] at hk; omega
    have a := nsize_fst_leaf x k hl k2
    have b := nsize_snd_leaf x k hl k2
    exact ⟨k, k1, by omega, by omega, by omega⟩
  · obtain ⟨j, rfl⟩ : ∃ j, k = j + 1 := ⟨k - 1, by omega⟩
    have e : szTo x (j + 1) = szTo x j + esz x j := rfl
    rw [Nat.add_sub_cancel] at k5
    have m := hM j (by omega)
    have hj : j ≠ 0 := fun e2 => by subst e2; omega
    have a := nsize_fst_leaf x j hl (by omega)
    have b := nsize_snd_leaf x j hl (by omega)
    exact ⟨j, by omega, by omega, by omega, by omega⟩
/-- .. and an overfull inner node. -/
theorem fits_inner (x : Nd) (hl : x.leaf = false) (hM : ∀ i, i < x.keys.length → esz x i ≤ 245) (h1 : 1024 < nsize x) (h2 : nsize x ≤ 1269) :
    ∃ k, 1 ≤ k ∧ k ≤ x.keys.length - 2 ∧ nsize (fstN x k) ≤ 1024 ∧ nsize (sndN x k) ≤ 1024 := by
  have h0 : szTo x 0 = 7 := by simp [szTo, hl]
  have hn : nsize x = szTo x x.keys.length := rfl
  obtain ⟨k, k1, k2, k3, k4, k5⟩ := half_meet x 245 600 (by omega) hM x.keys.length (Nat.le_refl _) (by omega)
  have hkn : k ≠ x.keys.length := fun e => by rw [e] at k4; omega
  by_cases hk : k + 1 = x.keys.length
  · obtain ⟨j, rfl⟩ : ∃ j, k = j + 1 := ⟨k - 1, by omega⟩
    have e : szTo x (j + 1) = szTo x j + esz x j := rfl
    have e2 : szTo x (j + 1 + 1) = szTo x (j + 1) + esz x (j + 1) := rfl
    rw [hk] at e2
    have m := hM j (by omega)
    have m2 := hM (j + 1) (by omega)
    have hj : j ≠ 0 := fun e3 => by subst e3; omega
    have a := nsize_fst_inner x j hl (by omega)
    have b := nsize_snd_inner x j hl (by omega)
    exact ⟨j, by omega, by omega, by omega, by omega⟩
  · have e : szTo x (k + 1) = szTo x k + esz x k := rfl
    have a := nsize_fst_inner x k hl (by omega)
    have b := nsize_snd_inner x k hl (by omega)
    exact ⟨k, k1, by omega, by omega, by omega⟩
end Go.Proofs.YtecfhfddgolpfaaGreat
