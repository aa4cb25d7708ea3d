/- Lists of byte slices; the order of bytes; slices.IsSortedFunc with bytes.Compare, sort.Search with node.Find's test, slices.ContainsFunc with node.shaped's tests. -/
import Derived.Test.YtecfhfddgolpfaaGreatLibD
namespace Go.Proofs.YtecfhfddgolpfaaGreat
open Go.RowKit

abbrev Bytes := List UInt8
abbrev cmpB (a b : Bytes) : Int := Lib.compareBytes a b

theorem cmp_self (a : Bytes) : cmpB a a = 0 := (cmp_eq_zero a a).2 rfl
theorem cmp_cases : ∀ (a b : Bytes), cmpB a b = -1 ∨ cmpB a b = 0 ∨ cmpB a b = 1
  | [], [] => by simp [Lib.compareBytes]
  | [], _ :: _ => by simp [Lib.compareBytes]
  | _ :: _, [] => by simp [Lib.compareBytes]
  | a :: l, b :: m => by
    have ih := cmp_cases l m
    simp only [cmpB] at ih ⊢
    unfold Lib.compareBytes
    split
    · simp
    · split
      · simp
      · exact ih
theorem cmp_swap : ∀ (a b : Bytes), cmpB a b = - cmpB b a
  | [], [] => by simp [Lib.compareBytes]
  | [], _ :: _ => by simp [Lib.compareBytes]
  | _ :: _, [] => by simp [Lib.compareBytes]
  | a :: l, b :: m => by
    have ih := cmp_swap l m
    simp only [cmpB] at ih ⊢
    unfold Lib.compareBytes
    by_cases h1 : a < b
    · have h2 : ¬ b < a := fun h => UInt8.lt_irrefl a (UInt8.lt_trans h1 h)
      simp [h1, h2]
    · by_cases h2 : b < a
      · simp [h1, h2]
      · simp only [h1, h2, if_false]; exact ih
theorem cmp_trans : ∀ (a b c : Bytes), cmpB a b < 0 → cmpB b c < 0 → cmpB a c < 0
  | [], [], c, h, _ => by simp [Lib.compareBytes] at h
  | _ :: _, [], c, h, _ => by simp [Lib.compareBytes] at h
  | a, _ :: _, [], _, h => by simp [Lib.compareBytes] at h
  | [], _ :: _, _ :: _, _, _ => by simp [Lib.compareBytes]
  | a :: l, b :: m, c :: r, h1, h2 => by
    have ih := cmp_trans l m r
    simp only [cmpB] at ih h1 h2 ⊢
    unfold Lib.compareBytes at h1 h2 ⊢
    by_cases hab : a < b
    · by_cases hbc : b < c
      · simp [UInt8.lt_trans hab hbc]
      · by_cases hcb : c < b
        · simp [hbc, hcb] at h2
        · have : b = c := UInt8.le_antisymm (UInt8.not_lt.1 hcb) (UInt8.not_lt.1 hbc)
          subst this
          simp [hab]
    · by_cases hba : b < a
      · simp [hab, hba] at h1
      · have : a = b := UInt8.le_antisymm (UInt8.not_lt.1 hba) (UInt8.not_lt.1 hab)
        subst this
        simp only [hab, if_false] at h1
        by_cases hac : a < c
        · simp [hac]
        · by_cases hca : c < a
          · simp [hac, hca] at h2
          · simp only [hac, hca, if_false] at h2 ⊢
            exact ih h1 h2

/-- Keys that rise. -/
def Srt (ks : List Bytes) : Prop := ks.Pairwise fun a b => cmpB a b < 0
theorem Srt.get {ks : List Bytes} (h : Srt ks) {i j : Nat} (hij : i < j) (hj : j < ks.length) : cmpB (ks[i]'(by omega)) ks[j] < 0 := List.pairwise_iff_getElem.1 h i j (by omega) hj hij
/-- How many keys are less: a key's place. -/
def fk (ks : List Bytes) (key : Bytes) : Nat := ks.findIdx fun x => decide (0 ≤ cmpB x key)
theorem fk_le (ks : List Bytes) (key : Bytes) : fk ks key ≤ ks.length := List.findIdx_le_length
theorem fk_eq {ks : List Bytes} {key : Bytes} {k : Nat} (hk : k ≤ ks.length) (h1 : ∀ j (hj : j < ks.length), j < k → cmpB ks[j] key < 0) (h2 : ∀ (h : k < ks.length), 0 ≤ cmpB ks[k] key) : fk ks key = k := by
  unfold fk
  rcases Nat.lt_or_eq_of_le hk with hlt | rfl
  · rw [List.findIdx_eq hlt]
    exact ⟨by simpa using h2 hlt, fun j hj => by have := h1 j (by omega) hj; simpa using this⟩
  · rw [List.findIdx_eq_length]
    intro x hx
    obtain ⟨j, hj, rfl⟩ := List.getElem_of_mem hx
    have := h1 j hj hj
    simpa using this
theorem fk_lt {ks : List Bytes} {key : Bytes} {j : Nat} (hj : j < fk ks key) : cmpB (ks[j]'(Nat.lt_of_lt_of_le hj (fk_le ks key))) key < 0 := by
  have := List.not_of_lt_findIdx (p := fun x => decide (0 ≤ cmpB x key)) hj
  simpa using this
theorem fk_ge {ks : List Bytes} {key : Bytes} (h : fk ks key < ks.length) : 0 ≤ cmpB ks[fk ks key] key := by
  have := List.findIdx_getElem (p := fun x => decide (0 ≤ cmpB x key)) (w := h)
  exact of_decide_eq_true this

/-! ### lists of byte slices -/
def BtsL (w : World) (vs : List Value) (ks : List Bytes) : Prop := vs.length = ks.length ∧ ∀ (j : Nat) (v : Value) (k : Bytes), vs[j]? = some v → ks[j]? = some k → Bts w v k
def Bss (w : World) (v : Value) (ks : List Bytes) : Prop := ∃ vs, Rd w 23 v vs ∧ BtsL w vs ks
theorem BtsL.ext {w w' : World} {vs : List Value} {ks : List Bytes} (h : BtsL w vs ks) (hU : Ext w w') : BtsL w' vs ks := ⟨h.1, fun j v k h1 h2 => (h.2 j v k h1 h2).ext hU⟩
theorem Bss.ext {w w' : World} {v : Value} {ks : List Bytes} (h : Bss w v ks) (hU : Ext w w') : Bss w' v ks := by
  obtain ⟨vs, h1, h2⟩ := h
  exact ⟨vs, h1.ext hU, h2.ext hU⟩
theorem BtsL.get {w : World} {vs : List Value} {ks : List Bytes} (h : BtsL w vs ks) {j : Nat} (hj : j < ks.length) : ∃ v, vs[j]? = some v ∧ Bts w v ks[j] := by
  have hv : j < vs.length := by rw [h.1]; exact hj
  exact ⟨vs[j], by simp, h.2 j _ _ (by simp) (by simp)⟩
theorem Upd.ofDrewN (w : World) (n : Nat) : Ext w (w.drewN n) := (Upd.refl _ w).drewN n

set_option maxRecDepth 100000 in
/-- slices.IsSortedFunc at keys that rise. -/
theorem isSorted_yes (s : Value) (ks : List Bytes) (w : World) (hs : Bss w s ks) (hS : Srt ks) (hn : ks.length ≤ 1000000000) :
    Calls Tryz.prog 84 #[s, .func (.func 69) #[] #[]] w fun e w' => e = .returned (.bool true) ∧ ∃ n, w' = w.drewN n := by
  obtain ⟨vs, ⟨a, cap, rfl, hc1, hc2, hc3, hr⟩, hL⟩ := hs
  have hge : ∀ i (h0 : 0 < i) (h : i < ks.length), ¬ (cmpB ks[i] (ks[i - 1]'(by omega)) < 0) := fun i h0 h => by
    have h1 := hS.get (i := i - 1) (j := i) (by omega) h
    rw [cmp_swap]; omega
  have HG := Lib.hid hge
  have HL := Lib.hid hL
  obtain ⟨n, hn0⟩ : ∃ n, n = vs.length := ⟨_, rfl⟩
  have hnk : n = ks.length := by rw [hn0]; exact hL.1
  rw [← hn0] at hc1 ⊢
  rw [← hnk] at hn
  have HN := Lib.hid hnk
  clear hge hL hn0 hnk
  by_cases hz : n = 0
  · subst hz
    go_enter Tryz.func84, Tryz.ntmps84
    go_wp2
    refine wp_loop_rounds 1 ?_
    rw [rounds_succ]
    go_wp2
    go_ret
    exact ⟨rfl, 0, rfl⟩
  · have hpos : 0 < n := by omega
    clear hz
    go_enter Tryz.func84, Tryz.ntmps84
    go_wp2
    go_loopw [5] (fun i wr => ∃ k m : Nat, k < n ∧ i = .int .i64 k ∧ wr = w.drewN m) (fun i _ => (intOf i).toNat)
    case atStart => exact ⟨n - 1, 0, by omega, by congr 1; omega, rfl⟩
    case round =>
      obtain ⟨k, m, hk, rfl, hwr⟩ := hrel
      have HW := Lib.hid hwr
      have hUr : Ext w wr := by rw [hwr]; exact Upd.ofDrewN w m
      clear hwr
      by_cases h0 : 0 < k
      · obtain ⟨v1, h1, hb1⟩ := HL.out.get (j := k) (by have := HN.out; omega)
        obtain ⟨v2, h2, hb2⟩ := HL.out.get (j := k - 1) (by have := HN.out; omega)
        obtain ⟨b, o, rfl, hcell1, hbs⟩ := hr.cellv h1
        obtain ⟨b', o', hbo, hcell2, _⟩ := hr.cellv h2
        simp only [Option.some.injEq, Addr.mk.injEq, and_true] at hbo
        obtain ⟨rfl, rfl⟩ := hbo
        have hcf := HG.out k h0 (by have := HN.out; omega)
        have hcmp : decide (cmpB (ks[k]'(by have := HN.out; omega)) (ks[k - 1]'(by have := HN.out; omega)) < 0) = false := by simpa using hcf
        obtain ⟨c, hc⟩ : ∃ c, c = cmpB (ks[k]'(by have := HN.out; omega)) (ks[k - 1]'(by have := HN.out; omega)) := ⟨_, rfl⟩
        have hcall : ∀ q, Calls Tryz.prog 69 #[v1, v2] (wr.drewN q) fun e w' => e = .returned (.int .i64 c) ∧ w' = wr.drewN q := fun q => by
          rw [hc]
          exact compare_any v1 v2 _ _ _ (hb1.ext (hUr.drewN q)) (hb2.ext (hUr.drewN q))
        replace hcell1 := hUr.cell hcell1 (fun h => h)
        replace hcell2 := hUr.cell hcell2 (fun h => h)
        rw [← hc] at hcmp
        have HC := Lib.hid hcall
        clear hcall hc hcf h1 h2 hb1 hb2 hUr
        have e1 : ((k : Int) - 1).toNat = k - 1 := by omega
        have e2 : IntKind.i64.wrap ((k : Int) - 1) = (k : Int) - 1 := by rw [IntKind.wrap_i64]; omega
        have e3 : (0 : Int) ≤ (k : Int) - 1 := by omega
        have e4 : (1 : Int) ≤ (k : Int) := by omega
        have e5 : (k : Int) - 1 < (n : Int) := by omega
        go_wp2_with fail
        go_quiet ((go_at_call 69; exact Calls.quiet_of_same (HC.out _)))
        go_wp2
        go_roundw
        case rel => exact ⟨k - 1, _, by omega, by congr 1; omega, by rw [HW.out, World.drewN_drewN]⟩
        case measure => simp [intOf]; omega
      · obtain rfl : k = 0 := by omega
        go_wp2
        go_ret
        exact ⟨rfl, _, HW.out⟩

/-- node.Find's test. -/
theorem find1_any (i : Nat) (xb kb : Nat) (vs : List Value) (kv : Value) (ks : List Bytes) (key : Bytes) (a : Option Addr) (cap : Nat) (w : World) (hx : w.cell? ⟨xb, 1, none⟩ = some (.slice a vs.length cap)) (hk : w.cell? ⟨kb, 0, none⟩ = some kv)
    (hr : RdAt w 23 a vs) (hL : BtsL w vs ks) (hkey : Bts w kv key) (hi : i < ks.length) (_ : ks.length ≤ 1000000000) :
    Calls Tryz.prog 86 #[.int .i64 i, .pointer (some ⟨xb, 0, none⟩), .pointer (some ⟨kb, 0, none⟩)] w fun e w' => e = .returned (.bool (decide (0 ≤ cmpB ks[i] key))) ∧ ∃ n, w' = w.drewN n := by
  obtain ⟨v1, h1, hb1⟩ := hL.get hi
  obtain ⟨b, o, rfl, hcell1, hbs⟩ := hr.cellv h1
  have hlt : (i : Int) < (vs.length : Int) := by have := hL.1; omega
  obtain ⟨c, hc⟩ : ∃ c, c = cmpB ks[i] key := ⟨_, rfl⟩
  have hcall : ∀ q, Calls Tryz.prog 69 #[v1, kv] (w.drewN q) fun e w' => e = .returned (.int .i64 c) ∧ w' = w.drewN q := fun q => by
    rw [hc]
    exact compare_any v1 kv _ _ _ (hb1.ext (Upd.ofDrewN w q)) (hkey.ext (Upd.ofDrewN w q))
  rw [← hc]
  have HC := Lib.hid hcall
  clear hcall hc h1 hb1 hr hL hkey
  go_enter Tryz.func86, Tryz.ntmps86
  go_wp2_with fail
  go_quiet ((go_at_call 69; exact Calls.quiet_of_same (HC.out _)))
  go_wp2
  go_ret
  exact ⟨rfl, _, rfl⟩
end Go.Proofs.YtecfhfddgolpfaaGreat
