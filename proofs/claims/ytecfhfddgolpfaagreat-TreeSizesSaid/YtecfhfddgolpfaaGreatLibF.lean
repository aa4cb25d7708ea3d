/- sort.Search with node.Find's test; node.Find; slices.ContainsFunc with node.shaped's tests. -/
import Derived.Test.YtecfhfddgolpfaaGreatLibE
namespace Go.Proofs.YtecfhfddgolpfaaGreat
open Go.RowKit

set_option maxRecDepth 100000 in
theorem search_any (n : Nat) (xb kb : Nat) (vs : List Value) (kv : Value) (ks : List Bytes) (key : Bytes) (a : Option Addr) (cap : Nat) (w : World) (hx : w.cell? ⟨xb, 1, none⟩ = some (.slice a vs.length cap)) (hk : w.cell? ⟨kb, 0, none⟩ = some kv)
    (hr : RdAt w 23 a vs) (hL : BtsL w vs ks) (hkey : Bts w kv key) (hS : Srt ks) (hnk : n = ks.length) (hn : ks.length ≤ 1000000000) :
    Calls Tryz.prog 85 #[.int .i64 n, .func (.func 86) #[] #[.pointer (some ⟨xb, 0, none⟩), .pointer (some ⟨kb, 0, none⟩)]] w fun e w' => e = .returned (.int .i64 (fk ks key : Nat)) ∧ ∃ n, w' = w.drewN n := by
  have hcall : ∀ (q i : Nat) (hi : i < ks.length), Calls Tryz.prog 86 #[.int .i64 i, .pointer (some ⟨xb, 0, none⟩), .pointer (some ⟨kb, 0, none⟩)] (w.drewN q) fun e w' => e = .returned (.bool (decide (0 ≤ cmpB ks[i] key))) ∧ ∃ n, w' = (w.drewN q).drewN n := fun q i hi =>
    find1_any i xb kb vs kv ks key a cap (w.drewN q) hx hk (hr.ext (Upd.ofDrewN w q)) (hL.ext (Upd.ofDrewN w q)) (hkey.ext (Upd.ofDrewN w q)) hi hn
  have HC := Lib.hid hcall
  have HN := Lib.hid hnk
  have HS := Lib.hid hS
  rw [← hnk] at hn
  clear hcall hnk hx hk hr hL hkey hS
  go_enter Tryz.func85, Tryz.ntmps85
  go_wp2
  go_loopw [5, 6] (fun i j wr => ∃ lo hi m : Nat, lo ≤ hi ∧ hi ≤ n ∧ i = .int .i64 lo ∧ j = .int .i64 hi ∧ wr = w.drewN m ∧ (∀ t (h : t < ks.length), t < lo → cmpB ks[t] key < 0) ∧ (∀ t (h : t < ks.length), hi ≤ t → 0 ≤ cmpB ks[t] key)) (fun i j _ => (intOf j).toNat - (intOf i).toNat)
  case atStart => exact ⟨0, n, 0, Nat.zero_le _, Nat.le_refl _, rfl, rfl, rfl, fun t _ h => by omega, fun t h h' => by have := HN.out; omega⟩
  case round =>
    obtain ⟨lo, hi, m, hlh, hhn, rfl, rfl, hwr, h1, h2⟩ := hrel
    have H1 := Lib.hid h1
    have H2 := Lib.hid h2
    clear h1 h2
    by_cases hlt : lo < hi
    · obtain ⟨md, hmd⟩ : ∃ md, md = (lo + hi) / 2 := ⟨_, rfl⟩
      have hml : lo ≤ md := by omega
      have hmh : md < hi := by omega
      have hconv : ((lo : Int) + (hi : Int)) / 2 = (md : Int) := by omega
      have HM := Lib.hid hmd
      clear hmd
      have hmk : md < ks.length := by have := HN.out; omega
      have hcall := HC.out m md hmk
      rw [← hwr] at hcall
      have HW := Lib.hid hwr
      clear hwr
      by_cases hcmp : 0 ≤ cmpB ks[md] key
      · rw [decide_eq_true hcmp] at hcall
        have HCC := Lib.hid hcall
        have HX := Lib.hid hcmp
        clear hcall hcmp
        go_wp2_with (go_at_call 86; refine HCC.out.mono ?_; rintro e w1 ⟨rfl, q, hq⟩)
        go_roundw
        case rel => exact ⟨lo, md, m + q, by omega, by omega, rfl, rfl, by rw [HW.out, World.drewN_drewN], H1.out, fun t ht hmt => by
          rcases Nat.lt_or_eq_of_le hmt with h | rfl
          · have h1 := HS.out.get (i := md) (j := t) h ht
            have h2 := HX.out
            rcases cmp_cases ks[t] key with h3 | h3 | h3
            · have h4 := cmp_trans _ _ _ h1 (by rw [h3]; decide)
              omega
            · omega
            · omega
          · exact HX.out⟩
        case measure => simp [intOf]; omega
      · rw [decide_eq_false hcmp] at hcall
        have HCC := Lib.hid hcall
        have HX := Lib.hid hcmp
        clear hcall hcmp
        go_wp2_with (go_at_call 86; refine HCC.out.mono ?_; rintro e w1 ⟨rfl, q, hq⟩)
        go_roundw
        case rel => exact ⟨md + 1, hi, m + q, by omega, by omega, by go_num, rfl, by rw [HW.out, World.drewN_drewN], fun t ht hmt => by
          rcases Nat.lt_or_eq_of_le (show t ≤ md by omega) with h | rfl
          · have h1 := HS.out.get (i := t) (j := md) h hmk
            have h2 := HX.out
            exact cmp_trans _ _ _ h1 (by omega)
          · have := HX.out; omega, H2.out⟩
        case measure => simp [intOf]; omega
    · have hlo : lo = hi := by omega
      subst hlo
      have hres : fk ks key = lo := fk_eq (by have := HN.out; omega) (fun j hj h => H1.out j hj h) (fun h => H2.out lo h (Nat.le_refl _))
      have HR := Lib.hid hres
      have HW := Lib.hid hwr
      clear hres hwr
      go_wp2
      go_ret
      rw [HR.out]
      exact ⟨rfl, _, HW.out⟩

/-- node.Find at keys that rise. -/
theorem find_any (lf sv sc : Value) (sk : Value) (vs : List Value) (kv : Value) (ks : List Bytes) (key : Bytes) (w : World) (hsk : Rd w 23 sk vs) (hL : BtsL w vs ks) (hkey : Bts w kv key) (hS : Srt ks) (hn : ks.length ≤ 1000000000) :
    Calls Tryz.prog 56 #[.agg #[lf, sk, sv, sc], kv] w fun e w' => e = .returned (.tuple #[.int .i64 (fk ks key : Nat), .bool (decide (∃ h : fk ks key < ks.length, ks[fk ks key] = key))]) ∧ Ext w w' := by
  have hkl := hL.1
  have hkey0 := hkey
  obtain ⟨p, kc, hkv, _⟩ := hkey0.open
  obtain ⟨kn, hkn⟩ : ∃ kn, kn = key.length := ⟨_, rfl⟩
  rw [← hkn] at hkv
  subst hkv
  clear hkn hkey0
  obtain ⟨a, cap, rfl, hc1, hc2, hc3, hr⟩ := hsk
  obtain ⟨W0, hW0⟩ : ∃ W0, W0 = (w.alloc (.cells #[lf, .slice a vs.length cap, sv, sc] 144)).alloc (.cells #[.slice p kn kc] 23) := ⟨_, rfl⟩
  have hU0 : Ext w W0 := by rw [hW0]; exact ((Upd.refl _ w).alloc _).alloc _
  have hx : ∀ q, (W0.drewN q).cell? ⟨w.heap.size, 1, none⟩ = some (.slice a vs.length cap) := fun q => by rw [World.cell?_drewN, hW0, World.cell?_alloc_past _ _ _ (by simp), World.cell?_alloc_new]; rfl
  have hk : ∀ q, (W0.drewN q).cell? ⟨w.heap.size + 1, 0, none⟩ = some (.slice p kn kc) := fun q => by rw [World.cell?_drewN, hW0, World.cell?_alloc_at _ _ _ _ (by simp)]; rfl
  have hsorted : Calls Tryz.prog 84 #[.slice a vs.length cap, .func (.func 69) #[] #[]] W0 fun e w' => e = .returned (.bool true) ∧ ∃ n, w' = W0.drewN n :=
    isSorted_yes _ ks W0 ⟨vs, ⟨a, cap, rfl, hc1, hc2, hc3, hr.ext hU0⟩, hL.ext hU0⟩ hS hn
  have hsearch : ∀ q, Calls Tryz.prog 85 #[.int .i64 vs.length, .func (.func 86) #[] #[.pointer (some ⟨w.heap.size, 0, none⟩), .pointer (some ⟨w.heap.size + 1, 0, none⟩)]] (W0.drewN q) fun e w' => e = .returned (.int .i64 (fk ks key : Nat)) ∧ ∃ n, w' = (W0.drewN q).drewN n := fun q =>
    search_any vs.length w.heap.size (w.heap.size + 1) vs (.slice p kn kc) ks key a cap (W0.drewN q) (hx q) (hk q) (hr.ext (hU0.drewN q)) (hL.ext (hU0.drewN q)) (hkey.ext (hU0.drewN q)) hS hkl hn
  obtain ⟨f, hf⟩ : ∃ f, f = fk ks key := ⟨_, rfl⟩
  have hfle := fk_le ks key
  rw [← hf] at hfle hsearch
  by_cases hfl : f < ks.length
  · obtain ⟨v1, h1, hb1⟩ := hL.get hfl
    obtain ⟨b, o, rfl, hcell1, hbs⟩ := hr.cellv h1
    have heq : ∀ q, Calls Tryz.prog 65 #[v1, .slice p kn kc] (W0.drewN q) fun e w' => e = .returned (.bool (decide (ks[f] = key))) ∧ w' = W0.drewN q := fun q => equal_any v1 (.slice p kn kc) _ _ _ (hb1.ext (hU0.drewN q)) (hkey.ext (hU0.drewN q))
    have hc0 : W0.cell? ⟨b, o + f, none⟩ = some v1 := hU0.cell hcell1 (fun h => h)
    have hres : (decide (ks[f] = key)) = decide (∃ h : fk ks key < ks.length, ks[fk ks key] = key) := by
      subst hf
      by_cases h : ks[fk ks key] = key <;> simp [h, hfl]
    obtain ⟨r, hr0⟩ : ∃ r, r = decide (ks[f] = key) := ⟨_, rfl⟩
    rw [← hr0] at heq hres
    have hlt : (f : Int) < (vs.length : Int) := by omega
    have hd : decide ((f : Int) < (vs.length : Int)) = true := decide_eq_true hlt
    have hfN : f < vs.length := by omega
    have hvm : vs.length ≤ 1000000000 := by omega
    have HS := Lib.hid hsorted
    have HE := Lib.hid heq
    have HR := Lib.hid hres
    have HH := Lib.hid hsearch
    have HU := Lib.hid hU0
    have hx0 := hx 0
    have hk0 := hk 0
    simp only [World.cell?_drewN] at hx0 hk0
    have HF := Lib.hid hf
    clear hsorted heq hres hsearch hU0 hr0 hf hx hk hkl h1 hb1 hr hL hkey hS hcell1
    go_enter Tryz.func56, Tryz.ntmps56
    go_wp2_with fail
    rw [← hW0]
    have HW := Lib.hid hW0
    clear hW0
    refine HS.out.mono ?_
    rintro e w1 ⟨rfl, q1, rfl⟩
    go_wp2_with fail
    refine (HH.out q1).mono ?_
    rintro e w2 ⟨rfl, q2, h2⟩
    have hx2 : w2.cell? ⟨w.heap.size, 1, none⟩ = some (.slice (some ⟨b, o, none⟩) vs.length cap) := by rw [h2]; exact hx0
    have hk2 : w2.cell? ⟨w.heap.size + 1, 0, none⟩ = some (.slice p kn kc) := by rw [h2]; exact hk0
    have hc2 : w2.cell? ⟨b, o + f, none⟩ = some v1 := by rw [h2]; exact hc0
    have he2 : ∀ q, Calls Tryz.prog 65 #[v1, .slice p kn kc] (w2.drewN q) fun e w' => e = .returned (.bool r) ∧ w' = w2.drewN q := fun q => by rw [h2, World.drewN_drewN, World.drewN_drewN]; exact HE.out _
    have hu2 : Ext w w2 := by rw [h2]; exact (HU.out.drewN q1).drewN q2
    have HE2 := Lib.hid he2
    have HU2 := Lib.hid hu2
    clear h2 he2 hu2 hx0 hk0 hc0
    go_wp2_with fail
    go_quiet ((go_at_call 65; exact Calls.quiet_of_same (HE2.out _)))
    go_wp2
    go_ret2
    rw [HR.out, HF.out]
    exact ⟨rfl, HU2.out.drewN _⟩
  · have hres : false = decide (∃ h : fk ks key < ks.length, ks[fk ks key] = key) := by
      subst hf
      simp [hfl]
    have hge : ¬ ((f : Int) < (vs.length : Int)) := by omega
    have hgeN : ¬ (f < vs.length) := by omega
    have hdN : decide (f < vs.length) = false := decide_eq_false hgeN
    have hd : decide ((f : Int) < (vs.length : Int)) = false := decide_eq_false hge
    have hvm : vs.length ≤ 1000000000 := by omega
    have HS := Lib.hid hsorted
    have HR := Lib.hid hres
    have HH := Lib.hid hsearch
    have HU := Lib.hid hU0
    have hx0 := hx 0
    have hk0 := hk 0
    simp only [World.cell?_drewN] at hx0 hk0
    have HF := Lib.hid hf
    clear hsorted hres hsearch hU0 hf hx hk hkl hr hL hkey hS
    go_enter Tryz.func56, Tryz.ntmps56
    go_wp2_with fail
    rw [← hW0]
    have HW := Lib.hid hW0
    clear hW0
    refine HS.out.mono ?_
    rintro e w1 ⟨rfl, q1, rfl⟩
    go_wp2_with fail
    refine (HH.out q1).mono ?_
    rintro e w2 ⟨rfl, q2, h2⟩
    have hx2 : w2.cell? ⟨w.heap.size, 1, none⟩ = some (.slice a vs.length cap) := by rw [h2]; exact hx0
    have hu2 : Ext w w2 := by rw [h2]; exact (HU.out.drewN q1).drewN q2
    have HU2 := Lib.hid hu2
    clear h2 hu2 hx0 hk0
    go_wp2_with fail
    go_quiet (fail)
    go_wp2
    go_ret2
    rw [HF.out, HR.out]
    exact ⟨rfl, HU2.out.drewN _⟩
end Go.Proofs.YtecfhfddgolpfaaGreat
