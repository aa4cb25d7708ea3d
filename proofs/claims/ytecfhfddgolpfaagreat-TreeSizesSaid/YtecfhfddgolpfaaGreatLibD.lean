/- The library's slices.Index at []int and at pages' states; slices.Concat at []int and [][]byte. PRINTED by wip/gen/libd.py. -/
import Derived.Test.YtecfhfddgolpfaaGreatLibC
namespace Go.Proofs.YtecfhfddgolpfaaGreat
open Go.RowKit

def intv (l : List Int) : List Value := l.map fun n => .int .i64 n
@[simp] theorem intv_length (l : List Int) : (intv l).length = l.length := by simp [intv]
theorem intv_get (l : List Int) (i : Nat) (h : i < l.length) : (intv l)[i]? = some (.int .i64 l[i]) := by simp [intv, h]
theorem intv_one (l : List Int) : ∀ u ∈ intv l, u.oneCell' = true := by
  intro u hu
  obtain ⟨_, _, rfl⟩ := List.mem_map.1 hu
  rfl
theorem RdAt.cellv {w : World} {E : TypeId} {a : Option Addr} {xs : List Value} (h : RdAt w E a xs) {i : Nat} {u : Value} (hi : xs[i]? = some u) : ∃ b o, a = some ⟨b, o, none⟩ ∧ w.cell? ⟨b, o + i, none⟩ = some u ∧ b < w.heap.size := by
  rcases h with rfl | ⟨b, o, cs, fr, ha, hb, hc⟩
  · simp at hi
  · exact ⟨b, o, ha, by rw [cell_heap hb]; exact hc i _ hi, heap_lt hb⟩
/-- The first place of a number; none: -1. -/
def idxI (l : List Int) (v : Int) : Int := match l.findIdx? (· == v) with | some k => k | none => -1
theorem idxI_hit {l : List Int} {v : Int} {k : Nat} (hk : k < l.length) (h1 : l[k] = v) (h0 : ∀ j (hj : j < k), l[j]'(by omega) ≠ v) : idxI l v = k := by
  unfold idxI
  have : l.findIdx? (· == v) = some k := by
    rw [List.findIdx?_eq_some_iff_getElem]
    refine ⟨hk, by simpa using h1, fun j hj => by simpa using h0 j hj⟩
  rw [this]
theorem idxI_miss {l : List Int} {v : Int} (h0 : ∀ j (hj : j < l.length), l[j] ≠ v) : idxI l v = -1 := by
  unfold idxI
  have : l.findIdx? (· == v) = none := by
    rw [List.findIdx?_eq_none_iff]
    intro x hx
    obtain ⟨j, hj, rfl⟩ := List.getElem_of_mem hx
    simpa using h0 j hj
  rw [this]

set_option maxRecDepth 100000 in
theorem indexI_any (s : Value) (l : List Int) (v : Int) (w : World) (hs : Rd w 3 s (intv l)) (hn : l.length ≤ 1000000000) :
    Calls Tryz.prog 122 #[s, .int .i64 v] w fun e w' => e = .returned (.int .i64 (idxI l v)) ∧ w' = w := by
  obtain ⟨a, cap, rfl, hc1, hc2, hc3, hr⟩ := hs
  rw [intv_length]
  go_enter Tryz.func122, Tryz.ntmps122
  go_wp2
  go_loop [8] (fun i => ∃ k : Nat, k ≤ l.length ∧ i = .int .i64 k ∧ ∀ j (hj : j < l.length), j < k → l[j] ≠ v) (fun i => l.length - (intOf i).toNat)
  case atStart => exact ⟨0, Nat.zero_le _, rfl, fun j _ hj => by omega⟩
  case round =>
    obtain ⟨k, hk, rfl, h0⟩ := hrel
    have H0 := Lib.hid h0
    clear h0
    by_cases hlt : k < l.length
    · obtain ⟨b, o, rfl, hcell, _⟩ := hr.cellv (intv_get l k hlt)
      by_cases hv : v = l[k]
      · have hres := idxI_hit (v := v) hlt hv.symm (fun j hj => H0.out j (by omega) hj)
        have HR := Lib.hid hres
        clear hres
        have hb : (v == l[k]) = true := by simpa using hv
        have HV := Lib.hid hv
        clear hv
        go_wp2
        go_ret
        rw [HR.out]
        exact ⟨rfl, rfl⟩
      · have hb : (v == l[k]) = false := by simpa using hv
        have HV := Lib.hid hv
        clear hv
        go_wp2
        go_round
        case rel => exact ⟨k + 1, by omega, by go_num, fun j hj hjk => by
          by_cases e : j = k
          · subst e; exact fun h => HV.out h.symm
          · exact H0.out j hj (by omega)⟩
        case measure => simp [intOf]; omega
    · have hres : idxI l v = -1 := idxI_miss (fun j hj => H0.out j hj (by omega))
      have HR := Lib.hid hres
      clear hres
      go_wp2
      go_ret
      rw [HR.out]
      exact ⟨rfl, rfl⟩

set_option maxRecDepth 100000 in
theorem indexS_any (s : Value) (l : List Int) (v : Int) (w : World) (hs : Rd w 124 s (intv l)) (hn : l.length ≤ 1000000000) :
    Calls Tryz.prog 113 #[s, .int .i64 v] w fun e w' => e = .returned (.int .i64 (idxI l v)) ∧ w' = w := by
  obtain ⟨a, cap, rfl, hc1, hc2, hc3, hr⟩ := hs
  rw [intv_length]
  go_enter Tryz.func113, Tryz.ntmps113
  go_wp2
  go_loop [8] (fun i => ∃ k : Nat, k ≤ l.length ∧ i = .int .i64 k ∧ ∀ j (hj : j < l.length), j < k → l[j] ≠ v) (fun i => l.length - (intOf i).toNat)
  case atStart => exact ⟨0, Nat.zero_le _, rfl, fun j _ hj => by omega⟩
  case round =>
    obtain ⟨k, hk, rfl, h0⟩ := hrel
    have H0 := Lib.hid h0
    clear h0
    by_cases hlt : k < l.length
    · obtain ⟨b, o, rfl, hcell, _⟩ := hr.cellv (intv_get l k hlt)
      by_cases hv : v = l[k]
      · have hres := idxI_hit (v := v) hlt hv.symm (fun j hj => H0.out j (by omega) hj)
        have HR := Lib.hid hres
        clear hres
        have hb : (v == l[k]) = true := by simpa using hv
        have HV := Lib.hid hv
        clear hv
        go_wp2
        go_ret
        rw [HR.out]
        exact ⟨rfl, rfl⟩
      · have hb : (v == l[k]) = false := by simpa using hv
        have HV := Lib.hid hv
        clear hv
        go_wp2
        go_round
        case rel => exact ⟨k + 1, by omega, by go_num, fun j hj hjk => by
          by_cases e : j = k
          · subst e; exact fun h => HV.out h.symm
          · exact H0.out j hj (by omega)⟩
        case measure => simp [intOf]; omega
    · have hres : idxI l v = -1 := idxI_miss (fun j hj => H0.out j hj (by omega))
      have HR := Lib.hid hres
      clear hres
      go_wp2
      go_ret
      rw [HR.out]
      exact ⟨rfl, rfl⟩

set_option maxRecDepth 100000 in
/-- slices.Concat: new memory. -/
theorem concatI_any (s : Value) (vs : List Value) (xss : List (List Value)) (w : World) (hs : Rd w 62 s vs) (hlen : vs.length = xss.length) (hv : ∀ (j : Nat) (v : Value) (xs : List Value), vs[j]? = some v → xss[j]? = some xs → Rd w 3 v xs)
    (h1 : ∀ xs ∈ xss, ∀ y ∈ xs, y.oneCell' = true) (hl : xss.flatten.length ≤ 1000000000) (hn : vs.length ≤ 1000) :
    Calls Tryz.prog 147 #[s] w fun e w' => ∃ v, e = .returned v ∧ Own w' 3 v xss.flatten ∧ Nw w (.slice none 0 0) v ∧ Ext w w' := by
  obtain ⟨a, cap, rfl, hc1, hc2, hc3, hr⟩ := hs
  have hsum : ∀ k, k ≤ xss.length → (xss.take k).flatten.length ≤ xss.flatten.length := fun k _ => by
    rw [← List.take_append_drop k xss, List.flatten_append]
    simp
  have hget : ∀ k (hk : k < vs.length), ∃ v xs, vs[k]? = some v ∧ xss[k]? = some xs ∧ Rd w 3 v xs := fun k hk => by
    have h2 : k < xss.length := by omega
    exact ⟨vs[k], xss[k], by simp, by simp, hv k _ _ (by simp) (by simp)⟩
  have hstep : ∀ k xs, xss[k]? = some xs → (xss.take (k + 1)).flatten = (xss.take k).flatten ++ xs := fun k xs h => by
    rw [List.take_add_one, h]; simp
  have HS := Lib.hid hsum
  have HG := Lib.hid hget
  have HP := Lib.hid hstep
  have H1 := Lib.hid h1
  have HV := Lib.hid hv
  have HL := Lib.hid hlen
  clear hsum hget hstep h1 hv hlen
  obtain ⟨n, hn0⟩ : ∃ n, n = vs.length := ⟨_, rfl⟩
  rw [← hn0] at hc1 hn ⊢
  have HN := Lib.hid hn0
  clear hn0
  go_enter Tryz.func147, Tryz.ntmps147
  go_wp2
  go_loop [3, 11] (fun t i => ∃ k : Nat, k ≤ n ∧ i = .int .i64 k ∧ t = .int .i64 ((xss.take k).flatten.length : Nat)) (fun _ i => n - (intOf i).toNat)
  case atStart => exact ⟨0, Nat.zero_le _, rfl, by simp⟩
  case round =>
    obtain ⟨k, hk, rfl, rfl⟩ := hrel
    have hb := HS.out k (by have := HL.out; have := HN.out; omega)
    by_cases hlt : k < n
    · obtain ⟨v, xs, h1, h2, h3⟩ := HG.out k (by have := HN.out; omega)
      obtain ⟨b, o, rfl, hcell, hbs⟩ := hr.cellv h1
      have hb2 := HS.out (k + 1) (by have := HL.out; have := HN.out; omega)
      have e2 := HP.out k xs h2
      rw [e2, List.length_append] at hb2
      obtain ⟨a2, cap2, rfl, hd1, hd2, hd3, hr2⟩ := h3
      have E2 := Lib.hid e2
      have hneg : ¬ (((xss.take k).flatten.length : Int) + (xs.length : Int) < 0) := by omega
      clear e2 h1 h2
      obtain ⟨m, hm⟩ : ∃ m, m = (xss.take k).flatten.length := ⟨_, rfl⟩
      rw [← hm] at hb hb2 hneg ⊢
      have HM := Lib.hid hm
      clear hm
      go_wp2
      go_round
      case rel => exact ⟨k + 1, by omega, by go_num, by rw [E2.out, List.length_append, ← HM.out]; go_num⟩
      case measure => simp [intOf]; omega
    · have hkn : k = n := by omega
      subst hkn
      have efull : xss.take k = xss := List.take_of_length_le (by have := HL.out; have := HN.out; omega)
      rw [efull]
      rw [efull] at hb
      clear efull
      obtain ⟨m, hm⟩ : ∃ m, m = xss.flatten.length := ⟨_, rfl⟩
      rw [← hm] at hl hb ⊢
      have HM := Lib.hid hm
      clear hm
      go_wp2_with (go_at_call 161; refine (growI_nil _ _ hl).mono ?_; rintro e w1 ⟨v1, rfl, hown1, hnw1, hU1⟩)
      go_loopw [6, 27] (fun t i wr => ∃ j : Nat, j ≤ k ∧ i = .int .i64 j ∧ Own wr 3 t (xss.take j).flatten ∧ Nw w (.slice none 0 0) t ∧ Ext w wr) (fun _ i _ => k - (intOf i).toNat)
      case atStart => exact ⟨0, Nat.zero_le _, rfl, by simpa using hown1, hnw1, hU1⟩
      case round =>
        obtain ⟨j, hj, rfl, hown, hnw, hU⟩ := hrel
        by_cases hlt2 : j < k
        · obtain ⟨v, xs, h1, h2, h3⟩ := HG.out j (by have := HN.out; omega)
          obtain ⟨b, o, rfl, hcell, hbs⟩ := hr.cellv h1
          have hcell2 : wr.cell? ⟨b, o + j, none⟩ = some v := hU.cell hcell (fun h => h)
          have h3' := h3.ext hU
          have hx1 := H1.out xs (List.mem_of_getElem? h2)
          have e2 := HP.out j xs h2
          have hb2 := HS.out (j + 1) (by have := HL.out; have := HN.out; omega)
          rw [e2, List.length_append] at hb2
          have E2 := Lib.hid e2
          have HM2 := HM.out
          have hle : (xss.take j).flatten.length + xs.length ≤ 1000000000 := by omega
          clear e2 h1 h2 hcell h3 hown1 hnw1 hU1 HM2 hb hb2
          go_wp2_with (at_builtin; refine wpList_app rfl _ _ 62 rfl 3 _ _ (by kernel_rfl) info_int rfl _ _ rfl hown _ xs rfl h3' hx1 (by omega) (by decide) ?_)
          intro v2 w2 hown2 hnw2 hU2
          have hA : Own w2 3 v2 (xss.take (j + 1)).flatten := by rw [E2.out]; exact hown2
          have hB : Nw w (.slice none 0 0) v2 := hnw.trans hnw2 hU.size
          have hC : Ext w w2 := hU.trans hU2 (fun i hi => .inr ((hnw i hi).elim (fun h => by simp [Value.ownBlock] at h) id))
          clear hown hnw hown2 hnw2 hU2 hcell2 h3' E2 hU
          go_wp2
          go_roundw
          case rel => exact ⟨j + 1, by omega, by go_num, hA, hB, hC⟩
          case measure => simp [intOf]; omega
        · have : j = k := by omega
          subst this
          have efull : xss.take j = xss := List.take_of_length_le (by have := HL.out; have := HN.out; omega)
          rw [efull] at hown
          clear efull
          go_wp2
          go_ret
          exact ⟨_, rfl, hown, hnw, hU⟩

set_option maxRecDepth 100000 in
/-- slices.Concat: new memory. -/
theorem concatB_any (s : Value) (vs : List Value) (xss : List (List Value)) (w : World) (hs : Rd w 100 s vs) (hlen : vs.length = xss.length) (hv : ∀ (j : Nat) (v : Value) (xs : List Value), vs[j]? = some v → xss[j]? = some xs → Rd w 23 v xs)
    (h1 : ∀ xs ∈ xss, ∀ y ∈ xs, y.oneCell' = true) (hl : xss.flatten.length ≤ 1000000000) (hn : vs.length ≤ 1000) :
    Calls Tryz.prog 146 #[s] w fun e w' => ∃ v, e = .returned v ∧ Own w' 23 v xss.flatten ∧ Nw w (.slice none 0 0) v ∧ Ext w w' := by
  obtain ⟨a, cap, rfl, hc1, hc2, hc3, hr⟩ := hs
  have hsum : ∀ k, k ≤ xss.length → (xss.take k).flatten.length ≤ xss.flatten.length := fun k _ => by
    rw [← List.take_append_drop k xss, List.flatten_append]
    simp
  have hget : ∀ k (hk : k < vs.length), ∃ v xs, vs[k]? = some v ∧ xss[k]? = some xs ∧ Rd w 23 v xs := fun k hk => by
    have h2 : k < xss.length := by omega
    exact ⟨vs[k], xss[k], by simp, by simp, hv k _ _ (by simp) (by simp)⟩
  have hstep : ∀ k xs, xss[k]? = some xs → (xss.take (k + 1)).flatten = (xss.take k).flatten ++ xs := fun k xs h => by
    rw [List.take_add_one, h]; simp
  have HS := Lib.hid hsum
  have HG := Lib.hid hget
  have HP := Lib.hid hstep
  have H1 := Lib.hid h1
  have HV := Lib.hid hv
  have HL := Lib.hid hlen
  clear hsum hget hstep h1 hv hlen
  obtain ⟨n, hn0⟩ : ∃ n, n = vs.length := ⟨_, rfl⟩
  rw [← hn0] at hc1 hn ⊢
  have HN := Lib.hid hn0
  clear hn0
  go_enter Tryz.func146, Tryz.ntmps146
  go_wp2
  go_loop [3, 11] (fun t i => ∃ k : Nat, k ≤ n ∧ i = .int .i64 k ∧ t = .int .i64 ((xss.take k).flatten.length : Nat)) (fun _ i => n - (intOf i).toNat)
  case atStart => exact ⟨0, Nat.zero_le _, rfl, by simp⟩
  case round =>
    obtain ⟨k, hk, rfl, rfl⟩ := hrel
    have hb := HS.out k (by have := HL.out; have := HN.out; omega)
    by_cases hlt : k < n
    · obtain ⟨v, xs, h1, h2, h3⟩ := HG.out k (by have := HN.out; omega)
      obtain ⟨b, o, rfl, hcell, hbs⟩ := hr.cellv h1
      have hb2 := HS.out (k + 1) (by have := HL.out; have := HN.out; omega)
      have e2 := HP.out k xs h2
      rw [e2, List.length_append] at hb2
      obtain ⟨a2, cap2, rfl, hd1, hd2, hd3, hr2⟩ := h3
      have E2 := Lib.hid e2
      have hneg : ¬ (((xss.take k).flatten.length : Int) + (xs.length : Int) < 0) := by omega
      clear e2 h1 h2
      obtain ⟨m, hm⟩ : ∃ m, m = (xss.take k).flatten.length := ⟨_, rfl⟩
      rw [← hm] at hb hb2 hneg ⊢
      have HM := Lib.hid hm
      clear hm
      go_wp2
      go_round
      case rel => exact ⟨k + 1, by omega, by go_num, by rw [E2.out, List.length_append, ← HM.out]; go_num⟩
      case measure => simp [intOf]; omega
    · have hkn : k = n := by omega
      subst hkn
      have efull : xss.take k = xss := List.take_of_length_le (by have := HL.out; have := HN.out; omega)
      rw [efull]
      rw [efull] at hb
      clear efull
      obtain ⟨m, hm⟩ : ∃ m, m = xss.flatten.length := ⟨_, rfl⟩
      rw [← hm] at hl hb ⊢
      have HM := Lib.hid hm
      clear hm
      go_wp2_with (go_at_call 160; refine (growB_nil _ _ hl).mono ?_; rintro e w1 ⟨v1, rfl, hown1, hnw1, hU1⟩)
      go_loopw [6, 27] (fun t i wr => ∃ j : Nat, j ≤ k ∧ i = .int .i64 j ∧ Own wr 23 t (xss.take j).flatten ∧ Nw w (.slice none 0 0) t ∧ Ext w wr) (fun _ i _ => k - (intOf i).toNat)
      case atStart => exact ⟨0, Nat.zero_le _, rfl, by simpa using hown1, hnw1, hU1⟩
      case round =>
        obtain ⟨j, hj, rfl, hown, hnw, hU⟩ := hrel
        by_cases hlt2 : j < k
        · obtain ⟨v, xs, h1, h2, h3⟩ := HG.out j (by have := HN.out; omega)
          obtain ⟨b, o, rfl, hcell, hbs⟩ := hr.cellv h1
          have hcell2 : wr.cell? ⟨b, o + j, none⟩ = some v := hU.cell hcell (fun h => h)
          have h3' := h3.ext hU
          have hx1 := H1.out xs (List.mem_of_getElem? h2)
          have e2 := HP.out j xs h2
          have hb2 := HS.out (j + 1) (by have := HL.out; have := HN.out; omega)
          rw [e2, List.length_append] at hb2
          have E2 := Lib.hid e2
          have HM2 := HM.out
          have hle : (xss.take j).flatten.length + xs.length ≤ 1000000000 := by omega
          clear e2 h1 h2 hcell h3 hown1 hnw1 hU1 HM2 hb hb2
          go_wp2_with (at_builtin; refine wpList_app rfl _ _ 100 rfl 23 _ _ (by kernel_rfl) info_bs rfl _ _ rfl hown _ xs rfl h3' hx1 (by omega) (by decide) ?_)
          intro v2 w2 hown2 hnw2 hU2
          have hA : Own w2 23 v2 (xss.take (j + 1)).flatten := by rw [E2.out]; exact hown2
          have hB : Nw w (.slice none 0 0) v2 := hnw.trans hnw2 hU.size
          have hC : Ext w w2 := hU.trans hU2 (fun i hi => .inr ((hnw i hi).elim (fun h => by simp [Value.ownBlock] at h) id))
          clear hown hnw hown2 hnw2 hU2 hcell2 h3' E2 hU
          go_wp2
          go_roundw
          case rel => exact ⟨j + 1, by omega, by go_num, hA, hB, hC⟩
          case measure => simp [intOf]; omega
        · have : j = k := by omega
          subst this
          have efull : xss.take j = xss := List.take_of_length_le (by have := HL.out; have := HN.out; omega)
          rw [efull] at hown
          clear efull
          go_wp2
          go_ret
          exact ⟨_, rfl, hown, hnw, hU⟩

end Go.Proofs.YtecfhfddgolpfaaGreat
