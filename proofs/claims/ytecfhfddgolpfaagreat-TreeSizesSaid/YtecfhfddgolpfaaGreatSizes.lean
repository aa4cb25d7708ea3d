/- For all 16-bit k and v munimentlaw11.TreeSizes answers true, and its arguments read as before: Rows.TreeSizesSaid. -/
import Derived.Test.YtecfhfddgolpfaaGreatTreeT
import Derived.Lib.SlBytesConst
import Derived.Deep.DeepCutAuto
import Derived.Test.YtecfhfddgolpfaaGreatRows
import Derived.WalkKit
import Derived.ProofKit
import Derived.OpenShut

/- The law's own helpers: some. -/
namespace Go.Proofs.YtecfhfddgolpfaaGreat
open Go.RowKit
variable {w w' : World}

def sm (k : UInt8) (n : Nat) : Bytes := k :: List.replicate (n - 1) (k / 2)
theorem sm_length (k : UInt8) (n : Nat) (h : 1 ≤ n) : (sm k n).length = n := by simp [sm]; omega
theorem make16 (w : World) : (Instr.makeSlice 23 (.int .i64 0) (.int .i64 16)).run Tryz.prog w = .ok (.slice (some ⟨w.heap.size, 0, none⟩) 0 16) (w.alloc (.cells (byv (List.replicate 16 0)).toArray 5)) := by
  kernel_rfl
set_option maxHeartbeats 2000000 in
set_option maxRecDepth 100000 in
theorem some_law (k : UInt8) (n : Nat) (h1 : 1 ≤ n) (h2 : n ≤ 1000) (w : World) :
    Calls Tryz.prog 31 #[.int .u8 (k.toNat : Int), .int .i64 (n : Nat)] w fun e w' => ∃ v, e = .returned v ∧ Bts w' v (sm k n) ∧ Ext w w' := by
  obtain ⟨z16, hz16⟩ : ∃ z16, z16 = (byv (List.replicate 16 0)).toArray := ⟨_, rfl⟩
  have hzl : z16.size = 16 := by rw [hz16]; rfl
  have hmk := make16
  rw [← hz16] at hmk
  clear hz16
  have hk0 := k.toNat_lt
  obtain ⟨W0, hW0⟩ : ∃ W0, W0 = w.alloc (.cells z16 5) := ⟨_, rfl⟩
  obtain ⟨W1, hW1⟩ : ∃ W1, W1 = W0.alloc (.cells #[.int .u8 (k.toNat : Int)] 5) := ⟨_, rfl⟩
  have hx0 : Ext w W0 := by rw [hW0]; exact (Upd.refl _ w).alloc _
  have hx1 : Ext W0 W1 := by rw [hW1]; exact (Upd.refl _ W0).alloc _
  have hr0 : W0.heap[w.heap.size]? = some (.cells z16 5 (0, 0)) := by rw [hW0]; exact heap_alloc_new w _
  have ho0 : Own W0 5 (.slice (some ⟨w.heap.size, 0, none⟩) 0 16) [] := ⟨rfl, .inr ⟨w.heap.size, 16, _, rfl, Nat.zero_le _, hr0, Nat.zero_le _, by unfold maxLen; omega, by simp [hzl], by simp⟩⟩
  have hrd : Rd W1 5 (.slice (some ⟨W0.heap.size, 0, none⟩) 1 1) [.int .u8 (k.toNat : Int)] := by rw [hW1]; exact Rd.one W0 _ _
  have hsz0 : W0.heap.size = w.heap.size + 1 := by rw [hW0]; simp
  rw [hsz0] at hrd
  have HA := Lib.hid (And.intro (own_ext ho0 hx1 (fun _ _ f => f)) hrd)
  have HX := Lib.hid (And.intro hx0 hx1)
  have HW0 := Lib.hid hW0
  have HW1 := Lib.hid hW1
  have hnn : ∀ (i : Nat), i < n → (i : Int) + 1 < 9223372036854775808 := fun i hi => by omega
  clear hsz0 hzl hr0 ho0 hrd hx0 hx1 hW0 hW1 hnn
  go_enter Tryz.func31, Tryz.ntmps31
  go_wp2_with (first
    | (at_builtin; rw [← HW0.out, ← HW1.out]; refine wpList_app rfl _ _ 23 rfl 5 _ _ (by kernel_rfl) info_u8 rfl _ [] rfl HA.out.1 _ [.int .u8 (k.toNat : Int)] rfl HA.out.2 (by simp [Value.oneCell']) (by simp) (by decide) ?_; intro v1 w1 ho1 hnw1 hU1)
    | fail)
  have hx1 : Ext w w1 := (HX.out.1.trans HX.out.2 (fun _ f => f.elim)).trans hU1 (fun i e => .inr (Nat.le_of_eq (Option.some.inj e)))
  go_loopw [5, 6] (fun v iv wr => ∃ i : Nat, 1 ≤ i ∧ i ≤ n ∧ iv = .int .i64 i ∧ Own wr 5 v (byv (sm k i)) ∧ Hid (∀ b, v.ownBlock = some b → w.heap.size ≤ b) ∧ Hid (Ext w wr)) (fun _ iv _ => n - (intOf iv).toNat)
  case atStart =>
    refine ⟨1, Nat.le_refl _, h1, rfl, by simpa [sm, byv] using ho1, fun b hb => ?_, hx1⟩
    rcases hnw1 b hb with e | e
    · cases e; exact Nat.le_refl _
    · have := HX.out.1.size; have := HX.out.2.size; omega
  case round =>
    obtain ⟨i, hi1, hi2, rfl, hown, HNW, HE⟩ := hrel
    by_cases hlt : i < n
    · have hk2 : ((k / 2).toNat : Int) = (k.toNat : Int) / 2 := by rw [UInt8.toNat_div]; rfl
      obtain ⟨W2, hW2⟩ : ∃ W2, W2 = wr.alloc (.cells #[.int .u8 ((k.toNat : Int) / 2)] 5) := ⟨_, rfl⟩
      have hx2 : Ext wr W2 := by rw [hW2]; exact (Upd.refl _ wr).alloc _
      have hrd : Rd W2 5 (.slice (some ⟨wr.heap.size, 0, none⟩) 1 1) [.int .u8 ((k.toNat : Int) / 2)] := by rw [hW2]; exact Rd.one wr _ _
      have hown2 : Own W2 5 _ (byv (sm k i)) := own_ext hown hx2 (fun _ _ f => f)
      have HA2 := Lib.hid (And.intro hown2 hrd)
      have HX2 := Lib.hid hx2
      have HW2 := Lib.hid hW2
      have HK2 := Lib.hid hk2
      obtain ⟨va, vc, rfl, -⟩ := own_slice hown
      obtain ⟨L, hL⟩ : ∃ L, L = (byv (sm k i)).length := ⟨_, rfl⟩
      rw [← hL] at HA2 HNW ⊢
      have hL2 : L = i := by rw [hL, byv_length, sm_length _ _ hi1]
      have HL := Lib.hid hL2
      clear hown hown2 hrd hx2 hW2 hx1 hU1 hnw1 ho1 hk2 hL hL2
      go_wp2_with (first
        | (at_builtin; rw [← HW2.out]; refine wpList_app rfl _ _ 23 rfl 5 _ _ (by kernel_rfl) info_u8 rfl _ (byv (sm k i)) rfl HA2.out.1 _ [.int .u8 ((k.toNat : Int) / 2)] rfl HA2.out.2 (by simp [Value.oneCell']) (by rw [byv_length, sm_length _ _ hi1]; simp; omega) (by decide) ?_; intro v3 w3 ho3 hnw3 hU3)
        | fail)
      go_roundw
      case rel =>
        refine ⟨i + 1, by omega, by omega, by go_num, ?_, fun b hb => ?_, ?_⟩
        · have e : byv (sm k (i + 1)) = byv (sm k i) ++ [.int .u8 ((k.toNat : Int) / 2)] := by
            have e2 : sm k (i + 1) = sm k i ++ [k / 2] := by
              unfold sm
              obtain ⟨j, rfl⟩ : ∃ j, i = j + 1 := ⟨i - 1, by omega⟩
              simp [List.replicate_succ']
            rw [e2, byv_append]
            show byv (sm k i) ++ [Value.int .u8 ((k / 2).toNat : Int)] = _
            rw [HK2.out]
          rw [e]; exact ho3
        · rcases hnw3 b hb with e | e
          · exact HNW.out b e
          · have := HE.out.size; have := HX2.out.size; omega
        · exact (HE.out.andExt HX2.out).trans hU3 (fun b e => .inr (HNW.out b e))
      case measure => simp [intOf]; omega
    · obtain rfl : i = n := by omega
      clear hx1 hU1 hnw1 ho1
      go_wp2_with fail
      go_ret
      exact ⟨_, rfl, own_rd hown, HE.out⟩
end Go.Proofs.YtecfhfddgolpfaaGreat

/- The law's own helpers: awake. -/
namespace Go.Proofs.YtecfhfddgolpfaaGreat
open Go.RowKit
variable {w w' : World}

theorem kc_at {P : Program} (w : World) (t e : TypeId) (C : Array Value) (n c g : Nat) (hg : g = w.heap.size) (ht : P.underlying t = some (.slice e)) (he : P.underlying e = some (.int .u8)) :
    (convert t t (.slice (some ⟨g, 0, none⟩) n c)).run P (w.alloc (.cells C e)) = .ok (.slice (some ⟨g, 0, none⟩) n c) (w.alloc (.cells C e (C.size, C.size + 1))) := by
  subst hg; exact Lib.run_convert_bytes_const w t e C n c ht he
theorem Rd.mark (w : World) (E : TypeId) (x : Value) (fr : Nat × Nat) : Rd (w.alloc (.cells #[x] E fr)) E (.slice (some ⟨w.heap.size, 0, none⟩) 1 1) [x] :=
  ⟨some ⟨w.heap.size, 0, none⟩, 1, rfl, Nat.le_refl _, by unfold maxLen; omega, fun h => by simp at h, .inr ⟨w.heap.size, 0, _, _, rfl, heap_alloc_new w _, fun j u hu => by simpa using hu⟩⟩
theorem u8_under : Tryz.prog.underlying 5 = some (.int .u8) := by kernel_rfl
theorem bs_under : Tryz.prog.underlying 23 = some (.slice 5) := by kernel_rfl
set_option maxHeartbeats 2000000 in
set_option maxRecDepth 100000 in
theorem awake_law (w : World) : Calls Tryz.prog 26 #[] w fun e w' => e = .returned (.bool true) ∧ Ext w w' := by
  go_enter Tryz.func26, Tryz.ntmps26
  go_wp2_with fail
  refine (diskS_new 80 (by omega) w).mono ?_
  rintro e w1 ⟨d, FD, rfl, hD, hFD, hx1⟩
  go_wp2_with fail
  refine (open_pgs hD (by omega) 20 (by omega) (pool := 4) (by omega) (by omega) (fun _ => [])).mono ?_
  rintro e w2 ⟨p, F, rfl, hP, hF, hx2⟩
  have H2 := Lib.hid (And.intro hD (And.intro hFD (And.intro hx1 (And.intro hP (And.intro hF hx2)))))
  clear hD hFD hx1 hP hF hx2
  go_wp2_with fail
  refine (open_tree p (-1) w2).mono ?_
  rintro e w3 ⟨rfl, ht, hx3⟩
  have hs1 := H2.out.2.2.1.size
  have hs2 := H2.out.2.2.2.2.2.size
  have hx03 : Ext w w3 := (H2.out.2.2.1.trans H2.out.2.2.2.2.2 (fun _ f => f.elim)).trans hx3 (fun _ f => f.elim)
  have hTS : TS w.heap.size w3 w2.heap.size p 0 4 80 0 20 [] := ts_new ht (H2.out.2.2.2.1.ext hx3) (fun i hi => (H2.out.2.2.2.2.1 i hi).elim (H2.out.2.1 i) (fun e => by omega)) (by omega)
  have H3 := Lib.hid (And.intro hx03 hTS)
  clear ht hx3 hx03 hTS
  have k1 := kc_at (P := Tryz.prog) w3 23 5 #[.int .u8 97] 1 1 w3.heap.size rfl bs_under u8_under
  have k2 := kc_at (P := Tryz.prog) (w3.alloc (.cells #[.int .u8 97] 5 (1, 2))) 23 5 #[.int .u8 98] 1 1 (w3.heap.size + 1) (by simp) bs_under u8_under
  go_wp2_with fail
  obtain ⟨W4, hW4⟩ : ∃ W4, W4 = w3.alloc (.cells #[.int .u8 97] 5 (1, 2)) := ⟨_, rfl⟩
  obtain ⟨W5, hW5⟩ : ∃ W5, W5 = W4.alloc (.cells #[.int .u8 98] 5 (1, 2)) := ⟨_, rfl⟩
  have hx4 : Ext w3 W4 := by rw [hW4]; exact (Upd.refl _ w3).alloc _
  have hx5 : Ext W4 W5 := by rw [hW5]; exact (Upd.refl _ W4).alloc _
  have hz4 : W4.heap.size = w3.heap.size + 1 := by rw [hW4]; simp
  have hka : Bts W5 (.slice (some ⟨w3.heap.size, 0, none⟩) 1 1) [97] := Rd.ext (show Rd W4 _ _ _ by rw [hW4]; exact Rd.mark w3 _ _ _) hx5
  have hkb : Bts W5 (.slice (some ⟨W4.heap.size, 0, none⟩) 1 1) [98] := by
    have : Rd W5 5 (.slice (some ⟨W4.heap.size, 0, none⟩) 1 1) [.int .u8 98] := by rw [hW5]; exact Rd.mark W4 _ _ _
    exact this
  rw [hz4] at hkb
  rw [← hW4, ← hW5]
  have hs3 := H3.out.1.size
  have hs4 := hx4.size
  have hs5 := hx5.size
  refine (ts_put ((H3.out.2.ext hx4).ext hx5) (by omega) (by simp) (.inl ⟨rfl, by omega⟩) (by omega) _ _ _ _ hka hkb (by simp) (by simp) (by simp)).mono ?_
  rintro e w6 ⟨rfl, hT6, hU6, hB6⟩
  obtain ⟨W7, hW7⟩ : ∃ W7, W7 = w6.alloc (.cells #[.int .u8 97] 5 (1, 2)) := ⟨_, rfl⟩
  have hx7 : Ext w6 W7 := by rw [hW7]; exact (Upd.refl _ w6).alloc _
  have hkc : Bts W7 (.slice (some ⟨w6.heap.size, 0, none⟩) 1 1) [97] := by
    have : Rd W7 5 (.slice (some ⟨w6.heap.size, 0, none⟩) 1 1) [.int .u8 97] := by rw [hW7]; exact Rd.mark w6 _ _ _
    exact this
  have hs6 := hU6.size
  have hs7 := hx7.size
  have hG := ts_get (hT6.ext hx7) (by omega) (by simp [ins]) (by omega) _ _ hkc
  have HG := Lib.hid hG
  have hx67 : Ext w w6 := ((H3.out.1.andExt hx4).andExt hx5).trans hU6 (fun i e => .inr e)
  have HX := Lib.hid (hx67.andExt hx7)
  have HW7 := Lib.hid hW7
  have HS := Lib.hid (show w.heap.size ≤ W7.heap.size by omega)
  have k3 := kc_at (P := Tryz.prog) w6 23 5 #[.int .u8 97] 1 1 w6.heap.size rfl bs_under u8_under
  clear k1 k2 hW4 hW5 hx4 hx5 hz4 hka hkb hs3 hs4 hs5 hT6 hU6 hB6 hW7 hx7 hkc hs6 hs7 hG hx67 hs1 hs2
  go_wp2_with fail
  rw [← HW7.out]
  refine HG.out.mono ?_
  rintro e w8 ⟨v, rfl, hv, hT8, hU8, hB8⟩
  have hlk : look [97] (ins [97] [98] []) = some [98] := by decide
  rw [hlk] at hv ⊢
  obtain ⟨va, vc, rfl, hc1, hc2, hc3, hc4⟩ := Bts.open hv
  have hcv : (convert 23 9 (.slice va 1 vc)).run Tryz.prog w8 = .ok (.string ⟨#[98]⟩) w8 := run_conv_bytes hc4 hc3 hc1
  have HX8 := Lib.hid (HX.out.trans hU8 (fun i e => .inr e))
  clear hlk hv hT8 hU8 hB8 hc1 hc2 hc3 hc4
  go_wp2_with fail
  go_ret
  exact ⟨rfl, HX8.out⟩
end Go.Proofs.YtecfhfddgolpfaaGreat

/- TreeSizes: the walk. -/
namespace Go.Proofs.YtecfhfddgolpfaaGreat
open Go.RowKit
variable {w w' : World}

/-- The entries after i of the law's puts. -/
def esN : Nat → List Ent
  | 0 => []
  | i + 1 => ins (sm (UInt8.ofNat (i + 1)) 100) (sm 7 200) (esN i)
theorem esN_mem : ∀ (i : Nat) (e : Ent), e ∈ esN i → ∃ j, j < i ∧ e.1 = sm (UInt8.ofNat (j + 1)) 100
  | 0, e, h => by simp [esN] at h
  | i + 1, e, h => by
    rcases ins_mem _ _ _ e h with rfl | h
    · exact ⟨i, by omega, rfl⟩
    · obtain ⟨j, h1, h2⟩ := esN_mem i e h
      exact ⟨j, by omega, h2⟩
theorem esN_head {i : Nat} (hi : i ≤ 100) {e : Ent} (h : e ∈ esN i) : ∃ b l, e.1 = b :: l ∧ b ≠ 0 := by
  obtain ⟨j, h1, h2⟩ := esN_mem i e h
  refine ⟨_, _, h2, fun e => ?_⟩
  have := congrArg UInt8.toNat e
  simp at this
  omega
theorem esN_len : ∀ (i : Nat), i ≤ 100 → (esN i).length = i
  | 0, _ => rfl
  | i + 1, h => by
    rw [esN, ins_new, esN_len i (by omega)]
    intro e he e2
    obtain ⟨j, h1, h2⟩ := esN_mem i e he
    rw [h2] at e2
    have := (List.cons.inj e2).1
    have := congrArg UInt8.toNat this
    simp at this
    omega
theorem esN_zero {i : Nat} (hi : i ≤ 100) (n : Nat) : ∀ e ∈ esN i, e.1 ≠ List.replicate n 0 := by
  intro e he e2
  obtain ⟨b, l, h1, h2⟩ := esN_head hi he
  rw [h1] at e2
  cases n with
  | zero => simp at e2
  | succ n => rw [List.replicate_succ] at e2; exact h2 (List.cons.inj e2).1
theorem zeros_bts {W : World} {g a : Nat} (h : W.heap[g]? = some (.cells (byv (List.replicate a 0)).toArray 5 (0, 0))) (ha : a ≤ 1000) : Bts W (.slice (some ⟨g, 0, none⟩) a a) (List.replicate a 0) := by
  refine ⟨some ⟨g, 0, none⟩, a, by rw [byv_length, List.length_replicate], by rw [byv_length, List.length_replicate]; exact Nat.le_refl _, by unfold maxLen; omega, fun h => by simp at h, .inr ⟨g, 0, _, _, rfl, h, fun j u hu => by simpa using hu⟩⟩
theorem zeros2 (wr : World) (a b : Nat) (ha : a ≤ 1000) (hb : b ≤ 1000) :
    Bts ((wr.alloc (.cells (byv (List.replicate a 0)).toArray 5)).alloc (.cells (byv (List.replicate b 0)).toArray 5)).drew (.slice (some ⟨wr.heap.size, 0, none⟩) a a) (List.replicate a 0) ∧
    Bts ((wr.alloc (.cells (byv (List.replicate a 0)).toArray 5)).alloc (.cells (byv (List.replicate b 0)).toArray 5)).drew (.slice (some ⟨wr.heap.size + 1, 0, none⟩) b b) (List.replicate b 0) ∧
    Ext wr ((wr.alloc (.cells (byv (List.replicate a 0)).toArray 5)).alloc (.cells (byv (List.replicate b 0)).toArray 5)).drew :=
  ⟨zeros_bts (by exact heap_alloc2_old _ _ _) ha, zeros_bts (by exact heap_alloc2_new _ _ _) hb, (((Upd.refl _ wr).alloc _).alloc _).drew⟩
set_option maxHeartbeats 4000000 in
set_option maxRecDepth 100000 in
theorem sizes_law (k v : Nat) (hk : k < 65536) (hv : v < 65536) (w : World) : Calls Tryz.prog 8 #[.int .u16 k, .int .u16 v] w fun e w' => e = .returned (.bool true) ∧ Ext w w' := by
  go_enter Tryz.func8, Tryz.ntmps8
  go_wp2_with fail
  refine (awake_law w).mono ?_
  rintro e w0 ⟨rfl, hx0⟩
  go_wp2_with fail
  refine (diskS_new 400 (by omega) w0).mono ?_
  rintro e w1 ⟨d, FD, rfl, hD, hFD, hx1⟩
  go_wp2_with fail
  refine (open_pgs hD (by omega) 100 (by omega) (pool := 4) (by omega) (by omega) (fun _ => [])).mono ?_
  rintro e w2 ⟨p, F, rfl, hP, hF, hx2⟩
  have hx02 : Ext w w2 := (hx0.trans hx1 (fun _ f => f.elim)).trans hx2 (fun _ f => f.elim)
  have H2 := Lib.hid (And.intro hP (And.intro hF (And.intro hFD (And.intro hx0 (And.intro hx1 (And.intro hx2 hx02))))))
  clear hD hFD hx0 hx1 hP hF hx2 hx02
  go_wp2_with fail
  refine (open_tree p (-1) w2).mono ?_
  rintro e w3 ⟨rfl, ht, hx3⟩
  have hTS : TS w.heap.size w3 w2.heap.size p 0 4 400 0 100 [] := by
    obtain ⟨hP, hF, hFD, hx0, hx1, hx2, hx02⟩ := H2.out
    have := hx0.size; have := hx1.size; have := hx2.size
    exact ts_new ht (hP.ext hx3) (fun i hi => (hF i hi).elim (fun e => by have := hFD i e; omega) (fun e => by omega)) (by omega)
  have hx03 : Ext w w3 := H2.out.2.2.2.2.2.2.trans hx3 (fun _ f => f.elim)
  have H3 := Lib.hid (And.intro hTS hx03)
  clear ht hx3 hTS hx03
  go_wp2_with fail
  go_loopw [9] (fun iv wr => ∃ i : Nat, i ≤ 20 ∧ iv = .int .i64 i ∧ Hid (TS w.heap.size wr w2.heap.size p 0 4 400 (800 * i) 100 (esN i)) ∧ Hid (Ext w wr)) (fun iv _ => 20 - (intOf iv).toNat)
  case atStart => exact ⟨0, by omega, rfl, H3.out.1, H3.out.2⟩
  case round =>
    obtain ⟨i, hi, rfl, HT, HX⟩ := hrel
    by_cases hlt : i < 20
    · have e1 : ((UInt8.ofNat (i + 1)).toNat : Int) = (i : Int) + 1 := by
        have : (UInt8.ofNat (i + 1)).toNat = i + 1 := by simp; omega
        omega
      have hs1 : Calls Tryz.prog 31 #[.int .u8 ((i : Int) + 1), .int .i64 100] wr fun e w' => ∃ v, e = .returned v ∧ Bts w' v (sm (UInt8.ofNat (i + 1)) 100) ∧ Ext wr w' := by
        have := some_law (UInt8.ofNat (i + 1)) 100 (by omega) (by omega) wr
        rw [e1] at this; exact this
      have HS1 := Lib.hid hs1
      have HSZ := Lib.hid (show w.heap.size ≤ wr.heap.size from HX.out.size)
      clear e1 hs1
      go_wp2_with fail
      refine HS1.out.mono ?_
      rintro e w4 ⟨va, rfl, hba, hx4⟩
      have H4 := Lib.hid (And.intro hba hx4)
      clear hba hx4
      go_wp2_with fail
      have hs2 : Calls Tryz.prog 31 #[.int .u8 7, .int .i64 200] w4 fun e w' => ∃ v, e = .returned v ∧ Bts w' v (sm 7 200) ∧ Ext w4 w' := some_law 7 200 (by omega) (by omega) w4
      refine hs2.mono ?_
      rintro e w5 ⟨vb, rfl, hbb, hx5⟩
      have hs4 := H4.out.2.size
      have hs5 := hx5.size
      have hT5 := (HT.out.ext H4.out.2).ext hx5
      have hput := ts_put hT5 (by omega) (by rw [esN_len i (by omega)]; omega) (.inr (by rw [esN_len i (by omega)]; omega)) (by have := HSZ.out; omega) va vb _ _ (H4.out.1.ext hx5) hbb (by rw [sm_length _ _ (by omega)]; omega) (by rw [sm_length _ _ (by omega)]; omega) (by rw [sm_length _ _ (by omega)]; omega)
      have HP := Lib.hid hput
      have HX5 := Lib.hid (show Ext w w5 from (HX.out.andExt H4.out.2).andExt hx5)
      clear hs2 hbb hx5 hs4 hs5 hT5 hput
      go_wp2_with fail
      refine HP.out.mono ?_
      rintro e w6 ⟨rfl, hT6, hU6, -⟩
      have H6 := Lib.hid (And.intro hT6 hU6)
      clear hT6 hU6
      go_wp2_with fail
      go_roundw
      case rel => exact ⟨i + 1, by omega, by go_num, by rw [show 800 * (i + 1) = 800 * i + 800 by omega]; exact H6.out.1, HX5.out.trans H6.out.2 (fun b e => .inr e)⟩
      case measure => simp [intOf]; omega
    · obtain rfl : i = 20 := by omega
      obtain ⟨a, ha⟩ : ∃ a, a = k % 400 := ⟨_, rfl⟩
      obtain ⟨b, hb⟩ : ∃ b, b = v % 400 := ⟨_, rfl⟩
      have ha4 : a < 400 := by omega
      have hb4 : b < 400 := by omega
      have hka : (k : Int) % 400 = a := by omega
      have hvb : (v : Int) % 400 = b := by omega
      have hma := fun wz => make_zeros a (by omega) wz
      have hmb := fun wz => make_zeros b (by omega) wz
      have HAB := Lib.hid (And.intro ha hb)
      clear ha hb
      go_upto_region 11 with fail
      go_cut [10, 11] (fun av bv wx => ∃ na nb, av = .slice (some ⟨na, 0, none⟩) a a ∧ bv = .slice (some ⟨nb, 0, none⟩) b b ∧ Hid (Bts wx av (List.replicate a 0) ∧ Bts wx bv (List.replicate b 0) ∧ Ext wr wx))
      case first =>
        have hz1 := zeros2 wr a b (by omega) (by omega)
        have hz2 := zeros2 wr b a (by omega) (by omega)
        have HZ := Lib.hid (And.intro hz1 hz2)
        clear hz1 hz2
        go_region
        · go_wp2_with fail
          go_meet
          exact ⟨_, _, rfl, rfl, HZ.out.1⟩
        · go_wp2_with fail
          go_meet
          exact ⟨_, _, rfl, rfl, HZ.out.2.2.1, HZ.out.2.1, HZ.out.2.2.2⟩
      case rest =>
        obtain ⟨na, nb, rfl, rfl, HB⟩ := hcut
        clear hma hmb hka hvb
        by_cases c1 : (1 : Int) ≤ (a : Int)
        · by_cases c2 : (a : Int) ≤ 240
          · by_cases c3 : (b : Int) ≤ 260
            · skip
              have hput := ts_put (HT.out.ext HB.out.2.2) (by omega) (by rw [esN_len 20 (by omega)]; omega) (.inr (by rw [esN_len 20 (by omega)]; omega)) (by have := HB.out.2.2.size; have := HX.out.size; omega) (.slice (some ⟨na, 0, none⟩) a a) (.slice (some ⟨nb, 0, none⟩) b b) _ _ HB.out.1 HB.out.2.1 (by rw [List.length_replicate]; omega) (by rw [List.length_replicate]; omega) (by rw [List.length_replicate]; omega)
              have HP := Lib.hid hput
              have HS := Lib.hid (show w.heap.size ≤ wc.heap.size by have := HB.out.2.2.size; have := HX.out.size; omega)
              clear hput
              go_wp2_with fail
              refine HP.out.mono ?_
              rintro e w7 ⟨rfl, hT7, hU7, hB7⟩
              have hlen : (ins (List.replicate a 0) (List.replicate b 0) (esN 20)).length = 21 := by rw [ins_new _ _ _ (esN_zero (by omega) a), esN_len 20 (by omega)]
              have hget := ts_get hT7 (by omega) (by rw [hlen]; omega) (by have := HS.out; have := hU7.size; omega) (.slice (some ⟨na, 0, none⟩) a a) _ (hB7 _ _ HB.out.1)
              rw [look_ins] at hget
              have HG := Lib.hid hget
              have HU7 := Lib.hid hU7
              have HL := Lib.hid hlen
              clear hT7 hU7 hB7 hlen hget
              go_wp2_with fail
              refine HG.out.mono ?_
              rintro e w8 ⟨vr, rfl, hvr, hT8, hU8, -⟩
              have hvr2 : Bts w8 vr (List.replicate b 0) := hvr
              obtain ⟨ra, rc, e8, -⟩ := hvr2.open
              rw [List.length_replicate] at e8
              rw [e8]
              have hcount := ts_count hT8 (fun e => by have := HL.out; rw [e] at this; simp at this) (by omega) (by rw [HL.out]; omega) (by have := HS.out; have := HU7.out.size; have := hU8.size; omega)
              rw [HL.out] at hcount
              have HC := Lib.hid hcount
              have HU8 := Lib.hid hU8
              clear hvr hvr2 e8 hT8 hU8 hcount
              go_wp2_with fail
              refine HC.out.mono ?_
              rintro e w9 ⟨rfl, -, hU9, -⟩
              have HU9 := Lib.hid hU9
              clear hU9
              go_wp2_with fail
              go_ret
              exact ⟨rfl, (((HX.out.andExt HB.out.2.2).trans HU7.out (fun b e => .inr e)).trans HU8.out (fun b e => .inr e)).trans HU9.out (fun b e => .inr e)⟩
            · skip
              have hput := Put_bad_aux (t := w2.heap.size) a b (by omega) (some ⟨na, 0, none⟩) (some ⟨nb, 0, none⟩) a b (by omega) (by omega) wc
              have HP := Lib.hid hput
              have hlk : look (List.replicate a 0) (esN 20) = none := look_none _ _ (esN_zero (by omega) a)
              have hget := ts_get (HT.out.ext HB.out.2.2) (by omega) (by rw [esN_len 20 (by omega)]; omega) (by have := HB.out.2.2.size; have := HX.out.size; omega) (.slice (some ⟨na, 0, none⟩) a a) _ HB.out.1
              rw [hlk] at hget
              have HG := Lib.hid hget
              have HS := Lib.hid (show w.heap.size ≤ wc.heap.size by have := HB.out.2.2.size; have := HX.out.size; omega)
              clear hput hlk hget
              go_wp2_with fail
              refine HP.out.mono ?_
              rintro e w7 ⟨rfl, hw7⟩
              rw [hw7]
              clear hw7
              go_wp2_with fail
              refine HG.out.mono ?_
              rintro e w8 ⟨vr, rfl, hvr, hT8, hU8, -⟩
              obtain rfl : vr = .slice none 0 0 := hvr
              have hcount := ts_count hT8 (fun e => by have := esN_len 20 (by omega); rw [e] at this; simp at this) (by omega) (by rw [esN_len 20 (by omega)]; omega) (by have := HS.out; have := hU8.size; omega)
              rw [esN_len 20 (by omega)] at hcount
              have HC := Lib.hid hcount
              have HU8 := Lib.hid hU8
              clear hT8 hU8 hcount
              go_wp2_with fail
              refine HC.out.mono ?_
              rintro e w9 ⟨rfl, -, hU9, -⟩
              have HU9 := Lib.hid hU9
              clear hU9
              go_wp2_with fail
              go_ret
              exact ⟨rfl, ((HX.out.andExt HB.out.2.2).trans HU8.out (fun b e => .inr e)).trans HU9.out (fun b e => .inr e)⟩
          · skip
            have hput := Put_bad_aux (t := w2.heap.size) a b (by omega) (some ⟨na, 0, none⟩) (some ⟨nb, 0, none⟩) a b (by omega) (by omega) wc
            have HP := Lib.hid hput
            have hlk : look (List.replicate a 0) (esN 20) = none := look_none _ _ (esN_zero (by omega) a)
            have hget := ts_get (HT.out.ext HB.out.2.2) (by omega) (by rw [esN_len 20 (by omega)]; omega) (by have := HB.out.2.2.size; have := HX.out.size; omega) (.slice (some ⟨na, 0, none⟩) a a) _ HB.out.1
            rw [hlk] at hget
            have HG := Lib.hid hget
            have HS := Lib.hid (show w.heap.size ≤ wc.heap.size by have := HB.out.2.2.size; have := HX.out.size; omega)
            clear hput hlk hget
            go_wp2_with fail
            refine HP.out.mono ?_
            rintro e w7 ⟨rfl, hw7⟩
            rw [hw7]
            clear hw7
            go_wp2_with fail
            refine HG.out.mono ?_
            rintro e w8 ⟨vr, rfl, hvr, hT8, hU8, -⟩
            obtain rfl : vr = .slice none 0 0 := hvr
            have hcount := ts_count hT8 (fun e => by have := esN_len 20 (by omega); rw [e] at this; simp at this) (by omega) (by rw [esN_len 20 (by omega)]; omega) (by have := HS.out; have := hU8.size; omega)
            rw [esN_len 20 (by omega)] at hcount
            have HC := Lib.hid hcount
            have HU8 := Lib.hid hU8
            clear hT8 hU8 hcount
            go_wp2_with fail
            refine HC.out.mono ?_
            rintro e w9 ⟨rfl, -, hU9, -⟩
            have HU9 := Lib.hid hU9
            clear hU9
            go_wp2_with fail
            go_ret
            exact ⟨rfl, ((HX.out.andExt HB.out.2.2).trans HU8.out (fun b e => .inr e)).trans HU9.out (fun b e => .inr e)⟩
        · skip
          have hput := Put_bad_aux (t := w2.heap.size) a b (by omega) (some ⟨na, 0, none⟩) (some ⟨nb, 0, none⟩) a b (by omega) (by omega) wc
          have HP := Lib.hid hput
          have hlk : look (List.replicate a 0) (esN 20) = none := look_none _ _ (esN_zero (by omega) a)
          have hget := ts_get (HT.out.ext HB.out.2.2) (by omega) (by rw [esN_len 20 (by omega)]; omega) (by have := HB.out.2.2.size; have := HX.out.size; omega) (.slice (some ⟨na, 0, none⟩) a a) _ HB.out.1
          rw [hlk] at hget
          have HG := Lib.hid hget
          have HS := Lib.hid (show w.heap.size ≤ wc.heap.size by have := HB.out.2.2.size; have := HX.out.size; omega)
          clear hput hlk hget
          go_wp2_with fail
          refine HP.out.mono ?_
          rintro e w7 ⟨rfl, hw7⟩
          rw [hw7]
          clear hw7
          go_wp2_with fail
          refine HG.out.mono ?_
          rintro e w8 ⟨vr, rfl, hvr, hT8, hU8, -⟩
          obtain rfl : vr = .slice none 0 0 := hvr
          have hcount := ts_count hT8 (fun e => by have := esN_len 20 (by omega); rw [e] at this; simp at this) (by omega) (by rw [esN_len 20 (by omega)]; omega) (by have := HS.out; have := hU8.size; omega)
          rw [esN_len 20 (by omega)] at hcount
          have HC := Lib.hid hcount
          have HU8 := Lib.hid hU8
          clear hT8 hU8 hcount
          go_wp2_with fail
          refine HC.out.mono ?_
          rintro e w9 ⟨rfl, -, hU9, -⟩
          have HU9 := Lib.hid hU9
          clear hU9
          go_wp2_with fail
          go_ret
          exact ⟨rfl, ((HX.out.andExt HB.out.2.2).trans HU8.out (fun b e => .inr e)).trans HU9.out (fun b e => .inr e)⟩
end Go.Proofs.YtecfhfddgolpfaaGreat

/- For all 16-bit k and v munimentlaw11.TreeSizes answers true, and its arguments read as before: Rows.TreeSizesSaid. -/
namespace Go.Proofs.YtecfhfddgolpfaaGreat.treeSizes
open Go.ChangeShapes Go.WideShapes Go.ChangeAt Go.RowKit
set_option linter.unusedVariables false      -- a walk need not use every 'w<i>' (that an integer argument fits its kind)

theorem own : ownKnob Tryz.prog.godebug = none := by kernel_rfl

theorem walk (a0 a1 : Int) (w0 : (Lit.int .u16 a0).wf = true) (w1 : (Lit.int .u16 a1).wf = true) (w : World) :
    Calls Tryz.prog 8 #[.int .u16 a0, .int .u16 a1] w fun e w' => e = .returned (.bool true) ∧ Below w.heap.size w w' := by
  have e1 : IntKind.u16.min = 0 := by decide
  have e2 : IntKind.u16.max = 65535 := by decide
  simp [Lit.wf, e1, e2] at w0 w1
  obtain ⟨k, rfl⟩ : ∃ k : Nat, a0 = k := ⟨a0.toNat, by omega⟩
  obtain ⟨v, rfl⟩ : ∃ v : Nat, a1 = v := ⟨a1.toNat, by omega⟩
  refine (sizes_law k v (by omega) (by omega) w).mono ?_
  rintro e w' ⟨rfl, h⟩
  exact ⟨rfl, h.below (Nat.le_refl _) (fun _ _ f => f)⟩

/-! ### THE ROW's STEP: WRITTEN OUT: LEAVE IT -/
set_option maxRecDepth 100000 in
theorem lifted (os : Os) (started : os.Started) (H : Type) (enc : TypeId × Value → H) :
    ReturnsInHanded {} Tryz.checked os 8 .any (Rows.treeSizesSpec.pre6 enc Tryz.prog Tryz.f8 Rows.treeSizesRow.domain false) (Rows.treeSizesSpec.post enc Tryz.prog Tryz.f8 false true false false) := by
  refine returnsInHanded_of_change (C := Tryz.checked) own started (by kernel_rfl) Tryz.func8
    (ChangeSpec.witness6 (enc := enc) (C := Tryz.checked) false ⟨#[], #[.int .u16 0, .int .u16 0], []⟩ 8 (by kernel_rfl) (by kernel_rfl) (by kernel_rfl) (by kernel_rfl)) ?_
  intro W base args ds gs before hval0 hW hcnd _
  have hval : ∀ (j : Nat) t v, Tryz.f8.params[j]? = some t → args[j]? = some v → Value.okWide Tryz.prog W .any base t v := hval0
  have hW' := hW
  obtain ⟨p, q, hA0, hV, rfl, hfz, hnd⟩ := hW
  have hA : DataW.TrodAll enc Tryz.prog W 0 (fun _ => true) true Tryz.f8.params.toList args.toList ds p := hA0
  rw [Tryz.params8] at hA hval
  obtain ⟨v0, vs0, d0, ds0, p0, q0, hargs, rfl, rfl, h0, r0⟩ := trodAll_cons hA
  obtain ⟨v1, vs1, d1, ds1, p1, q1, rfl, rfl, rfl, h1, r1⟩ := trodAll_cons r0
  obtain ⟨rfl, rfl, rfl⟩ := trodAll_nil r1
  obtain rfl : args = #[v0, v1] := by cases args; simp_all
  obtain ⟨rfl, rfl⟩ := trodVars_none hV
  obtain ⟨a0, rfl, rfl, rfl, w0⟩ := open_int Tryz.underlying65 (hval 0 65 v0 rfl rfl) h0
  obtain ⟨a1, rfl, rfl, rfl, w1⟩ := open_int Tryz.underlying65 (hval 1 65 v1 rfl rfl) h1
  clear hA0 hval0
  simp only [List.append_nil] at hW'
  refine (walk a0 a1 w0 w1 W).mono fun e W' ⟨he, hg⟩ => ?_
  subst he
  exact ⟨_, rfl, _, _, _, [], [], [], hW', (trodAll_cons_mk (shut_bool Tryz.underlying4 _) trodAll_mk0), (trodAll_cons_mk (shut_int Tryz.underlying65 w0) (trodAll_cons_mk (shut_int Tryz.underlying65 w1) trodAll_mk0)), rfl, hg.frame _, fun h => by cases h⟩

theorem over : Rows.treeSizesRow.holds Tryz.pinned (OpenSpec.ofChange Rows.treeSizesSpec) :=
  OpenClaim.holds_of_wide 8 Tryz.f8 rfl rfl rfl rfl rfl rfl rfl ⟨rfl, rfl, rfl, rfl, rfl⟩ rfl rfl rfl rfl rfl (by kernel_rfl) Tryz.func8 (by kernel_rfl)
    (of_decide_eq_true (by kernel_rfl)) (by unfold Func.isWrapper; first | (rw [if_pos (by decide +kernel)]; kernel_rfl) | (rw [if_neg (by decide +kernel)]; exact ⟨rfl, rfl⟩))
    (fun os started H enc _ => lifted os started H enc)

/-- ████ THE STATEMENT ████ -/
theorem proved : Rows.TreeSizesSaid :=
  over
#print axioms proved
end Go.Proofs.YtecfhfddgolpfaaGreat.treeSizes
