/- node.Write of a formed node. -/
import Derived.Test.YtecfhfddgolpfaaGreatNodeC
namespace Go.Proofs.YtecfhfddgolpfaaGreat
open Go.RowKit

theorem make1024 (w : World) : (Instr.makeSlice 23 (.int .i64 0) (.int .i64 1024)).run Tryz.prog w = .ok (.slice (some ⟨w.heap.size, 0, none⟩) 0 1024) (w.alloc (.cells (byv (pad [])).toArray 5)) := by
  obtain ⟨i, hi, hz0, hz1, hz2⟩ := info_parts info_u8
  have := run_make (P := Tryz.prog) w 23 5 i _ (by kernel_rfl) hi hz0 .i64 .i64 0 1024 (by omega) (by omega) (by rw [hz2]; decide) (by decide)
  rw [this, hz1]
  have e : madeCells (Value.cells (.int .u8 0)) (Int.toNat 1024 * 1) = (byv (pad [])).toArray := by
    apply Array.ext'
    show (madeCells #[.int .u8 0] 1024).toList = _
    rw [toList_madeCells_one]
    unfold byv pad
    rw [List.nil_append, List.map_replicate]
    rfl
  rw [e]
  rfl
theorem u8_of (n : Nat) : ((UInt8.ofNat n).toNat : Int) = (n % 256 : Nat) := by simp

theorem write_end (x : Nd) (g : Nat) (w _ wr : World) (hb : Buf wr g (encTo x x.keys.length)) (hz : szTo x x.keys.length ≤ 1024) (hg : w.heap.size ≤ g) (hU : Ext w wr) :
    ∃ v, Ending.returned (.tuple #[.slice (some ⟨g, 0, none⟩) 1024 1024, .int .i64 0]) = .returned (.tuple #[v, .int .i64 0]) ∧ Own wr 5 v (byv (page x)) ∧ Nw w (.slice none 0 0) v ∧ Ext w wr := by
  have hl : (byv (page x)).length = 1024 := by rw [byv_length]; exact page_length x hz
  have h1024 : (1024 : Nat) ≤ maxLen := by unfold maxLen; omega
  have hs : (byv (pad (encTo x x.keys.length))).toArray.size = 1024 * 1 := by rw [List.size_toArray]; exact hl
  refine ⟨_, rfl, ⟨(Nat.mul_one _).symm, .inr ⟨g, 1024, _, by rw [hl], Nat.zero_le _, hb.2, Nat.le_of_eq hl, h1024, hs, ?_⟩⟩, fun k hk => .inr ?_, hU⟩
  · rw [List.take_of_length_le (Nat.le_of_eq (by simp [page]))]
    rfl
  · simp [Value.ownBlock] at hk
    omega

set_option maxRecDepth 100000 in
set_option maxHeartbeats 2000000 in
theorem write_any (x : Nd) (ak av ac : Option Addr) (ck cv cc : Nat) (kvs vvs : List Value) (w : World) (h : NodeAt w x ak ck av cv ac cc kvs vvs) (hs : Small x) (hx : Shaped x) (hsz : nsize x ≤ 1024) :
    Calls Tryz.prog 78 #[nodeV x ak ck av cv ac cc] w fun e w' => ∃ v, e = .returned (.tuple #[v, .int .i64 0]) ∧ Own w' 5 v (byv (page x)) ∧ Nw w (.slice none 0 0) v ∧ Ext w w' := by
  have hn : x.keys.length ≤ 4000 := hs.n
  obtain ⟨W0, hW0⟩ : ∃ W0, W0 = w.alloc (.cells #[.bool x.leaf, .slice ak x.keys.length ck, .slice av x.vals.length cv, .slice ac x.kids.length cc] 144) := ⟨_, rfl⟩
  have hU0 : Ext w W0 := by rw [hW0]; exact (Upd.refl _ w).alloc _
  have hsz0 : w.heap.size < W0.heap.size := by rw [hW0]; simp
  have c0 : W0.cell? ⟨w.heap.size, 0, none⟩ = some (.bool x.leaf) := by rw [hW0, World.cell?_alloc_new]; rfl
  have c1 : W0.cell? ⟨w.heap.size, 1, none⟩ = some (.slice ak x.keys.length ck) := by rw [hW0, World.cell?_alloc_new]; rfl
  have c2 : W0.cell? ⟨w.heap.size, 2, none⟩ = some (.slice av x.vals.length cv) := by rw [hW0, World.cell?_alloc_new]; rfl
  have c3 : W0.cell? ⟨w.heap.size, 3, none⟩ = some (.slice ac x.kids.length cc) := by rw [hW0, World.cell?_alloc_new]; rfl
  have hfm := formed_any x ak av ac ck cv cc kvs vvs W0 (h.ext hU0) hs hx
  rw [decide_eq_true hsz] at hfm
  unfold nodeV at hfm
  have HF := Lib.hid hfm
  have HN := Lib.hid (h.ext hU0)
  have HX := Lib.hid hx
  have HS := Lib.hid hs
  have hszT : ∀ k, k ≤ x.keys.length → szTo x k ≤ 1024 := fun k hk => by
    have : ∀ d k, k + d = x.keys.length → szTo x k ≤ nsize x := by
      intro d
      induction d with
      | zero => intro k hk; unfold nsize; rw [← hk]; exact Nat.le_refl _
      | succ d ih => intro k hk; have := ih (k + 1) (by omega); unfold szTo at this; omega
    have := this (x.keys.length - k) k (by omega)
    omega
  have HT := Lib.hid hszT
  clear hszT hfm h hx hs hsz
  have hstep : ∀ (g : Nat) (a b : World), W0.heap.size ≤ g → Ext W0 a → Upd (fun k => k = g) a b → Ext W0 b := fun g a b hg h1 h2 => h1.trans h2 (fun i hi => .inr (by omega))
  have HSTEP := Lib.hid hstep
  clear hstep
  cases hl : x.leaf with
  | true =>
    obtain ⟨hv1, hv2, hv3⟩ := HX.out.leafv hl
    rw [hl] at c0
    have HL := Lib.hid hl
    have HV1 := Lib.hid hv1
    have HV3 := Lib.hid hv3
    have hvn : x.vals.length ≤ 4000 := HS.out.vn
    have hfm := HF.out
    have hW := hW0
    rw [hl] at hfm hW
    have HFF := Lib.hid hfm
    have HU0 := Lib.hid hU0
    have HSZ := Lib.hid hsz0
    clear hfm hv2 hl hv1 hv3 hW0 hU0 hsz0
    unfold nodeV
    rw [HL.out]
    have hmk := make1024
    have hnn : x.keys.length < 65536 := by omega
    go_enter Tryz.func78, Tryz.ntmps78
    have HMK := Lib.hid hmk
    clear hmk
    go_wp2_with fail
    rw [← hW]
    have HW := Lib.hid hW
    clear hW
    refine HFF.out.mono ?_
    rintro e w1 ⟨rfl, hU1⟩
    have hmk := HMK.out w1
    have d0 := hU1.cell c0 (fun h => h)
    have d1 := hU1.cell c1 (fun h => h)
    obtain ⟨g, hg⟩ : ∃ g, g = w1.heap.size := ⟨_, rfl⟩
    obtain ⟨w2, hw2⟩ : ∃ w2, w2 = w1.alloc (.cells (byv (pad [])).toArray 5) := ⟨_, rfl⟩
    have hgW : W0.heap.size ≤ g := by rw [hg]; exact hU1.size
    have hU2 : Ext W0 w2 := by rw [hw2]; exact hU1.alloc _
    have hb2 : Buf w2 g [] := ⟨by simp, by rw [hw2, hg]; exact heap_alloc_new w1 _⟩
    have e0 := hU2.cell c0 (fun h => h)
    have e1 := hU2.cell c1 (fun h => h)
    rw [← hw2, ← hg] at hmk
    have hbx : w.heap.size < w2.heap.size := by have := hU2.size; have := HSZ.out; omega
    have HG := Lib.hid hg
    have HW2 := Lib.hid hw2
    have HU2 := Lib.hid hU2
    clear hg hw2 hU2 d0 d1 hU1
    have hb3 := hb2.ext ((Upd.refl (fun _ => False) w2).alloc (.cells #[.int .u8 1] 5)) (fun h => h)
    have hbts := Bts.lit w2 [1] #[.int .u8 1] (by simp [byv]) (by simp)
    have HB3 := Lib.hid hb3
    have HBT := Lib.hid hbts
    clear hb3 hbts hb2
    go_wp2_with (at_builtin; refine wpList_appbuf rfl _ _ 23 rfl (by kernel_rfl) info_u8 g [] 0 rfl rfl HB3.out _ [1] rfl HBT.out (by decide) ?_)
    intro w3 hb4 hU3
    have hU3' := HSTEP.out g w2 w3 hgW HU2.out (((Upd.refl _ w2).alloc _).trans hU3 (fun _ h => .inl h))
    have f0 := hU3'.cell c0 (fun h => h)
    have f1 := hU3'.cell c1 (fun h => h)
    have H3 := Lib.hid hU3'
    have HB4 := Lib.hid hb4
    clear hU3 hU3' e0 e1 hmk hb4
    go_wp2_with (go_at_call 111; refine (append16_any g [1] x.keys.length 1 _ rfl HB4.out hnn (by decide)).mono ?_; rintro e w4 ⟨rfl, hb5, hU4⟩; have hU4' := HSTEP.out g w3 w4 hgW H3.out hU4; have g0 := hU4'.cell c0 (fun h => h); have g1 := hU4'.cell c1 (fun h => h))
    have H4 := Lib.hid hU4'
    have henc : [1] ++ e16 x.keys.length = encTo x 0 := by unfold encTo; rw [HL.out]; simp
    rw [henc] at hb5
    have HB := Lib.hid hb5
    clear henc hb5 hU4 f0 f1 hU4'
    go_loopw [4, 38] (fun bv i wr => ∃ k : Nat, k ≤ x.keys.length ∧ i = .int .i64 k ∧ bv = .slice (some ⟨g, 0, none⟩) (szTo x k) 1024 ∧ Buf wr g (encTo x k) ∧ Ext W0 wr) (fun _ i _ => x.keys.length - (intOf i).toNat)
    case atStart => exact ⟨0, Nat.zero_le _, rfl, by unfold szTo; rw [HL.out]; rfl, HB.out, H4.out⟩
    case round =>
      obtain ⟨k, hk, rfl, rfl, hb, hU⟩ := hrel
      have r0 := hU.cell c0 (fun h => h)
      have r1 := hU.cell c1 (fun h => h)
      have r2 := hU.cell c2 (fun h => h)
      have hq := encTo_length x k
      have hbk := HT.out k hk
      by_cases hlt : k < x.keys.length
      · have hbk1 := HT.out (k + 1) hlt
        obtain ⟨v1, h1, hbs1⟩ := HN.out.kl.get hlt
        obtain ⟨b, o, rfl, hcell1, hbz1⟩ := HN.out.k.cellv h1
        obtain ⟨v2, h2, hbs2⟩ := HN.out.vl.get (j := k) (by have := HV1.out; omega)
        obtain ⟨b2, o2, rfl, hcell2, hbz2⟩ := HN.out.v.cellv h2
        obtain ⟨p1, cp1, rfl, -⟩ := hbs1.open
        obtain ⟨p2, cp2, rfl, -⟩ := hbs2.open
        have hs1 := (HX.out.key k hlt).2
        have hs2 := HV3.out (x.vals[k]'(by have := HV1.out; omega)) (List.getElem_mem _)
        have s1 := hU.cell hcell1 (fun h => h)
        have s2 := hU.cell hcell2 (fun h => h)
        have hst : szTo x (k + 1) = szTo x k + esz x k := rfl
        have hes : esz x k = 3 + x.keys[k].length + (x.vals[k]'(by have := HV1.out; omega)).length := by
          unfold esz; rw [HL.out]; simp [hlt, show k < x.vals.length by have := HV1.out; omega]
        have hen : encE x k = UInt8.ofNat x.keys[k].length :: (e16 (x.vals[k]'(by have := HV1.out; omega)).length ++ (x.keys[k] ++ (x.vals[k]'(by have := HV1.out; omega)))) := by
          unfold encE; rw [HL.out]; simp [hlt, show k < x.vals.length by have := HV1.out; omega]
        obtain ⟨K1, hK1⟩ : ∃ K1, K1 = x.keys[k] := ⟨_, rfl⟩
        obtain ⟨K2, hK2⟩ : ∃ K2, K2 = x.vals[k]'(by have := HV1.out; omega) := ⟨_, rfl⟩
        have hkv : k < x.vals.length := by have := HV1.out; omega
        rw [← hK1] at hbs1 hs1 s1 hes hen
        rw [← hK2] at hbs2 hs2 s2 hes hen
        have hen2 : encTo x (k + 1) = encTo x k ++ ([UInt8.ofNat K1.length] ++ e16 K2.length ++ K1 ++ K2) := by rw [encTo, hen]; simp
        obtain ⟨L, hL⟩ : ∃ L, L = encTo x k := ⟨_, rfl⟩
        obtain ⟨q, hq0⟩ : ∃ q, q = szTo x k := ⟨_, rfl⟩
        rw [← hL] at hb hq hen2
        rw [← hq0] at hq hst hbk
        obtain ⟨n1, hn1⟩ : ∃ n1, n1 = K1.length := ⟨_, rfl⟩
        obtain ⟨n2, hn2⟩ : ∃ n2, n2 = K2.length := ⟨_, rfl⟩
        rw [← hn1] at hs1 s1 hes
        rw [← hn2] at hs2 s2 hes
        have hbud : q + 3 + n1 + n2 ≤ 1024 := by omega
        have hst2 : szTo x (k + 1) = q + 3 + n1 + n2 := by omega
        have HST := Lib.hid hst2
        have HEN := Lib.hid hen2
        have HQ := Lib.hid hq
        have HN1 := Lib.hid hn1
        have HN2 := Lib.hid hn2
        rw [← hn1] at hbs1
        rw [← hn2] at hbs2
        have hc2 : ∀ wz, Ext W0 wz → wz.cell? ⟨b2, o2 + k, none⟩ = some (.slice p2 n2 cp2) := fun wz hz => by rw [hn2, hK2]; exact hz.cell hcell2 (fun h => h)
        have HC2 := Lib.hid hc2
        have HK1 := Lib.hid hbs1
        have HK2 := Lib.hid hbs2
        have HBB := Lib.hid hb
        have HUR := Lib.hid hU
        have HBZ1 := Lib.hid hbz1
        have HBZ2 := Lib.hid hbz2
        rw [← hq0]
        clear hq hst hst2 hes hen hen2 hK1 hK2 hL hq0 hn1 hn2 hbs1 hbs2 hc2 h1 h2 hcell1 hcell2 hb hU hbk1 hbz1 hbz2
        have hblt : w.heap.size < wr.heap.size := by have := HUR.out.size; have := HSZ.out; omega
        have hb1lt : b < wr.heap.size := by have := HUR.out.size; have := HBZ1.out; omega
        have hb2lt : b2 < wr.heap.size := by have := HUR.out.size; have := HBZ2.out; omega
        have hbw := HBB.out.ext ((Upd.refl (fun _ => False) wr).alloc (.cells #[.int .u8 (n1 : Int)] 5)) (fun h => h)
        have hbt := Bts.lit wr [UInt8.ofNat K1.length] #[.int .u8 (n1 : Int)] (by simp [byv]; have := HN1.out; omega) (by simp)
        have HBW := Lib.hid hbw
        have HBT2 := Lib.hid hbt
        clear hbw hbt
        go_wp2_with (at_builtin; refine wpList_appbuf rfl _ _ 23 rfl (by kernel_rfl) info_u8 g L q HQ.out.symm rfl HBW.out _ [UInt8.ofNat K1.length] rfl HBT2.out (by have := HQ.out; simp; omega) ?_)
        intro w5 hb5 hU5
        have hU5' := HSTEP.out g wr w5 hgW HUR.out (((Upd.refl _ wr).alloc _).trans hU5 (fun _ h => .inl h))
        have t0 := hU5'.cell c0 (fun h => h)
        have t2 := hU5'.cell c2 (fun h => h)
        have s5 := HC2.out w5 hU5'
        have hq5 : q + 1 = (L ++ [UInt8.ofNat K1.length]).length := by simp [HQ.out]
        have H5 := Lib.hid hU5'
        have HB5 := Lib.hid hb5
        have HQ5 := Lib.hid hq5
        have hn2b : n2 < 65536 := by omega
        have hl5 : (L ++ [UInt8.ofNat K1.length]).length + 2 ≤ 1024 := by rw [← HQ5.out]; omega
        have HL5 := Lib.hid hl5
        clear hb5 hU5 hU5' hq5 hl5 r0 r1 r2 s1 s2
        go_wp2_with (go_at_call 111; refine (append16_any g (L ++ [UInt8.ofNat K1.length]) n2 (q + 1) _ HQ5.out HB5.out hn2b HL5.out).mono ?_; rintro e w6 ⟨rfl, hb6, hU6⟩)
        have hU6' := HSTEP.out g w5 w6 hgW H5.out hU6
        have u2 := hU6'.cell c2 (fun h => h)
        have s6 := HC2.out w6 hU6'
        obtain ⟨L6, hL6⟩ : ∃ L6, L6 = L ++ [UInt8.ofNat K1.length] ++ e16 n2 := ⟨_, rfl⟩
        rw [← hL6] at hb6
        have hq6 : q + 1 + 2 = L6.length := by rw [hL6]; simp [HQ.out, e16]
        have hb6' := hb6
        have hk1w : Bts w6.drew (.slice p1 n1 cp1) K1 := HK1.out.ext hU6'.drew
        have hk2w : ∀ wz, Upd (fun k => k = g) w6.drew wz → Bts wz (.slice p2 n2 cp2) K2 := fun wz hz => HK2.out.ext (HSTEP.out g _ _ hgW hU6'.drew hz)
        have hl6 : L6.length + K1.length ≤ 1024 := by rw [← hq6, ← HN1.out]; omega
        have hl7 : (L6 ++ K1).length + K2.length ≤ 1024 := by rw [List.length_append, ← hq6, ← HN1.out, ← HN2.out]; omega
        have hq7 : q + 1 + 2 + K1.length = (L6 ++ K1).length := by rw [List.length_append, hq6]
        have hbwg : w.heap.size ≠ g := by have := HSZ.out; omega
        have hb2g : b2 ≠ g := by have := HBZ2.out; omega
        have HB6 : Hid (Buf w6.drew g L6) := Lib.hid (hb6.ext ((Upd.refl (fun _ => False) w6).drew) (fun h => h))
        have HQ6 := Lib.hid hq6
        have HQ7 := Lib.hid hq7
        have HL6 := Lib.hid hl6
        have HL7 := Lib.hid hl7
        have HK1w := Lib.hid hk1w
        have HK2w := Lib.hid hk2w
        have H6 := Lib.hid hU6'
        have HE6 := Lib.hid hL6
        clear hb6 hb6' hq6 hq7 hl6 hl7 hk1w hk2w hU6' hL6 hU6 t0 t2 s5
        go_region_held3 (fun w' => w'.cell? ⟨w.heap.size, 2, none⟩ = some (.slice (some ⟨b2, o2, none⟩) x.vals.length cv) ∧ w'.cell? ⟨b2, o2 + k, none⟩ = some (.slice p2 n2 cp2))
          (first
            | go_keep
            | (go_split_ands
               exact ⟨hUa.cell (by assumption) hbwg, hUa.cell (by assumption) hb2g⟩)
            | (go_split_ands
               exact ⟨hUb.cell (by assumption) hbwg, hUb.cell (by assumption) hb2g⟩))
          (first
            | (refine step_appbuf (by rfl) (.tmp 60) (.tmp 61) 23 (by rfl) (by kernel_rfl) info_u8 g L6 (q + 1 + 2) HQ6.out (by rfl) HB6.out _ K1 (by rfl) HK1w.out HL6.out ?_; intro wa hba hUa)
            | (refine step_appbuf (by rfl) (.tmp 62) (.tmp 67) 23 (by rfl) (by kernel_rfl) info_u8 g (L6 ++ K1) (q + 1 + 2 + K1.length) HQ7.out (by rfl) hba _ K2 (by rfl) (HK2w.out _ hUa) HL7.out ?_; intro wb hbb hUb))
        go_wp2
        go_roundw
        case rel => exact ⟨k + 1, by omega, by go_num, by rw [HST.out, HN1.out, HN2.out], by rw [HEN.out]; rw [HE6.out, HN2.out] at hbb; simpa using hbb, (HSTEP.out g _ _ hgW H6.out.drew (hUa.trans hUb (fun _ h => .inl h)))⟩
        case measure => simp [intOf]; omega
      · have hk2 : k = x.keys.length := by omega
        subst hk2
        have HBF := Lib.hid hb
        have HUF := Lib.hid hU
        clear hb hU hq
        go_wp2
        go_ret2
        exact write_end x g w W0 wr HBF.out (HT.out _ (Nat.le_refl _)) (by have := HSZ.out; omega) (HU0.out.andExt HUF.out)
  | false =>
    obtain ⟨hv2, hv1, hv3⟩ := HX.out.inn hl
    rw [hl] at c0
    have HL := Lib.hid hl
    have HV1 := Lib.hid hv1
    have HV3 := Lib.hid hv3
    have hvn : x.kids.length ≤ 4001 := HS.out.cn
    have hfm := HF.out
    have hW := hW0
    rw [hl] at hfm hW
    have HFF := Lib.hid hfm
    have HU0 := Lib.hid hU0
    have HSZ := Lib.hid hsz0
    clear hfm hv2 hl hv1 hv3 hW0 hU0 hsz0
    unfold nodeV
    rw [HL.out]
    have hmk := make1024
    have hnn : x.keys.length < 65536 := by omega
    go_enter Tryz.func78, Tryz.ntmps78
    have HMK := Lib.hid hmk
    clear hmk
    go_wp2_with fail
    rw [← hW]
    have HW := Lib.hid hW
    clear hW
    refine HFF.out.mono ?_
    rintro e w1 ⟨rfl, hU1⟩
    have hmk := HMK.out w1
    have d0 := hU1.cell c0 (fun h => h)
    have d1 := hU1.cell c1 (fun h => h)
    obtain ⟨g, hg⟩ : ∃ g, g = w1.heap.size := ⟨_, rfl⟩
    obtain ⟨w2, hw2⟩ : ∃ w2, w2 = w1.alloc (.cells (byv (pad [])).toArray 5) := ⟨_, rfl⟩
    have hgW : W0.heap.size ≤ g := by rw [hg]; exact hU1.size
    have hU2 : Ext W0 w2 := by rw [hw2]; exact hU1.alloc _
    have hb2 : Buf w2 g [] := ⟨by simp, by rw [hw2, hg]; exact heap_alloc_new w1 _⟩
    have e0 := hU2.cell c0 (fun h => h)
    have e1 := hU2.cell c1 (fun h => h)
    rw [← hw2, ← hg] at hmk
    have hbx : w.heap.size < w2.heap.size := by have := hU2.size; have := HSZ.out; omega
    have HG := Lib.hid hg
    have HW2 := Lib.hid hw2
    have HU2 := Lib.hid hU2
    clear hg hw2 hU2 d0 d1 hU1
    have hb3 := hb2.ext ((Upd.refl (fun _ => False) w2).alloc (.cells #[.int .u8 2] 5)) (fun h => h)
    have hbts := Bts.lit w2 [2] #[.int .u8 2] (by simp [byv]) (by simp)
    have HB3 := Lib.hid hb3
    have HBT := Lib.hid hbts
    clear hb3 hbts hb2
    go_wp2_with (at_builtin; refine wpList_appbuf rfl _ _ 23 rfl (by kernel_rfl) info_u8 g [] 0 rfl rfl HB3.out _ [2] rfl HBT.out (by decide) ?_)
    intro w3 hb4 hU3
    have hU3' := HSTEP.out g w2 w3 hgW HU2.out (((Upd.refl _ w2).alloc _).trans hU3 (fun _ h => .inl h))
    have f0 := hU3'.cell c0 (fun h => h)
    have f1 := hU3'.cell c1 (fun h => h)
    have H3 := Lib.hid hU3'
    have HB4 := Lib.hid hb4
    clear hU3 hU3' e0 e1 hmk hb4
    have hkid : ∀ i, i < x.kids.length → ∃ bc oc, ac = some ⟨bc, oc, none⟩ ∧ (∀ wz, Ext W0 wz → wz.cell? ⟨bc, oc + i, none⟩ = some (.int .i64 (x.kids.getD i 0))) ∧ 0 ≤ x.kids.getD i 0 ∧ x.kids.getD i 0 ≤ 2147483647 ∧ bc < W0.heap.size := fun i hi => by
      obtain ⟨bc, oc, hac, hcell, hlt⟩ := HN.out.c.cellv (intv_get x.kids i hi)
      have hg2 : x.kids.getD i 0 = x.kids[i] := by simp [hi]
      refine ⟨bc, oc, hac, fun wz hz => by rw [hg2]; exact hz.cell hcell (fun h => h), ?_, ?_, hlt⟩
      · rw [hg2]; exact (HV3.out _ (List.getElem_mem _)).1
      · rw [hg2]; exact (HV3.out _ (List.getElem_mem _)).2
    obtain ⟨bc, oc, rfl, hkc0, hk00, hk01, hkb⟩ := hkid 0 (by have := HV1.out; omega)
    have HKID := Lib.hid hkid
    have HKC := Lib.hid hkc0
    obtain ⟨kid0, hkid0⟩ : ∃ n : Nat, (n : Int) = x.kids.getD 0 0 := ⟨(x.kids.getD 0 0).toNat, by omega⟩
    rw [← hkid0] at hk00 hk01 hkc0
    have HKC0 := Lib.hid hkc0
    have HKI := Lib.hid hkid0
    have HKB := Lib.hid hkb
    clear hkid hkc0 hkid0 hkb HKC
    have hk0n : kid0 < 4294967296 := by omega
    have hkl1 : (0 : Int) < (x.kids.length : Int) := by have := HV1.out; omega
    go_wp2_with (go_at_call 111; refine (append16_any g [2] x.keys.length 1 _ rfl HB4.out hnn (by decide)).mono ?_; rintro e w4 ⟨rfl, hb5, hU4⟩; have hU4' := HSTEP.out g w3 w4 hgW H3.out hU4; have g0 := hU4'.cell c0 (fun h => h); have g1 := hU4'.cell c1 (fun h => h); have g3 := hU4'.cell c3 (fun h => h); have gk := HKC0.out w4 hU4'; simp only [Nat.add_zero] at gk)
    have H4 := Lib.hid hU4'
    have HB5 := Lib.hid hb5
    have h3l : 3 = ([2] ++ e16 x.keys.length).length := by simp [e16]
    have H3L := Lib.hid h3l
    have h3m : ([2] ++ e16 x.keys.length).length + 4 ≤ 1024 := by simp [e16]
    have H3M := Lib.hid h3m
    clear hb5 hU4 hU4' f0 f1 h3l h3m
    refine (append32_any g ([2] ++ e16 x.keys.length) kid0 3 _ H3L.out HB5.out hk0n H3M.out).mono ?_
    rintro e w4b ⟨rfl, hb5, hU4⟩
    have hU4' := HSTEP.out g w4 w4b hgW H4.out hU4
    have g0' := hU4'.cell c0 (fun h => h)
    have g1' := hU4'.cell c1 (fun h => h)
    have H4b := Lib.hid hU4'
    have henc : [2] ++ e16 x.keys.length ++ e32 kid0 = encTo x 0 := by unfold encTo; rw [HL.out, ← HKI.out]; simp
    rw [henc] at hb5
    have HB := Lib.hid hb5
    clear henc hb5 hU4 hU4' g0 g1 g3 gk
    go_wp2_with fail
    go_loopw [4, 38] (fun bv i wr => ∃ k : Nat, k ≤ x.keys.length ∧ i = .int .i64 k ∧ bv = .slice (some ⟨g, 0, none⟩) (szTo x k) 1024 ∧ Buf wr g (encTo x k) ∧ Ext W0 wr) (fun _ i _ => x.keys.length - (intOf i).toNat)
    case atStart => exact ⟨0, Nat.zero_le _, rfl, by unfold szTo; rw [HL.out]; rfl, HB.out, H4b.out⟩
    case round =>
      obtain ⟨k, hk, rfl, rfl, hb, hU⟩ := hrel
      have r0 := hU.cell c0 (fun h => h)
      have r1 := hU.cell c1 (fun h => h)
      have hq := encTo_length x k
      have hbk := HT.out k hk
      by_cases hlt : k < x.keys.length
      · have hbk1 := HT.out (k + 1) hlt
        obtain ⟨v1, h1, hbs1⟩ := HN.out.kl.get hlt
        obtain ⟨b, o, rfl, hcell1, hbz1⟩ := HN.out.k.cellv h1
        obtain ⟨p1, cp1, rfl, -⟩ := hbs1.open
        have hs1 := (HX.out.key k hlt).2
        have s1 := hU.cell hcell1 (fun h => h)
        obtain ⟨bc', oc', hbo, hkc1, hk10, hk11, hkb1⟩ := HKID.out (k + 1) (by have := HV1.out; omega)
        simp only [Option.some.injEq, Addr.mk.injEq, and_true] at hbo
        obtain ⟨rfl, rfl⟩ := hbo
        have hst : szTo x (k + 1) = szTo x k + esz x k := rfl
        have hes : esz x k = 5 + x.keys[k].length := by
          unfold esz; rw [HL.out]; simp [hlt]
        obtain ⟨kd, hkd⟩ : ∃ n : Nat, (n : Int) = x.kids.getD (k + 1) 0 := ⟨(x.kids.getD (k + 1) 0).toNat, by omega⟩
        have hen : encE x k = UInt8.ofNat x.keys[k].length :: (x.keys[k] ++ e32 kd) := by
          unfold encE; rw [HL.out, ← hkd]; simp [hlt]
        rw [← hkd] at hkc1 hk10 hk11
        obtain ⟨K1, hK1⟩ : ∃ K1, K1 = x.keys[k] := ⟨_, rfl⟩
        rw [← hK1] at hbs1 hs1 s1 hes hen
        have hen2 : encTo x (k + 1) = encTo x k ++ ([UInt8.ofNat K1.length] ++ K1 ++ e32 kd) := by rw [encTo, hen]; simp
        obtain ⟨L, hL⟩ : ∃ L, L = encTo x k := ⟨_, rfl⟩
        obtain ⟨q, hq0⟩ : ∃ q, q = szTo x k := ⟨_, rfl⟩
        rw [← hL] at hb hq hen2
        rw [← hq0] at hq hst hbk
        obtain ⟨n1, hn1⟩ : ∃ n1, n1 = K1.length := ⟨_, rfl⟩
        rw [← hn1] at hs1 s1 hes
        have hbud : q + 5 + n1 ≤ 1024 := by omega
        have hst2 : szTo x (k + 1) = q + 5 + n1 := by omega
        have HST := Lib.hid hst2
        have HEN := Lib.hid hen2
        have HQ := Lib.hid hq
        have HN1 := Lib.hid hn1
        rw [← hn1] at hbs1
        have HK1 := Lib.hid hbs1
        have HKC := Lib.hid hkc1
        have HBB := Lib.hid hb
        have HUR := Lib.hid hU
        have HBZ1 := Lib.hid hbz1
        have hkln : (k : Int) + 1 < (x.kids.length : Int) := by have := HV1.out; omega
        have hkdn : kd < 4294967296 := by omega
        rw [← hq0]
        clear hq hst hst2 hes hen hen2 hK1 hL hq0 hn1 hbs1 h1 hcell1 hb hU hbk1 hbz1 hkc1 hkd
        have hblt : w.heap.size < wr.heap.size := by have := HUR.out.size; have := HSZ.out; omega
        have hb1lt : b < wr.heap.size := by have := HUR.out.size; have := HBZ1.out; omega
        have hbw := HBB.out.ext ((Upd.refl (fun _ => False) wr).alloc (.cells #[.int .u8 (n1 : Int)] 5)) (fun h => h)
        have hbt := Bts.lit wr [UInt8.ofNat K1.length] #[.int .u8 (n1 : Int)] (by simp [byv]; have := HN1.out; omega) (by simp)
        have HBW := Lib.hid hbw
        have HBT2 := Lib.hid hbt
        clear hbw hbt
        go_wp2_with (at_builtin; refine wpList_appbuf rfl _ _ 23 rfl (by kernel_rfl) info_u8 g L q HQ.out.symm rfl HBW.out _ [UInt8.ofNat K1.length] rfl HBT2.out (by have := HQ.out; simp; omega) ?_)
        intro w6 hb6 hU6
        have hU6' := HSTEP.out g wr w6 hgW HUR.out (((Upd.refl _ wr).alloc _).trans hU6 (fun _ h => .inl h))
        have u0 := hU6'.cell c0 (fun h => h)
        have H6 := Lib.hid hU6'
        have HB60 := Lib.hid hb6
        clear hb6 hU6 hU6' r0 r1 s1
        go_wp2_with fail
        have u3 := H6.out.cell c3 (fun h => h)
        have s6 := HKC.out w6 H6.out
        obtain ⟨L6, hL6⟩ : ∃ L6, L6 = L ++ [UInt8.ofNat K1.length] := ⟨_, rfl⟩
        have hb6 := HB60.out
        rw [← hL6] at hb6
        have hq6 : q + 1 = L6.length := by rw [hL6]; simp [HQ.out]
        have hk1w : Bts w6.drew (.slice p1 n1 cp1) K1 := HK1.out.ext H6.out.drew
        have hl6 : L6.length + K1.length ≤ 1024 := by rw [← hq6, ← HN1.out]; omega
        have hl7 : (L6 ++ K1).length + 4 ≤ 1024 := by rw [List.length_append, ← hq6, ← HN1.out]; omega
        have hq7 : q + 1 + K1.length = (L6 ++ K1).length := by rw [List.length_append, hq6]
        have hbwg : w.heap.size ≠ g := by have := HSZ.out; omega
        have hb2g : bc ≠ g := by have := HKB.out; omega
        have HB6 : Hid (Buf w6.drew g L6) := Lib.hid (hb6.ext ((Upd.refl (fun _ => False) w6).drew) (fun h => h))
        have HQ6 := Lib.hid hq6
        have HQ7 := Lib.hid hq7
        have HL6 := Lib.hid hl6
        have HL7 := Lib.hid hl7
        have HK1w := Lib.hid hk1w
        have HE6 := Lib.hid hL6
        have e1 : ((k : Int) + 1).toNat = k + 1 := by omega
        have e3 : (0 : Int) ≤ (k : Int) + 1 := by omega
        have e4 : IntKind.i64.wrap ((k : Int) + 1) = (k : Int) + 1 := by rw [IntKind.wrap_i64]; omega
        have e5 : IntKind.u32.wrap (kd : Int) = (kd : Int) := by simp [IntKind.wrap, IntKind.bits, IntKind.signed]; omega
        clear hb6 hq6 hq7 hl6 hl7 hk1w hL6
        go_region_held3 (fun w' => w'.cell? ⟨w.heap.size, 3, none⟩ = some (.slice (some ⟨bc, oc, none⟩) x.kids.length cc) ∧ w'.cell? ⟨bc, oc + (k + 1), none⟩ = some (.int .i64 (kd : Int)))
          (first
            | go_keep
            | (go_split_ands
               exact ⟨hUa.cell (by assumption) hbwg, hUa.cell (by assumption) hb2g⟩)
            | (go_split_ands
               exact ⟨hUb.cell (by assumption) hbwg, hUb.cell (by assumption) hb2g⟩))
          (first
            | (refine step_appbuf (by rfl) (.tmp 69) (.tmp 70) 23 (by rfl) (by kernel_rfl) info_u8 g L6 (q + 1) HQ6.out (by rfl) HB6.out _ K1 (by rfl) HK1w.out HL6.out ?_; intro wa hba hUa)
            | (go_at_call 112; refine (append32_any g (L6 ++ K1) kd (q + 1 + K1.length) _ HQ7.out hba hkdn HL7.out).mono ?_; rintro e wb ⟨rfl, hbb, hUb⟩))
        go_wp2
        go_roundw
        case rel => exact ⟨k + 1, by omega, by go_num, by rw [HST.out, HN1.out]; congr 1; omega, by rw [HEN.out]; rw [HE6.out] at hbb; simpa using hbb, (HSTEP.out g _ _ hgW H6.out.drew (hUa.trans hUb (fun _ h => .inl h)))⟩
        case measure => simp [intOf]; omega
      · have hk2 : k = x.keys.length := by omega
        subst hk2
        have HBF := Lib.hid hb
        have HUF := Lib.hid hU
        clear hb hU hq
        go_wp2
        go_ret2
        exact write_end x g w W0 wr HBF.out (HT.out _ (Nat.le_refl _)) (by have := HSZ.out; omega) (HU0.out.andExt HUF.out)
end Go.Proofs.YtecfhfddgolpfaaGreat
