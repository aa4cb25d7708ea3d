/- slices.ContainsFunc with node.shaped's tests; node.shaped, node.Formed of formed nodes. PRINTED by wip/gen/nodeb.py -/
import Derived.Test.YtecfhfddgolpfaaGreatNodeA
namespace Go.Proofs.YtecfhfddgolpfaaGreat
open Go.RowKit

set_option maxRecDepth 100000 in
theorem shaped1_any (n : Nat) (p : Option Addr) (c : Nat) (w : World) (hn : n ≤ 260) :
    Calls Tryz.prog 124 #[.slice p n c] w fun e w' => e = .returned (.bool false) ∧ w' = w := by
  have h1 : ¬ ((260 : Int) < (n : Int)) := by omega
  go_enter Tryz.func124, Tryz.ntmps124
  go_wp2
  go_ret
  exact ⟨by first | rfl | (congr 2; simp; done) | (congr 2; simp; omega), rfl⟩
set_option maxRecDepth 100000 in
theorem shaped2_any (n : Int) (w : World) (h0 : 0 ≤ n) (h1 : n ≤ 2147483647) :
    Calls Tryz.prog 126 #[.int .i64 n] w fun e w' => e = .returned (.bool false) ∧ w' = w := by
  have hd1 : decide (n < 0) = false := decide_eq_false (by omega)
  have hd2 : decide ((2147483647 : Int) < n) = false := decide_eq_false (by omega)
  go_enter Tryz.func126, Tryz.ntmps126
  go_wp2
  go_ret
  exact ⟨by first | rfl | simp, rfl⟩

set_option maxRecDepth 100000 in
theorem containsNoB_any (s : Value) (vs : List Value) (w : World) (hs : Rd w 23 s vs) (hn : vs.length ≤ 1000000000) (hf : ∀ v ∈ vs, Calls Tryz.prog 124 #[v] w fun e w' => e = .returned (.bool false) ∧ w' = w) :
    Calls Tryz.prog 123 #[s, .func (.func 124) #[] #[]] w fun e w' => e = .returned (.bool false) ∧ w' = w := by
  have hidx : Calls Tryz.prog 148 #[s, .func (.func 124) #[] #[]] w fun e w' => e = .returned (.int .i64 (-1)) ∧ w' = w := by
    obtain ⟨a, cap, rfl, hc1, hc2, hc3, hr⟩ := hs
    have HF := Lib.hid hf
    clear hf
    go_enter Tryz.func148, Tryz.ntmps148
    go_wp2
    go_loop [8] (fun i => ∃ k : Nat, k ≤ vs.length ∧ i = .int .i64 k) (fun i => vs.length - (intOf i).toNat)
    case atStart => exact ⟨0, Nat.zero_le _, rfl⟩
    case round =>
      obtain ⟨k, hk, rfl⟩ := hrel
      by_cases hlt : k < vs.length
      · obtain ⟨v, hv⟩ : ∃ v, vs[k]? = some v := ⟨vs[k], by simp⟩
        obtain ⟨b, o, rfl, hcell, _⟩ := hr.cellv hv
        have hcall := HF.out v (List.mem_of_getElem? hv)
        have HC := Lib.hid hcall
        clear hcall hv
        go_wp2_with (go_at_call 124; refine HC.out.mono ?_; rintro e w2 ⟨rfl, rfl⟩)
        go_round
        case rel => exact ⟨k + 1, by omega, by go_num⟩
        case measure => simp [intOf]; omega
      · go_wp2
        go_ret
        exact ⟨rfl, rfl⟩
  have HI := Lib.hid hidx
  clear hidx hf hs
  go_enter Tryz.func123, Tryz.ntmps123
  go_wp2_with (go_at_call 148; refine HI.out.mono ?_; rintro e w2 ⟨rfl, rfl⟩)
  go_ret
  exact ⟨rfl, rfl⟩

set_option maxRecDepth 100000 in
theorem containsNoI_any (s : Value) (vs : List Value) (w : World) (hs : Rd w 3 s vs) (hn : vs.length ≤ 1000000000) (hf : ∀ v ∈ vs, Calls Tryz.prog 126 #[v] w fun e w' => e = .returned (.bool false) ∧ w' = w) :
    Calls Tryz.prog 125 #[s, .func (.func 126) #[] #[]] w fun e w' => e = .returned (.bool false) ∧ w' = w := by
  have hidx : Calls Tryz.prog 149 #[s, .func (.func 126) #[] #[]] w fun e w' => e = .returned (.int .i64 (-1)) ∧ w' = w := by
    obtain ⟨a, cap, rfl, hc1, hc2, hc3, hr⟩ := hs
    have HF := Lib.hid hf
    clear hf
    go_enter Tryz.func149, Tryz.ntmps149
    go_wp2
    go_loop [8] (fun i => ∃ k : Nat, k ≤ vs.length ∧ i = .int .i64 k) (fun i => vs.length - (intOf i).toNat)
    case atStart => exact ⟨0, Nat.zero_le _, rfl⟩
    case round =>
      obtain ⟨k, hk, rfl⟩ := hrel
      by_cases hlt : k < vs.length
      · obtain ⟨v, hv⟩ : ∃ v, vs[k]? = some v := ⟨vs[k], by simp⟩
        obtain ⟨b, o, rfl, hcell, _⟩ := hr.cellv hv
        have hcall := HF.out v (List.mem_of_getElem? hv)
        have HC := Lib.hid hcall
        clear hcall hv
        go_wp2_with (go_at_call 126; refine HC.out.mono ?_; rintro e w2 ⟨rfl, rfl⟩)
        go_round
        case rel => exact ⟨k + 1, by omega, by go_num⟩
        case measure => simp [intOf]; omega
      · go_wp2
        go_ret
        exact ⟨rfl, rfl⟩
  have HI := Lib.hid hidx
  clear hidx hf hs
  go_enter Tryz.func125, Tryz.ntmps125
  go_wp2_with (go_at_call 149; refine HI.out.mono ?_; rintro e w2 ⟨rfl, rfl⟩)
  go_ret
  exact ⟨rfl, rfl⟩

structure Shaped (x : Nd) : Prop where
  key : ∀ (i : Nat) (h : i < x.keys.length), 1 ≤ x.keys[i].length ∧ x.keys[i].length ≤ 240
  srt : Srt x.keys
  leafv : x.leaf = true → x.vals.length = x.keys.length ∧ x.kids = [] ∧ ∀ v ∈ x.vals, v.length ≤ 260
  inn : x.leaf = false → x.vals = [] ∧ x.kids.length = x.keys.length + 1 ∧ ∀ k ∈ x.kids, 0 ≤ k ∧ k ≤ 2147483647

set_option maxRecDepth 100000 in
set_option maxHeartbeats 1000000 in
theorem shaped_yes (x : Nd) (ak av ac : Option Addr) (ck cv cc : Nat) (kvs vvs : List Value) (w : World) (h : NodeAt w x ak ck av cv ac cc kvs vvs) (hs : Small x) (hx : Shaped x) :
    Calls Tryz.prog 103 #[nodeV x ak ck av cv ac cc] w fun e w' => e = .returned (.bool true) ∧ Ext w w' := by
  have hn : x.keys.length ≤ 4000 := hs.n
  unfold nodeV
  obtain ⟨W0, hW0⟩ : ∃ W0, W0 = w.alloc (.cells #[.bool x.leaf, .slice ak x.keys.length ck, .slice av x.vals.length cv, .slice ac x.kids.length cc] 144) := ⟨_, rfl⟩
  have hU0 : Ext w W0 := by rw [hW0]; exact (Upd.refl _ w).alloc _
  have c0 : W0.cell? ⟨w.heap.size, 0, none⟩ = some (.bool x.leaf) := by rw [hW0, World.cell?_alloc_new]; rfl
  have c1 : W0.cell? ⟨w.heap.size, 1, none⟩ = some (.slice ak x.keys.length ck) := by rw [hW0, World.cell?_alloc_new]; rfl
  have c2 : W0.cell? ⟨w.heap.size, 2, none⟩ = some (.slice av x.vals.length cv) := by rw [hW0, World.cell?_alloc_new]; rfl
  have c3 : W0.cell? ⟨w.heap.size, 3, none⟩ = some (.slice ac x.kids.length cc) := by rw [hW0, World.cell?_alloc_new]; rfl
  have HX := Lib.hid hx
  have HN := Lib.hid (h.ext hU0)
  have HU0 := Lib.hid hU0
  clear hU0 hx h
  go_enter Tryz.func103, Tryz.ntmps103
  go_wp2_with fail
  rw [← hW0]
  have HW := Lib.hid hW0
  clear hW0
  go_loopw [8] (fun i wr => ∃ k m : Nat, k ≤ x.keys.length ∧ i = .int .i64 k ∧ wr = W0.drewN m) (fun i _ => x.keys.length - (intOf i).toNat)
  case atStart => exact ⟨0, 0, Nat.zero_le _, rfl, rfl⟩
  case round =>
    obtain ⟨k, m, hk, rfl, hwr⟩ := hrel
    have hUr : Ext W0 wr := by rw [hwr]; exact Upd.ofDrewN W0 m
    have r0 := hUr.cell c0 (fun h => h)
    have r1 := hUr.cell c1 (fun h => h)
    have r2 := hUr.cell c2 (fun h => h)
    have r3 := hUr.cell c3 (fun h => h)
    have HWR := Lib.hid hwr
    clear hwr
    by_cases hlt : k < x.keys.length
    · obtain ⟨v1, h1, hb1⟩ := HN.out.kl.get hlt
      obtain ⟨b, o, rfl, hcell1, hbs⟩ := HN.out.k.cellv h1
      obtain ⟨p1, c1', rfl, -⟩ := hb1.open
      obtain ⟨hk1, hk2⟩ := HX.out.key k hlt
      have hcs1 := hUr.cell hcell1 (fun h => h)
      by_cases hz : k = 0
      · subst hz
        simp only [Nat.add_zero] at hcs1
        obtain ⟨n1, hn1⟩ : ∃ n1, n1 = x.keys[0].length := ⟨_, rfl⟩
        rw [← hn1] at hk1 hk2 hcs1
        have hd1 : decide ((n1 : Int) < 1) = false := decide_eq_false (by omega)
        have hd2 : decide ((240 : Int) < (n1 : Int)) = false := decide_eq_false (by omega)
        clear hn1 h1 hb1 hcell1 hUr
        go_wp2
        go_roundw
        case rel => exact ⟨1, _, by omega, by go_num, HWR.out⟩
        case measure => simp [intOf]; omega
      · obtain ⟨v2, h2, hb2⟩ := HN.out.kl.get (j := k - 1) (by omega)
        obtain ⟨b2, o2, hbo, hcell2, _⟩ := HN.out.k.cellv h2
        simp only [Option.some.injEq, Addr.mk.injEq, and_true] at hbo
        obtain ⟨rfl, rfl⟩ := hbo
        have hcs2 := hUr.cell hcell2 (fun h => h)
        have hlt2 := HX.out.srt.get (i := k - 1) (j := k) (by omega) hlt
        obtain ⟨c, hc⟩ : ∃ c, c = cmpB (x.keys[k - 1]'(by omega)) x.keys[k] := ⟨_, rfl⟩
        have hcall : Calls Tryz.prog 69 #[v2, .slice p1 x.keys[k].length c1'] wr fun e w' => e = .returned (.int .i64 c) ∧ w' = wr := by
          rw [hc]
          exact compare_any v2 _ _ _ _ (hb2.ext hUr) (hb1.ext hUr)
        rw [← hc] at hlt2
        have hdc : decide (0 ≤ c) = false := decide_eq_false (by omega)
        obtain ⟨n1, hn1⟩ : ∃ n1, n1 = x.keys[k].length := ⟨_, rfl⟩
        rw [← hn1] at hk1 hk2 hcs1 hcall
        have HC := Lib.hid hcall
        have hd1 : decide ((n1 : Int) < 1) = false := decide_eq_false (by omega)
        have hd2 : decide ((240 : Int) < (n1 : Int)) = false := decide_eq_false (by omega)
        have hk0 : (0 : Int) < (k : Int) := by omega
        have e1 : ((k : Int) - 1).toNat = k - 1 := by omega
        have e3 : (0 : Int) ≤ (k : Int) - 1 := by omega
        have e5 : (k : Int) - 1 < (x.keys.length : Int) := by omega
        clear hn1 h1 h2 hb1 hb2 hcell1 hcell2 hUr hc hcall hz
        go_wp2_with (go_at_call 69; refine HC.out.mono ?_; rintro e w2 ⟨rfl, rfl⟩)
        go_roundw
        case rel => exact ⟨k + 1, _, by omega, by go_num, HWR.out⟩
        case measure => simp [intOf]; omega
    · cases hl : x.leaf with
      | true =>
        obtain ⟨hv1, hv2, hv3⟩ := HX.out.leafv hl
        rw [hl] at r0
        have hkl0 : x.kids.length = 0 := by rw [hv2]; rfl
        have hno : Calls Tryz.prog 123 #[.slice av x.vals.length cv, .func (.func 124) #[] #[]] wr fun e w' => e = .returned (.bool false) ∧ w' = wr := by
          have hvl := HN.out.vl.1
          refine containsNoB_any _ vvs wr ⟨av, cv, by rw [hvl], by rw [hvl]; exact HN.out.vcap, HN.out.vm, HN.out.vn, HN.out.v.ext hUr⟩ (by rw [hvl]; have := hs.vn; omega) ?_
          intro v hv
          obtain ⟨j, hj, rfl⟩ := List.getElem_of_mem hv
          have hb := HN.out.vl.2 j vvs[j] (x.vals[j]'(by omega)) (by simp) (by simp [show j < x.vals.length by omega])
          obtain ⟨p, c, he, -⟩ := hb.open
          rw [he]
          exact shaped1_any _ p c wr (hv3 _ (List.getElem_mem _))
        rw [hv1] at hno r2
        rw [hkl0] at r3
        have HNO := Lib.hid hno
        have HL := Lib.hid hl
        clear hno hl hv1 hv2 hv3 hkl0 c0 c1 c2 c3 hUr
        go_wp2_with (go_at_call 123; refine HNO.out.mono ?_; rintro e w2 ⟨rfl, rfl⟩)
        go_ret
        exact ⟨rfl, HU0.out.andExt (by rw [HWR.out]; exact Upd.ofDrewN W0 m)⟩
      | false =>
        obtain ⟨hv1, hv2, hv3⟩ := HX.out.inn hl
        rw [hl] at r0
        have hvl0 : x.vals.length = 0 := by rw [hv1]; rfl
        have hno : Calls Tryz.prog 125 #[.slice ac x.kids.length cc, .func (.func 126) #[] #[]] wr fun e w' => e = .returned (.bool false) ∧ w' = wr := by
          refine containsNoI_any _ (intv x.kids) wr ⟨ac, cc, by rw [intv_length], by rw [intv_length]; exact HN.out.ccap, HN.out.cm, HN.out.cn, HN.out.c.ext hUr⟩ (by rw [intv_length]; have := hs.cn; omega) ?_
          intro v hv
          obtain ⟨j, hj, rfl⟩ := List.mem_map.1 hv
          exact shaped2_any _ wr (hv3 j hj).1 (hv3 j hj).2
        have hkI : ((x.kids.length : Nat) : Int) = (x.keys.length : Int) + 1 := by omega
        rw [hvl0] at r2
        rw [hv2] at hno r3
        have HNO := Lib.hid hno
        have HL := Lib.hid hl
        clear hno hl hv1 hv2 hv3 hvl0 hkI c0 c1 c2 c3 hUr
        go_wp2_with (go_at_call 125; refine HNO.out.mono ?_; rintro e w2 ⟨rfl, rfl⟩)
        go_ret
        exact ⟨rfl, HU0.out.andExt (by rw [HWR.out]; exact Upd.ofDrewN W0 m)⟩

set_option maxRecDepth 100000 in
/-- node.Formed of a node that is shaped: is it small enough? -/
theorem formed_any (x : Nd) (ak av ac : Option Addr) (ck cv cc : Nat) (kvs vvs : List Value) (w : World) (h : NodeAt w x ak ck av cv ac cc kvs vvs) (hs : Small x) (hx : Shaped x) :
    Calls Tryz.prog 110 #[nodeV x ak ck av cv ac cc] w fun e w' => e = .returned (.bool (decide (nsize x ≤ 1024))) ∧ Ext w w' := by
  obtain ⟨W0, hW0⟩ : ∃ W0, W0 = w.alloc (.cells #[.bool x.leaf, .slice ak x.keys.length ck, .slice av x.vals.length cv, .slice ac x.kids.length cc] 144) := ⟨_, rfl⟩
  have hU0 : Ext w W0 := by rw [hW0]; exact (Upd.refl _ w).alloc _
  have c0 : W0.cell? ⟨w.heap.size, 0, none⟩ = some (.bool x.leaf) := by rw [hW0, World.cell?_alloc_new]; rfl
  have c1 : W0.cell? ⟨w.heap.size, 1, none⟩ = some (.slice ak x.keys.length ck) := by rw [hW0, World.cell?_alloc_new]; rfl
  have c2 : W0.cell? ⟨w.heap.size, 2, none⟩ = some (.slice av x.vals.length cv) := by rw [hW0, World.cell?_alloc_new]; rfl
  have c3 : W0.cell? ⟨w.heap.size, 3, none⟩ = some (.slice ac x.kids.length cc) := by rw [hW0, World.cell?_alloc_new]; rfl
  have h1 := shaped_yes x ak av ac ck cv cc kvs vvs W0 (h.ext hU0) hs hx
  have h2 : ∀ w2, Ext W0 w2 → _ := fun w2 hU => size_any x ak av ac ck cv cc kvs vvs w2 ((h.ext hU0).ext hU) hs (fun hl => (hx.leafv hl).1)
  have hb : nsize x ≤ 100000000 := by unfold nsize; have := hs.szTo_le x.keys.length; have := hs.n; omega
  obtain ⟨m, hm⟩ : ∃ m, m = nsize x := ⟨_, rfl⟩
  rw [← hm] at hb h2 ⊢
  have H1 := Lib.hid h1
  have H2 := Lib.hid h2
  have HU0 := Lib.hid hU0
  clear h1 h2 hm hU0 h hx hs
  unfold nodeV at *
  go_enter Tryz.func110, Tryz.ntmps110
  go_wp2_with fail
  rw [← hW0]
  have HW := Lib.hid hW0
  clear hW0
  refine H1.out.mono ?_
  rintro e w1 ⟨rfl, hU1⟩
  have r0 := hU1.cell c0 (fun h => h)
  have r1 := hU1.cell c1 (fun h => h)
  have r2 := hU1.cell c2 (fun h => h)
  have r3 := hU1.cell c3 (fun h => h)
  have h2 := H2.out w1 hU1
  have H22 := Lib.hid h2
  have HU1 := Lib.hid hU1
  clear h2 hU1 c0 c1 c2 c3
  go_wp2_with (go_at_call 74; refine H22.out.mono ?_; rintro e w2 ⟨rfl, hU2⟩)
  go_ret
  refine ⟨?_, (HU0.out.trans HU1.out (fun _ h => h.elim)).trans hU2 (fun _ h => h.elim)⟩
  congr 2
  by_cases h : m ≤ 1024
  · simp [h]; omega
  · simp [h]; omega
end Go.Proofs.YtecfhfddgolpfaaGreat
