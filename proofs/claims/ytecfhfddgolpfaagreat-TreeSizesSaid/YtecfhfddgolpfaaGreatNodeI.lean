/- node.Read of an inner node's page. -/
import Derived.Test.YtecfhfddgolpfaaGreatNodeH
import Derived.Deep.RegionLaw
namespace Go.Proofs.YtecfhfddgolpfaaGreat
open Go.RowKit

/-- append of one element in a region that draws. -/
theorem app1_run {P : Program} {w : World} (t ty e : TypeId) (z : Value) (bytes : Nat) (ht : P.underlying t = some (.slice e)) (hi : (P.info? e).map (fun i => (i.zero, i.size, i.bytes)) = some (some z, 1, bytes)) (hzs : z.cells.size = 1)
    (v : Value) (xs : List Value) (hown : Own w e v xs) (ad : Addr) (y : Value) (hrd : Rd w e (.slice (some ad) 1 1) [y]) (h1 : y.oneCell' = true) (hl : xs.length + 1 ≤ 1099511627776) (hbytes : bytes ≤ 64) :
    ∃ v' w', (Builtin.append_ #[t, t] ty #[v, .slice (some ad) 1 1]).run P w = .ok v' w' ∧ Own w' e v' (xs ++ [y]) ∧ Nw w v v' ∧ Upd (fun k => v.ownBlock = some k) w w' := by
  obtain ⟨p, cap, hs, hc1, hc2, hc3, hrd⟩ := hrd
  simp at hs
  obtain ⟨rfl, rfl⟩ := hs
  obtain ⟨v', w', hrun, h2, h3, h4⟩ := run_app (P := P) t ty e z 1 bytes ht hi hzs v _ xs hown ad 1 1 [y] (by simp) hrd.news (by simpa using h1) (by unfold maxLen; omega)
    (calc (xs.length + 1) * bytes ≤ 1099511627776 * 64 := Nat.mul_le_mul hl hbytes
      _ ≤ 140737488355328 := by decide)
  exact ⟨v', w', hrun, by unfold Own; rw [List.length_append]; exact h2, h3, h4⟩
theorem step_app1 {P : Program} {ops : Array Oper} {o : Oper} {a : Act} {w : World} {K : Act → World → Prop} {Q : Exit → Act → World → Prop} {E : Prop}
    (hg : o.guard = none) (d x : Operand) (t : TypeId) (hop : o.op = Op.call { callee := Callee.builtin Builtin.append, args := #[d, x], argTypes := #[t, t] })
    (e : TypeId) (z : Value) (bytes : Nat) (ht : P.underlying t = some (.slice e)) (hi : (P.info? e).map (fun i => (i.zero, i.size, i.bytes)) = some (some z, 1, bytes)) (hzs : z.cells.size = 1)
    (v : Value) (hd : a.eval d = v) (xs : List Value) (hown : Own w e v xs) (ad : Addr) (hx : a.eval x = .slice (some ad) 1 1) (y : Value) (hrd : Rd w e (.slice (some ad) 1 1) [y]) (h1 : y.oneCell' = true) (hl : xs.length + 1 ≤ 1099511627776) (hbytes : bytes ≤ 64)
    (hK : ∀ v' w', Own w' e v' (xs ++ [y]) → Nw w v v' → Upd (fun k => v.ownBlock = some k) w w' → K (a.put o.dst v') w') :
    if Region.wanted o (yielded ops a.tmps) = true then Oper.wp P o a w K Q else E := by
  obtain ⟨v', w', hr, h2, h3, h4⟩ := app1_run (P := P) t o.type e z bytes ht hi hzs v xs hown ad y hrd h1 hl hbytes
  exact step_append_run hg d x t t hop v _ hd hx hr (hK v' w' h2 h3 h4)

set_option maxRecDepth 100000 in
set_option maxHeartbeats 2000000 in
theorem read_inner (x : Nd) (pv : Value) (w : World) (hp : Bts w pv (page x)) (hs : Small x) (hx : Shaped x) (hsz : nsize x ≤ 1024) (hl : x.leaf = false) :
    Calls Tryz.prog 83 #[pv] w fun e w' => ∃ sk sv sc kvs vvs, e = .returned (.tuple #[.agg #[.bool x.leaf, sk, sv, sc], .int .i64 0]) ∧ NOwn w' w.heap.size sk sv sc kvs vvs x ∧ Ext w w' := by
  obtain ⟨hv2, hv1, hv3⟩ := hx.inn hl
  have hn := hs.n
  have hplen := page_length x hsz
  have hp0 := page_split x 0 (Nat.zero_le _)
  have hkl0 : 0 < x.kids.length := by omega
  obtain ⟨c0, hc0⟩ : ∃ c0, c0 = x.kids[0] := ⟨_, rfl⟩
  have hc0b := hv3 x.kids[0] (List.getElem_mem _)
  rw [← hc0] at hc0b
  have hc0n : ((c0.toNat : Nat) : Int) = c0 := by omega
  have hct : x.kids.take 1 = [c0] := by
    rw [List.take_succ_eq_append_getElem hkl0, hc0]; simp
  have henc0 : encTo x 0 = [2] ++ (e16 x.keys.length ++ e32 c0.toNat) := by unfold encTo; rw [hl, hc0]; simp [hkl0]
  rw [henc0, List.append_assoc, List.append_assoc] at hp0
  obtain ⟨pa, pc, rfl, hcap, hmax, hnone, hrd⟩ := hp.open
  obtain ⟨N2, hN2⟩ : ∃ N2, N2 = w.heap.size := ⟨_, rfl⟩
  -- the result's variable, the reader
  obtain ⟨w1, hw1⟩ : ∃ w1, w1 = (w.alloc (.cells #[.bool false, .slice none 0 0, .slice none 0 0, .slice none 0 0] 144)).alloc (.cells #[.slice pa (page x).length pc] 23) := ⟨_, rfl⟩
  have hU1 : Ext w w1 := by rw [hw1]; exact ((Upd.refl _ w).alloc _).alloc _
  have hR1 : w1.heap[w.heap.size + 1]? = some (.cells #[.slice pa (page x).length pc] 23 (0, 0)) := by
    rw [hw1]
    have := heap_alloc_new (w.alloc (.cells #[.bool false, .slice none 0 0, .slice none 0 0, .slice none 0 0] 144)) (.cells #[.slice pa (page x).length pc] 23)
    simpa using this
  have hcur1 : Cur w1 (w.heap.size + 1) (page x) := ⟨_, hR1, hp.ext hU1⟩
  obtain ⟨R, hRdef⟩ : ∃ R, R = w.heap.size + 1 := ⟨_, rfl⟩
  have hnum1 := number_any (w.heap.size + 1) 1 (page x) w1 hcur1 (by omega) (by omega) (by omega)
  have hl0 : (restAt x 0).length ≤ 1024 := by have := congrArg List.length hp0; simp [e16, e32] at this; omega
  rw [hp0, take_left _ _ 1 rfl, drop_left _ _ 1 rfl] at hnum1
  have hnum2 : ∀ w2, Cur w2 (w.heap.size + 1) (e16 x.keys.length ++ (e32 c0.toNat ++ restAt x 0)) → Calls Tryz.prog 116 #[.pointer (some ⟨w.heap.size + 1, 0, none⟩), .int .i64 2] w2 fun e w' => e = .returned (.int .i64 x.keys.length) ∧ Cur w' (w.heap.size + 1) (e32 c0.toNat ++ restAt x 0) ∧ Upd (fun k => k = w.heap.size + 1) w2 w' := fun w2 hc => by
    have := number_any (w.heap.size + 1) 2 _ w2 hc (by simp [e16]) (by omega) (by simp [e16, e32]; omega)
    rw [take_left _ _ 2 rfl, drop_left _ _ 2 rfl, beNum_16 _ (by omega)] at this
    exact this
  have hnum4 : ∀ w2 (c : Int) (r : Bytes), Cur w2 (w.heap.size + 1) (e32 c.toNat ++ r) → 0 ≤ c → c ≤ 2147483647 → r.length ≤ 1024 → Calls Tryz.prog 116 #[.pointer (some ⟨w.heap.size + 1, 0, none⟩), .int .i64 4] w2 fun e w' => e = .returned (.int .i64 c) ∧ Cur w' (w.heap.size + 1) r ∧ Upd (fun k => k = w.heap.size + 1) w2 w' := fun w2 c r hc h0 h1 hr => by
    have := number_any (w.heap.size + 1) 4 _ w2 hc (by simp [e32]) (by omega) (by simp [e32]; omega)
    rw [take_left _ _ 4 rfl, drop_left _ _ 4 rfl, beNum_32 _ (by omega)] at this
    have e : ((c.toNat : Nat) : Int) = c := by omega
    rw [e] at this
    exact this
  have H4 := Lib.hid hnum4
  have HC0B := Lib.hid hc0b
  have HCT := Lib.hid hct
  have HL0 := Lib.hid hl0
  have H1 := Lib.hid hnum1
  have H2 := Lib.hid hnum2
  have HU1 := Lib.hid hU1
  have HX := Lib.hid hx
  have HS := Lib.hid hs
  have HSZ := Lib.hid hsz
  have HP := Lib.hid hp
  have HRD := Lib.hid hRdef
  have HN2 := Lib.hid hN2
  have HV1 := Lib.hid hv1
  have HV2 := Lib.hid hv2
  have HV3 := Lib.hid hv3
  have HLF := Lib.hid hl
  have hRd1 : w1.cell? ⟨w.heap.size, 0, none⟩ = some (.bool false) ∧ w1.cell? ⟨w.heap.size, 1, none⟩ = some (.slice none 0 0) ∧ w1.cell? ⟨w.heap.size, 2, none⟩ = some (.slice none 0 0) ∧ w1.cell? ⟨w.heap.size, 3, none⟩ = some (.slice none 0 0) := by
    rw [hw1]
    refine ⟨?_, ?_, ?_, ?_⟩ <;> (rw [World.cell?_alloc_past _ _ _ (by simp), World.cell?_alloc_new]; rfl)
  have hRf1 : ∀ i, w1.frozen? ⟨w.heap.size, i, none⟩ = false := fun i => by
    rw [hw1, World.frozen?_alloc_past _ _ _ (by simp), World.frozen?_alloc_new]
  have hRh1 : w1.heap[w.heap.size]? = some (.cells #[.bool false, .slice none 0 0, .slice none 0 0, .slice none 0 0] 144 (0, 0)) := by
    rw [hw1]
    have hh := heap_alloc_new w (.cells #[.bool false, .slice none 0 0, .slice none 0 0, .slice none 0 0] 144)
    exact ((Upd.refl (fun _ => False) (w.alloc (.cells #[.bool false, .slice none 0 0, .slice none 0 0, .slice none 0 0] 144))).alloc _).heap hh (fun f => f)
  have HRH := Lib.hid hRh1
  clear hRh1
  have HRC := Lib.hid hRd1
  have HRF := Lib.hid hRf1
  have hlt1 : w.heap.size + 1 < w1.heap.size := heap_lt hR1
  have hn255 : (1 : Nat) < 256 := by omega
  clear hnum4 hc0b hct hl0 hkl0 hc0 hnum1 hnum2 hU1 hx hs hp hRdef hN2 hRd1 hRf1 hR1 hcur1 hp0 hplen henc0 hsz hrd hnone hmax hcap hv1 hv2 hv3 hl
  go_enter Tryz.func83, Tryz.ntmps83
  go_wp2_with fail
  rw [← hw1]
  have HW1 := Lib.hid hw1
  clear hw1
  refine H1.out.mono ?_
  rintro e w2 ⟨rfl, hcur2, hU2⟩
  have hb1 : beNum [2] = 2 := by decide
  rw [hb1]
  have HC2 := Lib.hid hcur2
  have HU2 := Lib.hid hU2
  clear hb1 hcur2 hU2
  go_wp2_with fail
  refine (H2.out w2 HC2.out).mono ?_
  rintro e w3 ⟨rfl, hcur3, hU3⟩
  have HC3 := Lib.hid hcur3
  have hU13 : Upd (fun k => k = w.heap.size + 1) w1 w3 := HU2.out.trans hU3 (fun _ h => .inl h)
  have HU13 := Lib.hid hU13
  obtain ⟨w4, hw4⟩ : ∃ w4, w4 = w3.alloc (.cells #[.bool false, .slice none 0 0, .slice none 0 0, .slice none 0 0] 144) := ⟨_, rfl⟩
  obtain ⟨N, hN⟩ : ∃ N, N = w3.heap.size := ⟨_, rfl⟩
  have hlt3 : w.heap.size + 1 < w3.heap.size := by have := hU3.size; have := HU2.out.size; omega
  clear hcur3 hU3 hU13
  have hinv : RdInv x N (w.heap.size + 1) w4 w4 [] [] [] (e32 c0.toNat ++ restAt x 0) (.slice none 0 0) (.slice none 0 0) (.slice none 0 0) [] [] := by
    have hUa : Ext w3 w4 := by rw [hw4]; exact (Upd.refl _ w3).alloc _
    refine ⟨?_, ?_, Own.nil _ _, ⟨rfl, fun j v k a => by simp at a⟩, Own.nil _ _, ⟨rfl, fun j v k a => by simp at a⟩, Own.nil _ _, fun j hj => by simp [Value.ownBlock] at hj, fun j hj => by simp [Value.ownBlock] at hj, fun j hj => by simp [Value.ownBlock] at hj, by omega, by rw [hw4, hN]; simp, by rw [hw4]; simp; omega, Upd.refl _ _⟩
    · rw [hw4, hN, HLF.out]; exact heap_alloc_new w3 _
    · exact HC3.out.upd hUa (fun f => f) (fun _ _ _ f => f.elim)
  have hU14 : Upd (fun k => k = w.heap.size + 1) w1 w4 := by rw [hw4]; exact HU13.out.alloc _
  have hU4 : Ext w w4 := HU1.out.trans hU14 (fun i hi => .inr (by omega))
  have hinvd : RdInv x N (w.heap.size + 1) w4 w4.drew [] [] [] (e32 c0.toNat ++ restAt x 0) (.slice none 0 0) (.slice none 0 0) (.slice none 0 0) [] [] := hinv.num (hinv.cur.upd ((Upd.refl (fun _ => False) w4).drew) (fun f => f) (fun _ _ _ f => f.elim)) ((Upd.refl _ w4).drew)
  have l0 : w4.cell? ⟨N, 0, none⟩ = some (.bool false) := one_cells hinv.n 0 _ (by rw [HLF.out]; rfl)
  have l3 : w4.drew.cell? ⟨N, 3, none⟩ = some (.slice none 0 0) := one_cells hinvd.n 3 _ rfl
  have HI := Lib.hid hinv
  have HID := Lib.hid hinvd
  have HU14 := Lib.hid hU14
  have HU4 := Lib.hid hU4
  have HNN := Lib.hid hN
  have hN3 : N ≠ w.heap.size := by omega
  have hNR : N ≠ w.heap.size + 1 := by have := hN; omega
  clear hinv hinvd hU14 hU4
  go_wp2_with fail
  rw [← hw4, ← hN]
  clear hw4 hN
  go_region_law (first
    | (go_simp
       refine (H4.out _ c0 _ HID.out.cur HC0B.out.1 HC0B.out.2 HL0.out).mono ?_
       rintro e w5 ⟨rfl, hc5, hu5⟩
       have i5 := HID.out.num hc5 hu5
       have l5 := hu5.cell l3 hNR
       have lt5 := heap_lt i5.n
       dsimp only)
    | (refine step_app1 (by rfl) _ _ 62 (by rfl) 3 (.int .i64 0) 8 (by kernel_rfl) info_int rfl _ (by rfl) [] (own_ext i5.c ((Upd.refl (fun _ => False) w5).alloc _) (fun _ _ f => f)) _ (by rfl) _ (Rd.one w5 3 (.int .i64 c0)) rfl (by simp) (by decide) ?_
       intro sc' w6 ho hnw hU
       have n6 := i5.nAny (fun j hj => i5.cb j hj) hU
       have i6 := i5.kid (kids := []) ho hnw hU
       obtain ⟨ac', cc', hsc, -⟩ := own_slice ho
       rw [show (([] : List Value) ++ [Value.int .i64 c0]).length = 1 from rfl] at hsc
       subst hsc
       have q3 : w6.cell? ⟨N, 3, none⟩ = some (.slice none 0 0) := one_cells n6 3 _ rfl
       have qf3 : w6.frozen? ⟨N, 3, none⟩ = false := frozen_heap n6))
  all_goals
    have HI6 := Lib.hid i6
    clear i6 n6 q3 qf3 ho hnw hU i5 l5 lt5 hc5 hu5 l3 l0
    go_wp2_with fail
    go_loopw [32] (fun i wr => ∃ (k : Nat) (sk sc : Value) (kvs : List Value), k ≤ x.keys.length ∧ i = .int .i64 k ∧ RdInv x N (w.heap.size + 1) w4 wr (x.keys.take k) [] (x.kids.take (k + 1)) (restAt x k) sk (.slice none 0 0) sc kvs []) (fun i _ => x.keys.length - (intOf i).toNat)
    case atStart => exact ⟨0, _, _, _, Nat.zero_le _, rfl, by rw [HCT.out]; simpa using HI6.out⟩
    case round =>
      obtain ⟨k, sk, sc, kvs, hk, rfl, hinv⟩ := hrel
      have hlen := restAt_le x k HSZ.out
      by_cases hlt : k < x.keys.length
      · have hkv : k + 1 < x.kids.length := by have := HV1.out; omega
        have hk1 := HX.out.key k hlt
        have hk2 := HV3.out x.kids[k + 1] (List.getElem_mem _)
        have hen : encE x k = [UInt8.ofNat x.keys[k].length] ++ (x.keys[k] ++ e32 (x.kids[k + 1]).toNat) := by
          unfold encE; rw [HLF.out]; simp [hlt, hkv]
        have hrs := rest_split x k hlt
        have hsn1 : x.keys.take (k + 1) = x.keys.take k ++ [x.keys[k]] := by rw [List.take_succ_eq_append_getElem hlt]
        have hsn2 : x.kids.take (k + 1 + 1) = x.kids.take (k + 1) ++ [x.kids[k + 1]] := by rw [List.take_succ_eq_append_getElem hkv]
        obtain ⟨K, hK⟩ : ∃ K, K = x.keys[k] := ⟨_, rfl⟩
        obtain ⟨V, hV⟩ : ∃ V, V = x.kids[k + 1] := ⟨_, rfl⟩
        rw [← hK] at hen hk1 hsn1
        rw [← hV] at hen hk2 hsn2
        obtain ⟨rest2, hr2⟩ : ∃ r, r = restAt x (k + 1) := ⟨_, rfl⟩
        rw [hrs, hen, ← hr2] at hinv hlen
        simp only [List.append_assoc] at hinv hlen
        simp only [List.length_append, List.length_singleton] at hlen
        obtain ⟨n1, hn1⟩ : ∃ n1, n1 = K.length := ⟨_, rfl⟩
        rw [← hn1] at hlen hk1
        -- the readings
        have q1 : ∀ wz, Cur wz (w.heap.size + 1) ([UInt8.ofNat K.length] ++ (K ++ (e32 V.toNat ++ rest2))) → Calls Tryz.prog 116 #[.pointer (some ⟨w.heap.size + 1, 0, none⟩), .int .i64 1] wz fun e w' => e = .returned (.int .i64 n1) ∧ Cur w' (w.heap.size + 1) (K ++ (e32 V.toNat ++ rest2)) ∧ Upd (fun k => k = w.heap.size + 1) wz w' := fun wz hc => by
          have := number_any (w.heap.size + 1) 1 _ wz hc (by simp) (by omega) (by simp [e32] at hlen ⊢; omega)
          rw [take_left _ _ 1 rfl, drop_left _ _ 1 rfl, beNum_one _ (by omega), ← hn1] at this
          exact this
        have q3 : ∀ wz, Cur wz (w.heap.size + 1) (K ++ (e32 V.toNat ++ rest2)) → Calls Tryz.prog 117 #[.pointer (some ⟨w.heap.size + 1, 0, none⟩), .int .i64 n1] wz fun e w' => ∃ v, e = .returned (.tuple #[v, .bool true]) ∧ Own w' 5 v (byv K) ∧ Nw wz (.slice none 0 0) v ∧ Cur w' (w.heap.size + 1) (e32 V.toNat ++ rest2) ∧ Upd (fun k => k = w.heap.size + 1) wz w' := fun wz hc => by
          have := take_any (w.heap.size + 1) n1 _ wz hc (by simp; omega) (by simp [e32] at hlen ⊢; omega)
          rw [take_left _ _ n1 hn1.symm, drop_left _ _ n1 hn1.symm] at this
          exact this
        have q4 : ∀ wz, Cur wz (w.heap.size + 1) (e32 V.toNat ++ rest2) → Calls Tryz.prog 117 #[.pointer (some ⟨w.heap.size + 1, 0, none⟩), .int .i64 0] wz fun e w' => ∃ v, e = .returned (.tuple #[v, .bool true]) ∧ Own w' 5 v (byv []) ∧ Nw wz (.slice none 0 0) v ∧ Cur w' (w.heap.size + 1) (e32 V.toNat ++ rest2) ∧ Upd (fun k => k = w.heap.size + 1) wz w' := fun wz hc => by
          have := take_any (w.heap.size + 1) 0 _ wz hc (by simp) (by simp [e32] at hlen ⊢; omega)
          rw [List.take_zero, List.drop_zero] at this
          exact this
        have hr2l : rest2.length ≤ 1024 := by simp [e32] at hlen; omega
        have Q1 := Lib.hid q1
        have Q3 := Lib.hid q3
        have Q4 := Lib.hid q4
        have S1 := Lib.hid hsn1
        have S2 := Lib.hid hsn2
        have HR2 := Lib.hid hr2
        have HR2L := Lib.hid hr2l
        have HK2 := Lib.hid hk2
        have HI0 := Lib.hid hinv
        clear q1 q3 q4 hsn1 hsn2 hr2 hn1 hen hrs hK hV hr2l hk2
        go_wp2_with fail
        refine (Q1.out wr HI0.out.cur).mono ?_
        rintro e a1 ⟨rfl, hc1, hu1⟩
        have i1 := HI0.out.num hc1 hu1
        have l1 : a1.cell? ⟨N, 0, none⟩ = some (.bool false) := one_cells i1.n 0 _ (by rw [HLF.out]; rfl)
        have I1 := Lib.hid i1
        clear hc1 hu1 i1 hinv
        go_wp2_with fail
        refine (Q3.out a1 I1.out.cur).mono ?_
        rintro e a3 ⟨v3, rfl, ho3, hw3, hc1, hu1⟩
        have i1 := I1.out.num hc1 hu1
        have hb3 : Bts a3 v3 K := own_rd ho3
        have hb3' := hb3
        obtain ⟨p3, c3, rfl, -⟩ := hb3'.open
        have I3 := Lib.hid i1
        have HO3 := Lib.hid hb3
        clear hc1 hu1 i1 ho3 hw3 hb3' l1
        clear hb3
        go_wp2_with fail
        refine (Q4.out a3 I3.out.cur).mono ?_
        rintro e a4 ⟨v4, rfl, ho4, hw4, hc1, hu1⟩
        have hk3 : Bts a4 (.slice p3 K.length c3) K := HO3.out.upd hu1 I3.out.cur.notByte
        have i1 := I3.out.num hc1 hu1
        have I4 := Lib.hid i1
        have HK3 := Lib.hid hk3
        have l1 : a4.cell? ⟨N, 1, none⟩ = some sk := one_cells i1.n 1 _ rfl
        have lt4 : N < a4.heap.size := heap_lt i1.n
        have ha5 : Rd (a4.alloc (.cells #[.slice p3 K.length c3] 23)) 23 (.slice (some ⟨a4.heap.size, 0, none⟩) 1 1) [.slice p3 K.length c3] := Rd.one _ _ _
        have ho5 : Own (a4.alloc (.cells #[.slice p3 K.length c3] 23)) 23 sk kvs := own_ext i1.k ((Upd.refl (fun _ => False) a4).alloc _) (fun _ _ f => f)
        have hone : ∀ y ∈ [Value.slice p3 K.length c3], y.oneCell' = true := by simp [Value.oneCell']
        have hkl : kvs.length ≤ 4000 := by rw [i1.kl.1]; simp; omega
        have HA5 := Lib.hid ha5
        have HO5 := Lib.hid ho5
        have HONE := Lib.hid hone
        clear hc1 hu1 i1 ho4 hw4 hk3 ha5 ho5 hone
        go_wp2_with (at_builtin; refine wpList_app rfl _ _ 100 rfl 23 _ _ (by kernel_rfl) info_bs rfl _ kvs rfl HO5.out _ [.slice p3 K.length c3] rfl HA5.out HONE.out (by simp; omega) (by decide) ?_)
        intro sk' w5 ho hnw hU
        have n5 := I4.out.nAny (fun j hj => (I4.out.kb j hj).1) hU
        have i5 := I4.out.key HK3.out ho hnw hU
        obtain ⟨ak', ck', hsk, -⟩ := own_slice ho
        rw [show (kvs ++ [Value.slice p3 K.length c3]).length = kvs.length + 1 by simp] at hsk
        subst hsk
        have l1 : w5.cell? ⟨N, 1, none⟩ = some sk := one_cells n5 1 _ rfl
        have lf1 : w5.frozen? ⟨N, 1, none⟩ = false := frozen_heap n5
        obtain ⟨w6, hw6⟩ : ∃ w6, w6 = w5.setCell ⟨N, 1, none⟩ (.slice ak' (kvs.length + 1) ck') := ⟨_, rfl⟩
        rw [← hw6] at i5
        have m0 : w5.cell? ⟨N, 0, none⟩ = some (.bool false) := one_cells n5 0 _ (by rw [HLF.out]; rfl)
        have i6d : RdInv x N (w.heap.size + 1) w4 w6.drew (x.keys.take k ++ [K]) [] (x.kids.take (k + 1)) (e32 V.toNat ++ rest2) (.slice ak' (kvs.length + 1) ck') (.slice none 0 0) sc (kvs ++ [.slice p3 K.length c3]) [] := i5.num (i5.cur.upd ((Upd.refl (fun _ => False) w6).drew) (fun f => f) (fun _ _ _ f => f.elim)) ((Upd.refl _ w6).drew)
        have l3 : w6.drew.cell? ⟨N, 3, none⟩ = some sc := one_cells i6d.n 3 _ rfl
        have hxl : (intv (x.kids.take (k + 1))).length ≤ 4001 := by simp; omega
        have HID := Lib.hid i6d
        clear ho hnw hU n5 i5 i6d
        go_wp2_with fail
        rw [← hw6]
        clear hw6
        go_region_law (first
          | (go_simp
             refine (H4.out _ V _ HID.out.cur HK2.out.1 HK2.out.2 HR2L.out).mono ?_
             rintro e w7 ⟨rfl, hc7, hu7⟩
             have i7 := HID.out.num hc7 hu7
             have l7 := hu7.cell l3 hNR
             have lt7 := heap_lt i7.n
             dsimp only)
          | (refine step_app1 (by rfl) _ _ 62 (by rfl) 3 (.int .i64 0) 8 (by kernel_rfl) info_int rfl _ (by rfl) _ (own_ext i7.c ((Upd.refl (fun _ => False) w7).alloc _) (fun _ _ f => f)) _ (by rfl) _ (Rd.one w7 3 (.int .i64 V)) rfl (by omega) (by decide) ?_
             intro sc' w8 ho hnw hU
             have n8 := i7.nAny (fun j hj => i7.cb j hj) hU
             have i8 := i7.kid ho hnw hU
             obtain ⟨ac', cc', hsc, -⟩ := own_slice ho
             obtain ⟨m, hm⟩ : ∃ m, m = (intv (x.kids.take (k + 1)) ++ [Value.int .i64 V]).length := ⟨_, rfl⟩
             rw [← hm] at hsc
             clear hm
             subst hsc
             have q3 : w8.cell? ⟨N, 3, none⟩ = some sc := one_cells n8 3 _ rfl
             have qf3 : w8.frozen? ⟨N, 3, none⟩ = false := frozen_heap n8))
        all_goals
          have I8 := Lib.hid i8
          clear i8 n8 q3 qf3 ho hnw hU i7 l7 lt7 hc7 hu7
          go_wp2_with fail
          go_roundw
          case rel => exact ⟨k + 1, _, _, _, by omega, by go_num, by rw [S1.out, S2.out, ← HR2.out]; exact I8.out⟩
          case measure => simp [intOf]; omega
      · have hk2 : k = x.keys.length := by omega
        subst hk2
        have e1 : x.keys.take x.keys.length = x.keys := List.take_length
        have e2 : x.kids.take (x.keys.length + 1) = x.kids := List.take_of_length_le (by have := HV1.out; omega)
        rw [e1, e2] at hinv
        have hs4 := HU4.out.size
        have hs3 := HU13.out.size
        have hs1 := HU1.out.size
        have hNw : w.heap.size ≤ N := by have := HNN.out; omega
        have hextW : Ext w wr := HU4.out.trans hinv.upd (fun i hi => .inr (by rcases hi with h | h <;> omega))
        have hno : NOwn wr w4.heap.size sk (.slice none 0 0) sc kvs [] x := by
          refine ⟨hinv.k, hinv.kl, by have := hinv.v; exact this, by rw [HV2.out]; exact hinv.vl, hinv.c, fun j hj => ⟨(hinv.kb j hj).1, (hinv.kb j hj).2.1⟩, fun j hj => (hinv.vb j hj).1, fun j hj => hinv.cb j hj⟩
        have hU1r : Upd (fun j => j = w.heap.size + 1 ∨ j = N) w1 wr := (HU14.out.mono (fun i _ h => .inl h)).trans hinv.upd (fun i hi => .inl hi)
        have hrc := HRC.out
        have hrh := hU1r.heap HRH.out (fun h => by rcases h with h | h <;> omega)
        have HRH2 := Lib.hid hrh
        clear hrh
        have hw4l : w.heap.size < w4.heap.size := by have := hinv.nl; omega
        have z0 := hU1r.cell hrc.1 (fun h => by rcases h with h | h <;> simp at h <;> omega)
        have z1 := hU1r.cell hrc.2.1 (fun h => by rcases h with h | h <;> simp at h <;> omega)
        have z2 := hU1r.cell hrc.2.2.1 (fun h => by rcases h with h | h <;> simp at h <;> omega)
        have z3 := hU1r.cell hrc.2.2.2 (fun h => by rcases h with h | h <;> simp at h <;> omega)
        have zf : ∀ i, wr.frozen? ⟨w.heap.size, i, none⟩ = false := fun i => by rw [hU1r.frozen (p := ⟨w.heap.size, i, none⟩) (by show w.heap.size < _; omega) (fun h => by rcases h with h | h <;> simp at h <;> omega)]; exact HRF.out i
        obtain ⟨ak, ck, av, cv, ac, cc, rfl, hsc, rfl, hnode⟩ := hno.node
        have hn0 := one_cells hinv.n 0 (.bool false) (by rw [HLF.out]; rfl)
        have hn1 := one_cells hinv.n 1 _ rfl
        have hn2 := one_cells hinv.n 2 _ rfl
        have hn3 := one_cells hinv.n 3 _ rfl
        have hwr := write_any x ak av ac ck cv cc kvs [] wr hnode HS.out HX.out HSZ.out
        unfold nodeV at hwr
        rw [HLF.out, ← hsc] at hwr
        have hbp : Bts wr (.slice pa (page x).length pc) (page x) := HP.out.ext hextW
        have HWR := Lib.hid hwr
        have HBP := Lib.hid hbp
        have HZF := Lib.hid zf
        have HNO := Lib.hid hno
        have HEXT := Lib.hid hextW
        have hltw : w.heap.size < wr.heap.size := by have := hU1r.size; omega
        have hNlt : N < wr.heap.size := heap_lt hinv.n
        clear hwr hbp hsc hnode hrc hU1r hno hextW hinv e1 e2 hs4 hs3 hs1 zf
        go_wp2_with fail
        refine HWR.out.mono ?_
        rintro e w8 ⟨c, rfl, hc, hcw, hU8⟩
        have heq := equal_any (.slice pa (page x).length pc) c (page x) (page x) w8 (HBP.out.ext hU8) (own_rd hc)
        rw [decide_eq_true rfl] at heq
        have y0 := hU8.cell z0 (fun h => h)
        have y1 := hU8.cell z1 (fun h => h)
        have y2 := hU8.cell z2 (fun h => h)
        have y3 := hU8.cell z3 (fun h => h)
        have m0 := hU8.cell hn0 (fun h => h)
        have m1 := hU8.cell hn1 (fun h => h)
        have m2 := hU8.cell hn2 (fun h => h)
        have m3 := hU8.cell hn3 (fun h => h)
        have yf0 : w8.frozen? ⟨w.heap.size, 0, none⟩ = false := by rw [hU8.frozen (p := ⟨w.heap.size, 0, none⟩) hltw (fun h => h)]; exact HZF.out 0
        have yf1 : w8.frozen? ⟨w.heap.size, 1, none⟩ = false := by rw [hU8.frozen (p := ⟨w.heap.size, 1, none⟩) hltw (fun h => h)]; exact HZF.out 1
        have yf2 : w8.frozen? ⟨w.heap.size, 2, none⟩ = false := by rw [hU8.frozen (p := ⟨w.heap.size, 2, none⟩) hltw (fun h => h)]; exact HZF.out 2
        have yf3 : w8.frozen? ⟨w.heap.size, 3, none⟩ = false := by rw [hU8.frozen (p := ⟨w.heap.size, 3, none⟩) hltw (fun h => h)]; exact HZF.out 3
        have HEQ := Lib.hid heq
        have HU8 := Lib.hid hU8
        clear heq hU8 z0 z1 z2 z3 hn0 hn1 hn2 hn3 hc hcw
        go_wp2_with (go_at_call 65; refine HEQ.out.mono ?_; rintro e w9 ⟨rfl, rfl⟩)
        refine bodyPost_ret (v := .tuple #[.agg #[.bool false, .slice ak x.keys.length ck, .slice none 0 0, .slice ac x.kids.length cc], .int .i64 0]) (by simp [results, Tryz.results83, go_sem, y0, y1, y2, y3]) rfl ?_
        have hF : Upd (fun k => k = w.heap.size) w9 ((((w9.setCell ⟨w.heap.size, 0, none⟩ (.bool false)).setCell ⟨w.heap.size, 1, none⟩ (.slice ak x.keys.length ck)).setCell ⟨w.heap.size, 2, none⟩ (.slice none 0 0)).setCell ⟨w.heap.size, 3, none⟩ (.slice ac x.kids.length cc)) :=
          upd_set4 w9 w.heap.size _ _ _ _
        have h9 := HU8.out.heap HRH2.out (fun f => f)
        have hn9 := (HNO.out.ext HU8.out).upd hF (fun k hk e => by have := (HNO.out.kb k hk).1; omega) (fun k hk e => by have := HNO.out.vb k hk; omega) (fun k hk e => by have := HNO.out.cb k hk; omega) (by rintro b cs fr rfl e; rw [h9] at e; simp at e)
        exact ⟨_, _, _, _, _, by rw [HLF.out], hn9.mono (by omega), (HEXT.out.andExt HU8.out).trans hF (fun i hi => .inr (by omega))⟩
end Go.Proofs.YtecfhfddgolpfaaGreat
