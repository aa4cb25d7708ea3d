/- The tree's walks: Put, Open, Root. -/
import Derived.Test.YtecfhfddgolpfaaGreatTreeH
namespace Go.Proofs.YtecfhfddgolpfaaGreat
open Go.RowKit
variable {w w' : World} {F G : Nat → Prop} {p nf pool dn N t : Nat} {σ : List Int} {C : Int → Bytes} {h : Nat} {x : Nd} {es : List Ent} {ps : List Int}

set_option maxRecDepth 100000 in
theorem open_tree (p : Nat) (root : Int) (w : World) :
    Calls Tryz.prog 29 #[.pointer (some ⟨p, 0, none⟩), .int .i64 root] w fun e w' => e = .returned (.pointer (some ⟨w.heap.size, 0, none⟩)) ∧ TrRow w' w.heap.size p root ∧ Ext w w' := by
  go_enter Tryz.func29, Tryz.ntmps29
  go_wp2
  go_ret
  exact ⟨rfl, heap_alloc_new w _, (Upd.refl _ w).alloc _⟩
set_option maxRecDepth 100000 in
theorem root_tree {root : Int} (ht : TrRow w t p root) :
    Calls Tryz.prog 47 #[.pointer (some ⟨t, 0, none⟩)] w fun e w' => e = .returned (.int .i64 root) ∧ w' = w := by
  have q1 : w.cell? ⟨t, 1, none⟩ = some (.int .i64 root) := by rw [cell_heap ht]; rfl
  clear ht
  go_enter Tryz.func47, Tryz.ntmps47
  go_wp2
  go_ret
  exact ⟨rfl, rfl⟩
/-- Put of what may not be put. -/
theorem Put_bad_aux (kl vl : Nat) (hbad : kl < 1 ∨ 240 < kl ∨ 260 < vl) (kp vp : Option Addr) (kc vc : Nat) (h1 : kl ≤ 1000000) (h2 : vl ≤ 1000000) (w : World) :
    Calls Tryz.prog 30 #[.pointer (some ⟨t, 0, none⟩), .slice kp kl kc, .slice vp vl vc] w fun e w' => e = .returned (.int .i64 1) ∧ w' = w := by
  by_cases c1 : kl < 1
  · obtain rfl : kl = 0 := by omega
    clear hbad c1
    go_enter Tryz.func30, Tryz.ntmps30
    go_wp2
    go_ret
    exact ⟨rfl, rfl⟩
  · have c1' : ¬ ((kl : Int) < 1) := by omega
    by_cases c2 : 240 < kl
    · have c2' : (240 : Int) < (kl : Int) := by omega
      clear hbad c1
      go_enter Tryz.func30, Tryz.ntmps30
      go_wp2
      go_ret
      exact ⟨rfl, rfl⟩
    · have c2' : ¬ (240 : Int) < (kl : Int) := by omega
      have c3' : (260 : Int) < (vl : Int) := by omega
      clear hbad c1 c2
      go_enter Tryz.func30, Tryz.ntmps30
      go_wp2
      go_ret
      exact ⟨rfl, rfl⟩
abbrev PutTop (w : World) (F : Nat → Prop) (t p nf pool dn : Nat) (σ : List Int) (C : Int → Bytes) (N H : Nat) (es : List Ent) (ps : List Int) (e : Ending) (w' : World) : Prop :=
  e = .returned (.int .i64 0) ∧ ∃ (root' : Int) (H' : Nat) (σ' : List Int) (C' : Int → Bytes) (F' : Nat → Prop) (ps' : List Int), TrRow w' t p root' ∧ Pgs w' F' p nf pool dn σ' C' N ∧ Tree C' H' root' es ps' ∧ H' ≤ H + 1 ∧ Chg σ C ps σ' C' ps' ∧ (∀ i, F' i → F i ∨ w.heap.size ≤ i) ∧ Upd (fun i => F i ∨ i = t) w w'
/-- The end of Put: the new root is laid. -/
theorem put_top_end {w7 : World} {F7 : Nat → Prop} {σ' : List Int} {C' : Int → Bytes} {N7 N' H H' : Nat} {pg r0 : Int} {kv a b c : Value} {bh : Int} {L : Nat} {ps' : List Int} (hU : Upd F w w7) (hP : Pgs w7 F7 p nf pool dn σ' C' N7) (hN : N7 ≤ N') (hT : Tree C' H' pg es ps') (hH : H' ≤ H + 1) (hch : Chg σ C ps σ' C' ps')
    (hF : ∀ i, F7 i → F i ∨ w.heap.size ≤ i) (hl : w7.heap[L]? = some (.cells #[a, b, c] 140 (0, 0))) (ht : TrRow w7 t p r0) (hL : w.heap.size ≤ L) :
    PutTop w F t p nf pool dn σ C N' H es ps (.returned (.int .i64 0)) ((((w7.setCell ⟨L, 0, none⟩ (.int .i64 pg)).setCell ⟨L, 1, none⟩ kv).setCell ⟨L, 2, none⟩ (.int .i64 bh)).setCell ⟨t, 1, none⟩ (.int .i64 pg)) := by
  have hUs := upd_set3 w7 L (.int .i64 pg) kv (.int .i64 bh)
  generalize (((w7.setCell ⟨L, 0, none⟩ (.int .i64 pg)).setCell ⟨L, 1, none⟩ kv).setCell ⟨L, 2, none⟩ (.int .i64 bh)) = w8 at *
  have htL : t ≠ L := fun e => by rw [← e, show w7.heap[t]? = _ from ht] at hl; simp at hl
  have ht8 : TrRow w8 t p r0 := hUs.heap ht htL
  have hUt : Upd (fun i => i = t) w8 (w8.setCell ⟨t, 1, none⟩ (.int .i64 pg)) := (Upd.refl _ w8).setCell _ (.inl rfl)
  have hnb : ∀ b cs fr, b = L → w7.heap[b]? ≠ some (.cells cs 5 fr) := by rintro b cs fr rfl e; rw [hl] at e; simp at e
  have hnt : ∀ b cs fr, b = t → w8.heap[b]? ≠ some (.cells cs 5 fr) := by rintro b cs fr rfl e; rw [show w8.heap[b]? = _ from ht8] at e; simp at e
  have hnL : ¬ F7 L := hP.not hl (by decide) (by decide) (by decide) (by decide) (by decide) (by decide)
  have h8 := hP.upd hUs (fun i hi e => hnL (e ▸ hi)) hnb
  refine ⟨rfl, pg, H', σ', C', F7, ps', ?_, (h8.upd hUt (fun i hi e => ht8.not h8 (e ▸ hi)) hnt).mono hN, hT, hH, hch, hF, ((hU.trans hUs (fun i e => .inr (by omega))).mono (fun i _ e => .inl e)).trans hUt (fun i e => .inl (.inr e))⟩
  unfold TrRow
  rw [heap_setCell_same w8 t 1 _ _ _ ht8]
  rfl
set_option maxRecDepth 100000 in
set_option maxHeartbeats 2000000 in
theorem put_top_none (ht : TrRow w t p (-1)) (hP : Pgs w F p nf pool dn σ C N) (hN : N + 100 ≤ 1000000000) (hr : 3 ≤ roomOf σ) (kv vv : Value) (key v : Bytes) (hkey : Bts w kv key) (hval : Bts w vv v) (hk1 : 1 ≤ key.length) (hk2 : key.length ≤ 240) (hv : v.length ≤ 260) :
    Calls Tryz.prog 30 #[.pointer (some ⟨t, 0, none⟩), kv, vv] w (PutTop w F t p nf pool dn σ C (N + 100) 0 (ins key v []) []) := by
  obtain ⟨kp, kc, rfl, -⟩ := hkey.open
  obtain ⟨vp, vc, rfl, -⟩ := hval.open
  obtain ⟨kl, hkl⟩ : ∃ kl, kl = key.length := ⟨_, rfl⟩
  obtain ⟨vl, hvl⟩ : ∃ vl, vl = v.length := ⟨_, rfl⟩
  rw [← hkl] at hkey ⊢
  rw [← hvl] at hval ⊢
  have c1 : ¬ ((kl : Int) < 1) := by omega
  have c2 : ¬ (240 : Int) < (kl : Int) := by omega
  have c3 : ¬ (260 : Int) < (vl : Int) := by omega
  have HRM := Lib.hid (room_tree (H := 0) ht hP (by omega) (by omega) (.inl ⟨rfl, rfl, rfl, rfl⟩) (fun m hm => by simp at hm) (by omega))
  have HT := Lib.hid ht
  have HTF := Lib.hid (ht.not hP)
  have HP := Lib.hid hP
  have HK := Lib.hid (And.intro hkey (And.intro hval (And.intro hkl hvl)))
  have HKL := Lib.hid (And.intro hk1 (And.intro hk2 hv))
  clear ht hP hkey hval hkl hvl hk1 hk2 hv
  go_enter Tryz.func30, Tryz.ntmps30
  go_wp2_with fail
  refine HRM.out.mono ?_
  rintro e w1 ⟨rfl, F1, h1, hF1, hU1⟩
  have ht1 : TrRow w1 t p (-1) := hU1.heap HT.out HTF.out
  have hk1' := HK.out.1.upd hU1 HP.out.notByte
  have hv1' := HK.out.2.1.upd hU1 HP.out.notByte
  have HCK := Lib.hid (cloneb_any _ key w1 hk1' (by have := HKL.out.2.1; omega))
  have H1 := Lib.hid (And.intro h1 (And.intro hF1 (And.intro hU1 (And.intro ht1 hv1'))))
  clear h1 hF1 hU1 ht1 hk1' hv1'
  go_wp2_with fail
  refine HCK.out.mono ?_
  rintro e w2 ⟨kv2, rfl, hok, hnk, hU2⟩
  have hv2 := H1.out.2.2.2.2.ext hU2
  have HCV := Lib.hid (cloneb_any _ v w2 hv2 (by have := HKL.out.2.2; omega))
  have H2 := Lib.hid (And.intro hok hU2)
  clear hok hnk hU2 hv2
  go_wp2_with fail
  refine HCV.out.mono ?_
  rintro e w3 ⟨vv2, rfl, hov, hnv, hU3⟩
  obtain ⟨h1, hF1, hU1, ht1, -⟩ := H1.out
  obtain ⟨hok, hU2⟩ := H2.out
  have hbk : Bts w3 kv2 key := Bts.ext (own_rd hok) hU3
  have hbv : Bts w3 vv2 v := own_rd hov
  obtain ⟨kp2, kc2, rfl, -⟩ := hbk.open
  obtain ⟨vp2, vc2, rfl, -⟩ := hbv.open
  rw [← HK.out.2.2.1] at hbk ⊢
  rw [← HK.out.2.2.2] at hbv ⊢
  have hU13 : Ext w1 w3 := hU2.andExt hU3
  have ht3 : TrRow w3 t p (-1) := hU13.heap ht1 (fun f => f)
  obtain ⟨W4, hW4⟩ : ∃ W4, W4 = w3.alloc (.cells #[.int .i64 (-1), .slice none 0 0, .int .i64 (-1)] 140) := ⟨_, rfl⟩
  obtain ⟨W5, hW5⟩ : ∃ W5, W5 = W4.alloc (.cells #[.slice kp2 kl kc2] 23) := ⟨_, rfl⟩
  obtain ⟨W6, hW6⟩ : ∃ W6, W6 = W5.alloc (.cells #[.slice vp2 vl vc2] 23) := ⟨_, rfl⟩
  have hx34 : Ext w3 W4 := by rw [hW4]; exact (Upd.refl _ w3).alloc _
  have hx45 : Ext W4 W5 := by rw [hW5]; exact (Upd.refl _ W4).alloc _
  have hx56 : Ext W5 W6 := by rw [hW6]; exact (Upd.refl _ W5).alloc _
  have hs4 : W4.heap.size = w3.heap.size + 1 := by rw [hW4]; simp
  have hs5 : W5.heap.size = w3.heap.size + 1 + 1 := by rw [hW5]; simp [hs4]
  have hx36 : Ext w3 W6 := (hx34.andExt hx45).andExt hx56
  have hl6 : W6.heap[w3.heap.size]? = some (.cells #[.int .i64 (-1), .slice none 0 0, .int .i64 (-1)] 140 (0, 0)) := (hx45.andExt hx56).heap (by rw [hW4]; exact heap_alloc_new w3 _) (fun f => f)
  have hk6 : W6.heap[w3.heap.size + 1]? = some (.cells #[.slice kp2 kl kc2] 23 (0, 0)) := hx56.heap (by rw [hW5, ← hs4]; exact heap_alloc_new W4 _) (fun f => f)
  have hv6 : W6.heap[w3.heap.size + 1 + 1]? = some (.cells #[.slice vp2 vl vc2] 23 (0, 0)) := by rw [hW6, ← hs5]; exact heap_alloc_new W5 _
  have hnode : NodeAt W6 ⟨true, [key], [v], []⟩ (some ⟨w3.heap.size + 1, 0, none⟩) 1 (some ⟨w3.heap.size + 1 + 1, 0, none⟩) 1 none 0 [.slice kp2 kl kc2] [.slice vp2 vl vc2] := by
    refine ⟨.inr ⟨w3.heap.size + 1, 0, _, _, rfl, hk6, fun j y hy => by rw [Nat.zero_add]; simpa using hy⟩, ⟨rfl, fun j y b h1 h2 => ?_⟩, by simp, by unfold maxLen; omega, fun e => by simp at e, .inr ⟨w3.heap.size + 1 + 1, 0, _, _, rfl, hv6, fun j y hy => by rw [Nat.zero_add]; simpa using hy⟩, ⟨rfl, fun j y b h1 h2 => ?_⟩, by simp, by unfold maxLen; omega, fun e => by simp at e, .inl rfl, by simp, by unfold maxLen; omega, fun _ => rfl⟩
    · cases j with
      | zero => simp at h1 h2; subst h1; subst h2; exact hbk.ext hx36
      | succ j => simp at h1
    · cases j with
      | zero => simp at h1 h2; subst h1; subst h2; exact hbv.ext hx36
      | succ j => simp at h1
  have hb : Body (Tree C 0) 0 ⟨true, [key], [v], []⟩ (ins key v []) [] := by
    refine ⟨⟨fun i hi => ?_, List.pairwise_singleton _ _, fun _ => ⟨rfl, rfl, fun u hu => ?_⟩, fun e => by simp at e⟩, .inl ⟨rfl, rfl, rfl, rfl⟩⟩
    · obtain rfl : i = 0 := by simpa using hi
      exact ⟨HKL.out.1, HKL.out.2.1⟩
    · simp at hu; rw [hu]; exact HKL.out.2.2
  have hsz : nsize ⟨true, [key], [v], []⟩ ≤ 1024 := by
    rw [nsize_leaf _ rfl rfl]
    have := HKL.out
    simp; omega
  have h6 := h1.ext (hU13.andExt hx36)
  have ht6 : TrRow W6 t p (-1) := hx36.heap ht3 (fun f => f)
  have hlay := lay_small ht6 h6 (by omega) (-1) [] (.inl ⟨rfl, rfl, by omega⟩) (some ⟨w3.heap.size + 1, 0, none⟩) (some ⟨w3.heap.size + 1 + 1, 0, none⟩) none 1 1 0 _ _ hnode hb hsz ⟨by simp, fun m hm => by simp at hm⟩
  unfold nodeV at hlay
  have HLAY := Lib.hid hlay
  have q3 : w3.cell? ⟨t, 1, none⟩ = some (.int .i64 (-1)) := by rw [cell_heap ht3]; rfl
  have q6 : W6.cell? ⟨t, 1, none⟩ = some (.int .i64 (-1)) := by rw [cell_heap ht6]; rfl
  have htl : t < w3.heap.size := heap_lt ht3
  have hw6 := hW6
  rw [hW5, hW4] at hw6
  have HW6 := Lib.hid hw6
  have H6 := Lib.hid (And.intro h6 (And.intro ht6 (And.intro hl6 (And.intro hU13 (And.intro hx36 (And.intro hs4 hs5))))))
  clear h1 hF1 hU1 ht1 hok hU2 hbk hbv hov hnv hU3 hU13 ht3 hW4 hW5 hW6 hx34 hx45 hx56 hs4 hs5 hx36 hl6 hk6 hv6 hnode hb hsz h6 ht6 hlay hw6
  go_wp2_with fail
  rw [← HW6.out]
  refine HLAY.out.mono ?_
  rintro e w7 ⟨pg, σ', C', F', rfl, h7, hpl, hch, -, hF7, hU7⟩
  obtain ⟨h6, ht6, hl6, hU13, hx36, hs4, hs5⟩ := H6.out
  have hl7 := hU7.heap hl6 (h6.not hl6 (by decide) (by decide) (by decide) (by decide) (by decide) (by decide))
  have ht7 : TrRow w7 t p (-1) := hU7.heap ht6 (ht6.not h6)
  have z0 := one_cells hl7 0 _ rfl
  have z1 := one_cells hl7 1 _ rfl
  have z2 := one_cells hl7 2 _ rfl
  have i0 : w7.frozen? ⟨w3.heap.size, 0, none⟩ = false := frozen_heap hl7
  have i1 : w7.frozen? ⟨w3.heap.size, 1, none⟩ = false := frozen_heap hl7
  have i2 : w7.frozen? ⟨w3.heap.size, 2, none⟩ = false := frozen_heap hl7
  have q7 : w7.cell? ⟨t, 1, none⟩ = some (.int .i64 (-1)) := by rw [cell_heap ht7]; rfl
  have f7 : w7.frozen? ⟨t, 1, none⟩ = false := frozen_heap ht7
  have hne : w3.heap.size ≠ t := by omega
  have H7 := Lib.hid (And.intro h7 (And.intro hpl (And.intro hch (And.intro hF7 (And.intro hU7 (And.intro hl7 ht7))))))
  clear h6 ht6 hl6 hU13 hx36 hs4 hs5 hl7 ht7 h7 hpl hch hF7 hU7 q3 q6
  go_wp2_with fail
  go_ret
  obtain ⟨h7, hpl, hch, hF7, hU7, hl7, ht7⟩ := H7.out
  obtain ⟨h6, ht6, hl6, hU13, hx36, hs4, hs5⟩ := H6.out
  obtain ⟨h1, hF1, hU1, ht1, -⟩ := H1.out
  have hs1 := hU1.size
  have hs13 := hU13.size
  have hs36 := hx36.size
  exact put_top_end (hU1.trans ((hU13.andExt hx36).ext.trans hU7 (fun i e => .inl e)) hF1) h7 (by omega) (hpl.tree (by simp)) (by omega) hch (fun i hi => (hF7 i hi).elim (hF1 i) (fun e => .inr (by omega))) hl7 ht7 (by omega)
set_option maxRecDepth 100000 in
set_option maxHeartbeats 4000000 in
theorem put_top_some {root : Int} {H : Nat} (ht : TrRow w t p root) (hP : Pgs w F p nf pool dn σ C N) (hN : N + 34 * H + 100 ≤ 1000000000) (hH : H ≤ 20) (hT : Tree C H root es ps) (ho : Own2 σ ps) (hr : 2 * H + 3 ≤ roomOf σ) (kv vv : Value) (key v : Bytes) (hkey : Bts w kv key) (hval : Bts w vv v) (hk1 : 1 ≤ key.length) (hk2 : key.length ≤ 240) (hv : v.length ≤ 260) :
    Calls Tryz.prog 30 #[.pointer (some ⟨t, 0, none⟩), kv, vv] w (PutTop w F t p nf pool dn σ C (N + 34 * H + 100) H (ins key v es) ps) := by
  obtain ⟨kp, kc, rfl, -⟩ := hkey.open
  obtain ⟨vp, vc, rfl, -⟩ := hval.open
  obtain ⟨kl, hkl⟩ : ∃ kl, kl = key.length := ⟨_, rfl⟩
  obtain ⟨vl, hvl⟩ : ∃ vl, vl = v.length := ⟨_, rfl⟩
  rw [← hkl] at hkey ⊢
  rw [← hvl] at hval ⊢
  have c1 : ¬ ((kl : Int) < 1) := by omega
  have c2 : ¬ (240 : Int) < (kl : Int) := by omega
  have c3 : ¬ (260 : Int) < (vl : Int) := by omega
  have HRM := Lib.hid (room_tree ht hP (by omega) hH (.inr hT) ho.on hr)
  have hrt : root ≠ -1 := fun e => by have := stOf_range (σ := σ) (k := root) (by rw [ho.on _ hT.mem]; omega); omega
  have HRT := Lib.hid (show (root == -1) = false by simpa using hrt)
  have HT := Lib.hid ht
  have HTF := Lib.hid (ht.not hP)
  have HP := Lib.hid hP
  have HK := Lib.hid (And.intro hkey (And.intro hval (And.intro hkl hvl)))
  have HKL := Lib.hid (And.intro hk1 (And.intro hk2 hv))
  have HTR := Lib.hid (And.intro hT ho)
  clear ht hP hkey hval hkl hvl hk1 hk2 hv hT ho hrt
  go_enter Tryz.func30, Tryz.ntmps30
  go_wp2_with fail
  refine HRM.out.mono ?_
  rintro e w1 ⟨rfl, F1, h1, hF1, hU1⟩
  have ht1 : TrRow w1 t p root := hU1.heap HT.out HTF.out
  have hk1' := HK.out.1.upd hU1 HP.out.notByte
  have hv1' := HK.out.2.1.upd hU1 HP.out.notByte
  have HCK := Lib.hid (cloneb_any _ key w1 hk1' (by have := HKL.out.2.1; omega))
  have H1 := Lib.hid (And.intro h1 (And.intro hF1 (And.intro hU1 (And.intro ht1 hv1'))))
  clear h1 hF1 hU1 ht1 hk1' hv1'
  go_wp2_with fail
  refine HCK.out.mono ?_
  rintro e w2 ⟨kv2, rfl, hok, hnk, hU2⟩
  have hv2 := H1.out.2.2.2.2.ext hU2
  have HCV := Lib.hid (cloneb_any _ v w2 hv2 (by have := HKL.out.2.2; omega))
  have H2 := Lib.hid (And.intro hok hU2)
  clear hok hnk hU2 hv2
  go_wp2_with fail
  refine HCV.out.mono ?_
  rintro e w3 ⟨vv2, rfl, hov, hnv, hU3⟩
  obtain ⟨h1, hF1, hU1, ht1, -⟩ := H1.out
  obtain ⟨hok, hU2⟩ := H2.out
  have hbk : Bts w3 kv2 key := Bts.ext (own_rd hok) hU3
  have hbv : Bts w3 vv2 v := own_rd hov
  obtain ⟨kp2, kc2, rfl, -⟩ := hbk.open
  obtain ⟨vp2, vc2, rfl, -⟩ := hbv.open
  rw [← HK.out.2.2.1] at hbk ⊢
  rw [← HK.out.2.2.2] at hbv ⊢
  have hU13 : Ext w1 w3 := hU2.andExt hU3
  have ht3 : TrRow w3 t p root := hU13.heap ht1 (fun f => f)
  obtain ⟨W4, hW4⟩ : ∃ W4, W4 = w3.alloc (.cells #[.int .i64 (-1), .slice none 0 0, .int .i64 (-1)] 140) := ⟨_, rfl⟩
  have hx34 : Ext w3 W4 := by rw [hW4]; exact (Upd.refl _ w3).alloc _
  have hl4 : W4.heap[w3.heap.size]? = some (.cells #[.int .i64 (-1), .slice none 0 0, .int .i64 (-1)] 140 (0, 0)) := by rw [hW4]; exact heap_alloc_new w3 _
  have ht4 : TrRow W4 t p root := hx34.heap ht3 (fun f => f)
  have h4 := h1.ext (hU13.andExt hx34)
  have hput := put_tree HKL.out.1 HKL.out.2.1 HKL.out.2.2 H W4 F1 (N + 4 * H) root es ps (.slice kp2 kl kc2) (.slice vp2 vl vc2) 1 ht4 h4 (by omega) HTR.out.1 HTR.out.2 (by omega) (by omega) (by omega) (hbk.ext hx34) (hbv.ext hx34)
  have HPUT := Lib.hid hput
  have q3 : w3.cell? ⟨t, 1, none⟩ = some (.int .i64 root) := by rw [cell_heap ht3]; rfl
  have q4 : W4.cell? ⟨t, 1, none⟩ = some (.int .i64 root) := by rw [cell_heap ht4]; rfl
  have htl : t < w3.heap.size := heap_lt ht3
  have HW4 := Lib.hid hW4
  have H4 := Lib.hid (And.intro h4 (And.intro ht4 (And.intro hl4 (And.intro hU13 hx34))))
  rw [hW4] at q4
  have hrt := HRT.out
  clear h1 hF1 hU1 ht1 hok hU2 hbk hbv hov hnv hU3 hU13 ht3 hW4 hx34 hl4 h4 ht4 hput
  go_wp2_with fail
  rw [← HW4.out]
  refine HPUT.out.mono ?_
  rintro e w7 ⟨lv, K, bh, σ', C', F', ps', rfl, h7, hK, hlaid, hch, hlen, hF7, hU7⟩
  obtain ⟨lp, lc, rfl, -⟩ := hK.open
  obtain ⟨ll, hll⟩ : ∃ ll, ll = K.length := ⟨_, rfl⟩
  rw [← hll] at hK ⊢
  obtain ⟨h4, ht4, hl4, hU13, hx34⟩ := H4.out
  have hl7 := hU7.heap hl4 (h4.not hl4 (by decide) (by decide) (by decide) (by decide) (by decide) (by decide))
  have ht7 : TrRow w7 t p root := hU7.heap ht4 (ht4.not h4)
  have z0 := one_cells hl7 0 _ rfl
  have z1 := one_cells hl7 1 _ rfl
  have z2 := one_cells hl7 2 _ rfl
  have i0 : w7.frozen? ⟨w3.heap.size, 0, none⟩ = false := frozen_heap hl7
  have i1 : w7.frozen? ⟨w3.heap.size, 1, none⟩ = false := frozen_heap hl7
  have i2 : w7.frozen? ⟨w3.heap.size, 2, none⟩ = false := frozen_heap hl7
  have q7 : w7.cell? ⟨t, 1, none⟩ = some (.int .i64 root) := by rw [cell_heap ht7]; rfl
  have f7 : w7.frozen? ⟨t, 1, none⟩ = false := frozen_heap ht7
  have hne : w3.heap.size ≠ t := by omega
  have H7 := Lib.hid (And.intro h7 (And.intro hK (And.intro hch (And.intro hF7 (And.intro hU7 (And.intro hl7 (And.intro ht7 (And.intro hlen hll))))))))
  clear h4 ht4 hl4 hU13 hx34 hl7 ht7 h7 hK hch hF7 hU7 hlen hll q3 q4
  rcases hlaid with ⟨rfl, htk⟩ | ⟨hb0, hb1, hb2, hb3, es1, es2, ps1, ps2, ht1, ht2, he12, hp12, hlo, hhi⟩
  · go_wp2_with fail
    go_ret
    obtain ⟨h7, hK, hch, hF7, hU7, hl7, ht7, hlen, hll⟩ := H7.out
    obtain ⟨h4, ht4, hl4, hU13, hx34⟩ := H4.out
    obtain ⟨h1, hF1, hU1, ht1, -⟩ := H1.out
    have hs1 := hU1.size
    have hs13 := hU13.size
    have hs36 := hx34.size
    exact put_top_end (hU1.trans ((hU13.andExt hx34).ext.trans hU7 (fun i e => .inl e)) hF1) h7 (by omega) htk (by omega) hch (fun i hi => (hF7 i hi).elim (hF1 i) (fun e => .inr (by omega))) hl7 ht7 (by omega)
  · have hbne : (bh == -1) = false := by simp; omega
    have hbne2 : (bh != -1) = true := by simp; omega
    have HLD := Lib.hid (And.intro ht1 (And.intro ht2 (And.intro he12 (And.intro hp12 (And.intro hlo hhi)))))
    obtain ⟨h7, hK, hch, hF7, hU7, hl7, ht7, hlen, hll⟩ := H7.out
    obtain ⟨h4, ht4, hl4, hU13, hx34⟩ := H4.out
    obtain ⟨h1, hF1, hU1, ht1', -⟩ := H1.out
    have hs1 := hU1.size
    have hs13 := hU13.size
    have hs36 := hx34.size
    have hs7 := hU7.size
    have hUw7 : Upd F w w7 := hU1.trans ((hU13.andExt hx34).ext.trans hU7 (fun i e => .inl e)) hF1
    have hF7w : ∀ i, F' i → F i ∨ w.heap.size ≤ i := fun i hi => (hF7 i hi).elim (hF1 i) (fun e => .inr (by omega))
    have hUs := upd_set3 w7 w3.heap.size (.int .i64 root) (.slice lp ll lc) (.int .i64 bh)
    have hl8 := heap_set3 w7 w3.heap.size (.int .i64 root) (.slice lp ll lc) (.int .i64 bh) _ _ _ _ hl7
    have hnb8 : ∀ b cs fr, b = w3.heap.size → w7.heap[b]? ≠ some (.cells cs 5 fr) := by rintro b cs fr rfl e; rw [hl7] at e; simp at e
    have hnL : ¬ F' w3.heap.size := h7.not hl7 (by decide) (by decide) (by decide) (by decide) (by decide) (by decide)
    have h8 := h7.upd hUs (fun i hi e => hnL (e ▸ hi)) hnb8
    have hK8 := hK.upd hUs hnb8
    have ht8 : TrRow (((w7.setCell ⟨w3.heap.size, 0, none⟩ (.int .i64 root)).setCell ⟨w3.heap.size, 1, none⟩ (.slice lp ll lc)).setCell ⟨w3.heap.size, 2, none⟩ (.int .i64 bh)) t p root := hUs.heap ht7 (fun e => hne e.symm)
    have H8 := Lib.hid (And.intro hl8 (And.intro h8 (And.intro hK8 (And.intro ht8 (hUw7.trans hUs (fun i e => .inr (by omega)))))))
    have HE := Lib.hid (And.intro hF7w (And.intro hch (And.intro hlen (And.intro hll (show w.heap.size ≤ w3.heap.size by omega)))))
    clear ht1 ht2 he12 hp12 hlo hhi h7 hK hch hF7 hU7 hl7 ht7 hlen hll h4 ht4 hl4 hU13 hx34 h1 hF1 hU1 ht1' hs1 hs13 hs36 hs7 hUw7 hF7w hUs hl8 hnb8 hnL h8 hK8 ht8
    go_upto_region 14 with fail
    clear z0 z1 z2 i0 i1 i2 q7 f7 H7
    generalize ((w7.setCell ⟨w3.heap.size, 0, none⟩ (.int .i64 root)).setCell ⟨w3.heap.size, 1, none⟩ (.slice lp ll lc)).setCell ⟨w3.heap.size, 2, none⟩ (.int .i64 bh) = w8 at *
    obtain ⟨hl8, h8, hK8, ht8, hUw8⟩ := H8.out
    obtain ⟨hF7w, hch, hlen, hll, hwl⟩ := HE.out
    obtain ⟨ht1, ht2, he12, hp12, hlo, hhi⟩ := HLD.out
    obtain ⟨W9, hW9⟩ : ∃ W9, W9 = w8.alloc (.cells #[.slice lp ll lc] 23) := ⟨_, rfl⟩
    obtain ⟨W10, hW10⟩ : ∃ W10, W10 = W9.alloc (.cells #[.int .i64 root, .int .i64 bh] 3) := ⟨_, rfl⟩
    have hx89 : Ext w8 W9 := by rw [hW9]; exact (Upd.refl _ w8).alloc _
    have hx9 : Ext W9 W10 := by rw [hW10]; exact (Upd.refl _ W9).alloc _
    have hs9 : W9.heap.size = w8.heap.size + 1 := by rw [hW9]; simp
    have hx8 : Ext w8 W10 := hx89.andExt hx9
    have hk10 : W10.heap[w8.heap.size]? = some (.cells #[.slice lp ll lc] 23 (0, 0)) := hx9.heap (by rw [hW9]; exact heap_alloc_new w8 _) (fun f => f)
    have hc10 : W10.heap[w8.heap.size + 1]? = some (.cells #[.int .i64 root, .int .i64 bh] 3 (0, 0)) := by rw [hW10, ← hs9]; exact heap_alloc_new W9 _
    have hl10 := hx8.heap hl8 (fun f => f)
    have ht10 : TrRow W10 t p root := hx8.heap ht8 (fun f => f)
    have h10 := h8.ext hx8
    have hHp : 0 < H := HTR.out.1.pos
    have hrng := stOf_range (σ := σ') (k := root) (by rw [hch.on root (by rw [hp12]; simp [ht1.mem])]; omega)
    have hsl := h10.slen
    have hnode : NodeAt W10 ⟨false, [K], [], [root, bh]⟩ (some ⟨w8.heap.size, 0, none⟩) 1 none 0 (some ⟨w8.heap.size + 1, 0, none⟩) 2 [.slice lp ll lc] [] := by
      refine ⟨.inr ⟨w8.heap.size, 0, _, _, rfl, hk10, fun j y hy => by rw [Nat.zero_add]; simpa using hy⟩, ⟨rfl, fun j y b h1 h2 => ?_⟩, by simp, by unfold maxLen; omega, fun e => by simp at e, .inl rfl, ⟨rfl, fun j y b h1 h2 => by simp at h1⟩, by simp, by unfold maxLen; omega, fun _ => rfl, .inr ⟨w8.heap.size + 1, 0, _, _, rfl, hc10, fun j y hy => by rw [Nat.zero_add]; simpa [intv] using hy⟩, by simp, by unfold maxLen; omega, fun e => by simp at e⟩
      cases j with
      | zero => simp at h1 h2; subst h1; subst h2; exact hK8.ext hx8
      | succ j => simp at h1
    have hb : Body (Tree C' H) H ⟨false, [K], [], [root, bh]⟩ (ins key v es) ps' := by
      refine ⟨⟨fun i hi => ?_, List.pairwise_singleton _ _, fun e => by simp at e, fun _ => ⟨rfl, rfl, fun q hq => ?_⟩⟩, .inr ⟨hHp, rfl, [(es1, ps1), (es2, ps2)], rfl, fun i q u hq hu => ?_, fun i q hq => ?_, by simp [he12], by simp [hp12]⟩⟩
      · obtain rfl : i = 0 := by simpa using hi
        exact ⟨hb2, hb3⟩
      · simp at hq
        rcases hq with rfl | rfl
        · exact ⟨hrng.1, by omega⟩
        · exact ⟨hb0, hb1⟩
      · match i with
        | 0 => simp at hq hu; subst hq; subst hu; exact ht1
        | 1 => simp at hq hu; subst hq; subst hu; exact ht2
        | i + 2 => simp at hq
      · match i with
        | 0 =>
          simp at hq; subst hq
          exact ⟨fun es he e hee => by simp at he; subst he; exact hlo e hee, fun es he e hee => by simp at he; subst he; exact hhi e hee⟩
        | i + 1 => simp at hq
    have hsz : nsize ⟨false, [K], [], [root, bh]⟩ ≤ 1024 := by
      rw [nsize_inner _ rfl]
      simp; omega
    have hroom' : 1 ≤ roomOf σ' := by have := hch.room; omega
    have hwt := write_tree ht10 h10 (by omega) (-1) [] (.inl ⟨rfl, rfl, hroom'⟩) ⟨false, [K], [], [root, bh]⟩ (some ⟨w8.heap.size, 0, none⟩) none (some ⟨w8.heap.size + 1, 0, none⟩) 1 0 2 _ _ hnode hb.shaped hsz
    unfold nodeV at hwt
    have HWT := Lib.hid hwt
    have l0 := one_cells hl8 0 _ rfl
    have l1 := one_cells hl8 1 _ rfl
    have l2 := one_cells hl8 2 _ rfl
    have hl8s := heap_lt hl8
    have hw10 := hW10
    rw [hW9] at hw10
    have HW10 := Lib.hid hw10
    have H10 := Lib.hid (And.intro h10 (And.intro ht10 (And.intro hl10 (And.intro hx8 (And.intro hb hsz)))))
    clear hl8 h8 hK8 ht8 hUw8 hF7w hch hlen hll ht1 ht2 he12 hp12 hlo hhi hW9 hW10 hx89 hx9 hs9 hx8 hk10 hc10 hl10 ht10 h10 hrng hsl hnode hb hsz hroom' hwt hw10 hwl
    go_wp2_with fail
    rw [← HW10.out]
    refine HWT.out.mono ?_
    rintro e w11 ⟨pg, σ2, C2, F2, rfl, h11, hpg, hch2, -, hF11, hU11⟩
    obtain ⟨h10, ht10, hl10, hx8, hb, hsz⟩ := H10.out
    have hl11 := hU11.heap hl10 (h10.not hl10 (by decide) (by decide) (by decide) (by decide) (by decide) (by decide))
    have ht11 : TrRow w11 t p root := hU11.heap ht10 (ht10.not h10)
    have z0 := one_cells hl11 0 _ rfl
    have i0 : w11.frozen? ⟨w3.heap.size, 0, none⟩ = false := frozen_heap hl11
    have q7 : w11.cell? ⟨t, 1, none⟩ = some (.int .i64 root) := by rw [cell_heap ht11]; rfl
    have f7 : w11.frozen? ⟨t, 1, none⟩ = false := frozen_heap ht11
    have H11 := Lib.hid (And.intro h11 (And.intro hpg (And.intro hch2 (And.intro hF11 (And.intro hU11 (And.intro hl11 ht11))))))
    clear h10 ht10 hl10 hx8 hb hsz h11 hpg hch2 hF11 hU11 hl11 ht11 l0 l1 l2
    go_wp2_with fail
    go_ret
    obtain ⟨h10, ht10, hl10, hx8, hb, hsz⟩ := H10.out
    obtain ⟨h11, hpg, hch2, hF11, hU11, hl11, ht11⟩ := H11.out
    obtain ⟨hl8, h8, hK8, ht8, hUw8⟩ := H8.out
    obtain ⟨hF7w, hch, hlen, hll, hwl⟩ := HE.out
    have hs8 := hUw8.size
    have hs10 := hx8.size
    obtain ⟨c1, c2⟩ := hch2.below (ps0 := ps') (by rw [List.nil_append]; exact hch.own)
    rw [List.nil_append] at c1
    have hUw11 : Upd F w w11 := (hUw8.andExt hx8).trans hU11 hF7w
    have hUs : Upd (fun i => i = w3.heap.size) w11 (w11.setCell ⟨w3.heap.size, 0, none⟩ (.int .i64 pg)) := (Upd.refl _ w11).setCell _ (.inl rfl)
    have hnL : ¬ F2 w3.heap.size := h11.not hl11 (by decide) (by decide) (by decide) (by decide) (by decide) (by decide)
    have hnb8 : ∀ b cs fr, b = w3.heap.size → w11.heap[b]? ≠ some (.cells cs 5 fr) := by rintro b cs fr rfl e; rw [hl11] at e; simp at e
    have h12 := h11.upd hUs (fun i hi e => hnL (e ▸ hi)) hnb8
    have ht12 : TrRow (w11.setCell ⟨w3.heap.size, 0, none⟩ (.int .i64 pg)) t p root := hUs.heap ht11 (fun e => hne e.symm)
    have hUw12 := hUw11.trans hUs (fun i e => .inr (by omega))
    generalize w11.setCell ⟨w3.heap.size, 0, none⟩ (.int .i64 pg) = w12 at *
    have hUt : Upd (fun i => i = t) w12 (w12.setCell ⟨t, 1, none⟩ (.int .i64 pg)) := (Upd.refl _ w12).setCell _ (.inl rfl)
    have hnt : ∀ b cs fr, b = t → w12.heap[b]? ≠ some (.cells cs 5 fr) := by rintro b cs fr rfl e; rw [show w12.heap[b]? = _ from ht12] at e; simp at e
    refine ⟨rfl, pg, H + 1, σ2, C2, F2, pg :: ps', ?_, (h12.upd hUt (fun i hi e => ht12.not h12 (e ▸ hi)) hnt).mono (by omega), ⟨_, ps', by simp, hpg, hsz, hb.keep c2, rfl⟩, Nat.le_refl _, hch.trans c1, fun i hi => (hF11 i hi).elim (hF7w i) (fun e => .inr (by omega)), (hUw12.mono (fun i _ e => .inl e)).trans hUt (fun i e => .inl (.inr e))⟩
    unfold TrRow
    rw [heap_setCell_same w12 t 1 _ _ _ ht12]
    rfl
end Go.Proofs.YtecfhfddgolpfaaGreat
