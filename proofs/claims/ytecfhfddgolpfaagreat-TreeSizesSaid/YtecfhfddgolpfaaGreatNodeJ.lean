/- node.clone, node.own. -/
import Derived.Test.YtecfhfddgolpfaaGreatNodeH
namespace Go.Proofs.YtecfhfddgolpfaaGreat
open Go.RowKit

theorem nwNone {w : World} {v : Value} (h : Nw w (.slice none 0 0) v) {k : Nat} (hk : v.ownBlock = some k) : w.heap.size ≤ k := (h k hk).elim (fun e => by simp [Value.ownBlock] at e) id

set_option maxRecDepth 100000 in
set_option maxHeartbeats 1000000 in
theorem clone_any (s : Value) (vs : List Value) (ks : List Bytes) (w : World) (hs : Rd w 23 s vs) (hL : BtsL w vs ks) (hn : ks.length ≤ 4000) (hl : ∀ k ∈ ks, k.length ≤ 4000) :
    Calls Tryz.prog 127 #[s] w fun e w' => ∃ v vs', e = .returned v ∧ Own w' 23 v vs' ∧ BtsL w' vs' ks ∧ Nw w (.slice none 0 0) v ∧ Ext w w' := by
  obtain ⟨a, cap, rfl, hc1, hc2, hc3, hr⟩ := hs
  rw [show vs.length = ks.length from hL.1]
  rw [show vs.length = ks.length from hL.1] at hc1
  have HH := Lib.hid hr
  have HL := Lib.hid hL
  have HE := Lib.hid hl
  clear hr hL hl
  go_enter Tryz.func127, Tryz.ntmps127
  go_wp2_with fail
  go_loopw [3, 8] (fun t i wr => ∃ (k : Nat) (vs' : List Value), k ≤ ks.length ∧ i = .int .i64 k ∧ Own wr 23 t vs' ∧ BtsL wr vs' (ks.take k) ∧ Nw w (.slice none 0 0) t ∧ Ext w wr) (fun _ i _ => ks.length - (intOf i).toNat)
  case atStart => exact ⟨0, [], Nat.zero_le _, rfl, Own.nil _ _, ⟨rfl, fun j v k a => by simp at a⟩, Nw.refl _ _, Upd.refl _ _⟩
  case round =>
    obtain ⟨k, vs', hk, rfl, ho, hbl, hnw, hU⟩ := hrel
    by_cases hlt : k < ks.length
    · obtain ⟨v1, h1, hb1⟩ := HL.out.get hlt
      obtain ⟨b, o, rfl, hcell1, hbs⟩ := (HH.out.ext hU).cellv h1
      have hiI : (k : Int) < (ks.length : Int) := by omega
      have hkl := HE.out ks[k] (List.getElem_mem _)
      have hsn : ks.take (k + 1) = ks.take k ++ [ks[k]] := by rw [List.take_succ_eq_append_getElem hlt]
      obtain ⟨K, hK⟩ : ∃ K, K = ks[k] := ⟨_, rfl⟩
      rw [← hK] at hb1 hkl hsn
      have hcl := cloneb_any v1 K wr (hb1.ext hU) (by omega)
      have hvl' : vs'.length = k := by rw [hbl.1]; simp; omega
      have HC := Lib.hid hcl
      have HS := Lib.hid hsn
      have HO := Lib.hid ho
      have HB := Lib.hid hbl
      have HN := Lib.hid hnw
      have HU := Lib.hid hU
      clear hcl hsn ho hbl hnw hU hK hb1 h1
      go_wp2_with fail
      refine HC.out.mono ?_
      rintro e w2 ⟨c, rfl, hc, hcw, hU2⟩
      have hcb : Bts w2 c K := own_rd hc
      have hcb' := hcb
      obtain ⟨pc, cc, rfl, -⟩ := hcb'.open
      have ha5 : Rd (w2.alloc (.cells #[.slice pc K.length cc] 23)) 23 (.slice (some ⟨w2.heap.size, 0, none⟩) 1 1) [.slice pc K.length cc] := Rd.one _ _ _
      have hu5 : Ext w2 (w2.alloc (.cells #[.slice pc K.length cc] 23)) := (Upd.refl (fun _ => False) w2).alloc _
      have ho5 : Own (w2.alloc (.cells #[.slice pc K.length cc] 23)) 23 u3 vs' := own_ext (own_ext HO.out hU2 (fun _ _ f => f)) hu5 (fun _ _ f => f)
      have hone : ∀ y ∈ [Value.slice pc K.length cc], y.oneCell' = true := by simp [Value.oneCell']
      have hcb5 := hcb.ext hu5
      have hbl5 := (HB.out.ext hU2).ext hu5
      have HA5 := Lib.hid ha5
      have HO5 := Lib.hid ho5
      have HONE := Lib.hid hone
      have HU2 := Lib.hid hU2
      have HU5 := Lib.hid hu5
      have HCB := Lib.hid hcb5
      have HBL := Lib.hid hbl5
      clear hc hcw hcb hcb' ha5 ho5 hone hU2 hu5 hcb5 hbl5
      go_wp2_with (at_builtin; refine wpList_app rfl _ _ 100 rfl 23 _ _ (by kernel_rfl) info_bs rfl _ vs' rfl HO5.out _ [.slice pc K.length cc] rfl HA5.out HONE.out (by simp; omega) (by decide) ?_)
      intro sk' w5 ho hnw hU
      have hnb := own_notByte HO5.out (by decide)
      have hlt2 := HU2.out.size
      have hlt3 := HU.out.size
      have hfin : Own w5 23 sk' (vs' ++ [.slice pc K.length cc]) ∧ BtsL w5 (vs' ++ [.slice pc K.length cc]) (ks.take (k + 1)) ∧ Nw w (.slice none 0 0) sk' ∧ Ext w w5 := by
        refine ⟨ho, ?_, ?_, ?_⟩
        · rw [HS.out]; exact BtsL.snoc (HBL.out.upd hU hnb) (HCB.out.upd hU hnb)
        · intro j hj
          refine .inr ?_
          rcases hnw j hj with e | e
          · exact nwNone HN.out e
          · simp at e; omega
        · exact ((HU.out.trans HU2.out (fun _ f => f.elim)).trans HU5.out (fun _ f => f.elim)).trans hU (fun i hi => .inr (nwNone HN.out hi))
      have HF := Lib.hid hfin
      clear ho hnw hU hnb hfin
      go_wp2_with fail
      go_roundw
      case rel => exact ⟨k + 1, _, by omega, by go_num, HF.out.1, HF.out.2.1, HF.out.2.2.1, HF.out.2.2.2⟩
      case measure => simp [intOf]; omega
    · obtain rfl : k = ks.length := by omega
      rw [List.take_length] at hbl
      have hfin := And.intro ho (And.intro hbl (And.intro hnw hU))
      have HF := Lib.hid hfin
      clear ho hbl hnw hU hfin
      go_wp2
      go_ret
      exact ⟨_, _, rfl, HF.out.1, HF.out.2.1, HF.out.2.2.1, HF.out.2.2.2⟩

theorem Small.kl {x : Nd} (h : Small x) : ∀ k ∈ x.keys, k.length ≤ 4000 := fun k hk => by
  obtain ⟨i, hi, rfl⟩ := List.getElem_of_mem hk
  have := h.k i
  simpa [hi] using this
theorem Small.vl {x : Nd} (h : Small x) : ∀ k ∈ x.vals, k.length ≤ 4000 := fun k hk => by
  obtain ⟨i, hi, rfl⟩ := List.getElem_of_mem hk
  have := h.v i
  simpa [hi] using this

set_option maxRecDepth 100000 in
set_option maxHeartbeats 2000000 in
theorem own_any (x : Nd) (ak av ac : Option Addr) (ck cv cc : Nat) (kvs vvs : List Value) (w : World) (h : NodeAt w x ak ck av cv ac cc kvs vvs) (hs : Small x) :
    Calls Tryz.prog 105 #[nodeV x ak ck av cv ac cc] w fun e w' => ∃ sk sv sc kvs' vvs', e = .returned (.agg #[.bool x.leaf, sk, sv, sc]) ∧ NOwn w' w.heap.size sk sv sc kvs' vvs' x ∧ Ext w w' := by
  unfold nodeV
  obtain ⟨W0, hW0⟩ : ∃ W0, W0 = w.alloc (.cells #[.bool x.leaf, .slice ak x.keys.length ck, .slice av x.vals.length cv, .slice ac x.kids.length cc] 144) := ⟨_, rfl⟩
  obtain ⟨W1, hW1⟩ : ∃ W1, W1 = W0.alloc (.cells #[.bool false, .slice none 0 0, .slice none 0 0, .slice none 0 0] 144) := ⟨_, rfl⟩
  have hU0 : Ext w W0 := by rw [hW0]; exact (Upd.refl _ w).alloc _
  have hU01 : Ext W0 W1 := by rw [hW1]; exact (Upd.refl _ W0).alloc _
  have hsz : W0.heap.size = w.heap.size + 1 := by rw [hW0]; simp
  have hsz1 : W1.heap.size = w.heap.size + 2 := by rw [hW1]; simp; omega
  have c0' : W0.cell? ⟨w.heap.size, 0, none⟩ = some (.bool x.leaf) := by rw [hW0, World.cell?_alloc_new]; rfl
  have c1' : W0.cell? ⟨w.heap.size, 1, none⟩ = some (.slice ak x.keys.length ck) := by rw [hW0, World.cell?_alloc_new]; rfl
  have c2' : W0.cell? ⟨w.heap.size, 2, none⟩ = some (.slice av x.vals.length cv) := by rw [hW0, World.cell?_alloc_new]; rfl
  have c3' : W0.cell? ⟨w.heap.size, 3, none⟩ = some (.slice ac x.kids.length cc) := by rw [hW0, World.cell?_alloc_new]; rfl
  have hR : W1.heap[w.heap.size + 1]? = some (.cells #[.bool false, .slice none 0 0, .slice none 0 0, .slice none 0 0] 144 (0, 0)) := by
    rw [hW1, ← hsz]; exact heap_alloc_new W0 _
  have hUD : Ext w W1.drew := (hU0.trans hU01 (fun _ f => f.elim)).drew
  have c0 : W1.drew.cell? ⟨w.heap.size, 0, none⟩ = some (.bool x.leaf) := (hU01.drew).cell c0' (fun h => h)
  have c1 : W1.drew.cell? ⟨w.heap.size, 1, none⟩ = some (.slice ak x.keys.length ck) := (hU01.drew).cell c1' (fun h => h)
  have c2 : W1.drew.cell? ⟨w.heap.size, 2, none⟩ = some (.slice av x.vals.length cv) := (hU01.drew).cell c2' (fun h => h)
  have c3 : W1.drew.cell? ⟨w.heap.size, 3, none⟩ = some (.slice ac x.kids.length cc) := (hU01.drew).cell c3' (fun h => h)
  have hRd : W1.drew.heap[w.heap.size + 1]? = some (.cells #[.bool false, .slice none 0 0, .slice none 0 0, .slice none 0 0] 144 (0, 0)) := hR
  have hn := hs.n
  have q1 : ∀ wz, Ext W1.drew wz → Calls Tryz.prog 127 #[.slice ak x.keys.length ck] wz fun e w' => ∃ v vs', e = .returned v ∧ Own w' 23 v vs' ∧ BtsL w' vs' x.keys ∧ Nw wz (.slice none 0 0) v ∧ Ext wz w' := fun wz hz => by
    have hz' := hUD.trans hz (fun _ f => f.elim)
    exact clone_any _ kvs x.keys wz ⟨ak, ck, by rw [h.kl.1], by rw [h.kl.1]; exact h.kcap, h.km, h.kn, h.k.ext hz'⟩ (h.kl.ext hz') hn hs.kl
  have q2 : ∀ wz, Ext W1.drew wz → Calls Tryz.prog 127 #[.slice av x.vals.length cv] wz fun e w' => ∃ v vs', e = .returned v ∧ Own w' 23 v vs' ∧ BtsL w' vs' x.vals ∧ Nw wz (.slice none 0 0) v ∧ Ext wz w' := fun wz hz => by
    have hz' := hUD.trans hz (fun _ f => f.elim)
    exact clone_any _ vvs x.vals wz ⟨av, cv, by rw [h.vl.1], by rw [h.vl.1]; exact h.vcap, h.vm, h.vn, h.v.ext hz'⟩ (h.vl.ext hz') hs.vn hs.vl
  have q3 : ∀ wz, Ext W1.drew wz → Calls Tryz.prog 128 #[.slice ac x.kids.length cc] wz fun e w' => ∃ v, e = .returned v ∧ Own w' 3 v (intv x.kids) ∧ Nw wz (.slice none 0 0) v ∧ Ext wz w' := fun wz hz => by
    have hz' := hUD.trans hz (fun _ f => f.elim)
    exact cloneI_any _ (intv x.kids) wz ⟨ac, cc, by simp, by simpa using h.ccap, h.cm, h.cn, h.c.ext hz'⟩ (intv_one _) (by simp; have := hs.cn; omega)
  have Q1 := Lib.hid q1
  have Q2 := Lib.hid q2
  have Q3 := Lib.hid q3
  have HUD := Lib.hid hUD
  have HR := Lib.hid hRd
  have HW0 := Lib.hid hW0
  have HW1 := Lib.hid hW1
  have HSZ := Lib.hid hsz
  have hlt : w.heap.size < W1.heap.size := by omega
  have HSZ1 := Lib.hid hsz1
  clear q1 q2 q3 hU0 hU01 c0' c1' c2' c3' hR hRd hUD hsz hsz1 hW0 hW1 h hs
  go_enter Tryz.func105, Tryz.ntmps105
  go_wp2_with fail
  rw [← HW0.out, ← HW1.out]
  have hnr : w.heap.size ≠ w.heap.size + 1 := by omega
  have hnr2 : w.heap.size + 1 ≠ w.heap.size := by omega
  go_region_held3 (fun w' => w'.cell? ⟨w.heap.size, 0, none⟩ = some (.bool x.leaf) ∧ w'.cell? ⟨w.heap.size, 1, none⟩ = some (.slice ak x.keys.length ck) ∧ w'.cell? ⟨w.heap.size, 2, none⟩ = some (.slice av x.vals.length cv) ∧ w'.cell? ⟨w.heap.size, 3, none⟩ = some (.slice ac x.kids.length cc))
    (first
      | assumption
      | go_keep)
    (first
      | (go_at_call 127
         refine (Q2.out _ HA.out.2.2.2).mono ?_
         rintro e wb ⟨vb, vsb, rfl, hob, hbb, hnb, hUb⟩
         obtain ⟨pb, cb, rfl, -⟩ := own_slice hob
         have hSb := And.intro (hUb.cell hSa.1 (fun h => h)) (And.intro (hUb.cell hSa.2.1 (fun h => h)) (And.intro (hUb.cell hSa.2.2.1 (fun h => h)) (hUb.cell hSa.2.2.2 (fun h => h))))
         have HB := Lib.hid (And.intro hob (And.intro hbb (And.intro hnb hUb)))
         clear hob hbb hnb hUb)
      | (go_at_call 127
         refine (Q1.out _ (Upd.refl _ _)).mono ?_
         rintro e wa ⟨va, vsa, rfl, hoa, hba, hna, hUa⟩
         obtain ⟨pa, ca, rfl, -⟩ := own_slice hoa
         have hSa := And.intro (hUa.cell c0 (fun h => h)) (And.intro (hUa.cell c1 (fun h => h)) (And.intro (hUa.cell c2 (fun h => h)) (hUa.cell c3 (fun h => h))))
         have HA := Lib.hid (And.intro hoa (And.intro hba (And.intro hna hUa)))
         clear hoa hba hna hUa)
      | (go_at_call 128
         refine (Q3.out _ (HA.out.2.2.2.trans HB.out.2.2.2 (fun _ f => f.elim))).mono ?_
         rintro e wc ⟨vc, rfl, hoc, hnc, hUc⟩
         obtain ⟨pc', cc', he, -⟩ := own_slice hoc
         rw [intv_length] at he
         subst he
         have hSc := And.intro (hUc.cell hSb.1 (fun h => h)) (And.intro (hUc.cell hSb.2.1 (fun h => h)) (And.intro (hUc.cell hSb.2.2.1 (fun h => h)) (hUc.cell hSb.2.2.2 (fun h => h))))
         have hrh := ((HA.out.2.2.2.trans HB.out.2.2.2 (fun _ f => f.elim)).trans hUc (fun _ f => f.elim)).heap HR.out (fun f => f)
         have z0 := one_cells hrh 0 _ rfl
         have z1 := one_cells hrh 1 _ rfl
         have z2 := one_cells hrh 2 _ rfl
         have z3 := one_cells hrh 3 _ rfl
         have zf0 : wc.frozen? ⟨w.heap.size + 1, 0, none⟩ = false := frozen_heap hrh
         have zf1 : wc.frozen? ⟨w.heap.size + 1, 1, none⟩ = false := frozen_heap hrh
         have zf2 : wc.frozen? ⟨w.heap.size + 1, 2, none⟩ = false := frozen_heap hrh
         have zf3 : wc.frozen? ⟨w.heap.size + 1, 3, none⟩ = false := frozen_heap hrh
         have hnbc : ∀ b cs fr, b = w.heap.size + 1 → wc.heap[b]? ≠ some (.cells cs 5 fr) := by rintro b cs fr rfl e; rw [hrh] at e; simp at e
         have HC := Lib.hid (And.intro hoc (And.intro hnc (And.intro hUc hnbc)))
         clear hoc hnc hUc hrh hnbc hSa hSb c0 c1 c2 c3))
  clear hSc zf0 zf1 zf2 zf3
  go_wp2_with fail
  refine bodyPost_ret (v := .agg #[.bool x.leaf, .slice pa vsa.length ca, .slice pb vsb.length cb, .slice pc' x.kids.length cc']) (by simp [results, Tryz.results105, go_sem, z0, z1, z2, z3]) rfl ?_
  obtain ⟨hoa, hba, hna, hUa⟩ := HA.out
  obtain ⟨hob, hbb, hnb, hUb⟩ := HB.out
  obtain ⟨hoc, hnc, hUc, hnbc⟩ := HC.out
  have hs1 := HSZ1.out
  have hsa := hUa.size
  have hsb := hUb.size
  simp only [World.drew] at hsa
  have hUs := upd_set4 wc (w.heap.size + 1) (.bool x.leaf) (.slice pa vsa.length ca) (.slice pb vsb.length cb) (.slice pc' x.kids.length cc')
  have ka : ∀ k, (Value.slice pa vsa.length ca).ownBlock = some k → W1.heap.size ≤ k := fun k hk => nwNone hna hk
  have kb : ∀ k, (Value.slice pb vsb.length cb).ownBlock = some k → wa.heap.size ≤ k := fun k hk => nwNone hnb hk
  have kc : ∀ k, (Value.slice pc' x.kids.length cc').ownBlock = some k → wb.heap.size ≤ k := fun k hk => nwNone hnc hk
  have kal : ∀ k, (Value.slice pa vsa.length ca).ownBlock = some k → k < wa.heap.size := fun k hk => own_lt hoa hk
  have hsv : ∀ {w : World}, w.drew.heap.size = w.heap.size := rfl
  refine ⟨_, _, _, vsa, vsb, rfl, ⟨own_ext ((own_ext (own_ext hoa hUb (fun _ _ f => f)) hUc (fun _ _ f => f))) hUs (fun k hk e => by have := ka k hk; omega), ((hba.ext hUb).ext hUc).upd hUs hnbc,
    own_ext (own_ext hob hUc (fun _ _ f => f)) hUs (fun k hk e => by have := kb k hk; omega), (hbb.ext hUc).upd hUs hnbc,
    own_ext hoc hUs (fun k hk e => by have := kc k hk; omega), fun k hk => ⟨by have := ka k hk; omega, fun e => by have := kb k e; have := kal k hk; omega⟩, fun k hk => by have := kb k hk; omega, fun k hk => by have := kc k hk; omega⟩, ?_⟩
  exact ((((HUD.out.trans hUa (fun _ f => f.elim)).trans hUb (fun _ f => f.elim)).trans hUc (fun _ f => f.elim))).trans hUs (fun i hi => .inr (by omega))
end Go.Proofs.YtecfhfddgolpfaaGreat
