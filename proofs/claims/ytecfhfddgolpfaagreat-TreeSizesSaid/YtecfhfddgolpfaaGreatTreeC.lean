/- The tree's walks: lay. -/
import Derived.Test.YtecfhfddgolpfaaGreatTreeB
namespace Go.Proofs.YtecfhfddgolpfaaGreat
open Go.RowKit
variable {w w' : World} {F G : Nat → Prop} {p nf pool dn N t : Nat} {σ : List Int} {C : Int → Bytes} {h : Nat} {x : Nd} {es : List Ent} {ps : List Int}

/-- A node that lies on a page (it may be without keys). -/
def Pl (C : Int → Bytes) (h : Nat) (pg : Int) (x : Nd) (es : List Ent) (ps : List Int) : Prop :=
  C pg = page x ∧ nsize x ≤ 1024 ∧ ∃ ps0, Body (Tree C h) h x es ps0 ∧ ps = pg :: ps0
theorem Pl.tree {n : Int} (hp : Pl C h n x es ps) (hx : x.keys ≠ []) : Tree C (h + 1) n es ps := by
  obtain ⟨h1, h2, ps0, h3, h4⟩ := hp
  exact ⟨x, ps0, hx, h1, h2, h3, h4⟩
/-- What lay leaves: one page; or two, and the key between them. -/
def LaidR (C : Int → Bytes) (h : Nat) (x : Nd) (es : List Ent) (ps : List Int) (pg : Int) (K : Bytes) (bh : Int) : Prop :=
  (bh = -1 ∧ Pl C h pg x es ps) ∨ (0 ≤ bh ∧ bh ≤ 2147483647 ∧ 1 ≤ K.length ∧ K.length ≤ 240 ∧ ∃ es1 es2 ps1 ps2, Tree C (h + 1) pg es1 ps1 ∧ Tree C (h + 1) bh es2 ps2 ∧ es = es1 ++ es2 ∧ ps = ps1 ++ ps2 ∧ (∀ e ∈ es1, cmpB e.1 K < 0) ∧ (∀ e ∈ es2, 0 ≤ cmpB e.1 K))
theorem Body.keep {C C' : Int → Bytes} (hb : Body (Tree C h) h x es ps) (hC : ∀ m ∈ ps, C' m = C m) : Body (Tree C' h) h x es ps :=
  hb.imp (fun _ _ _ hq hk => hk.keep (fun m hm => hC m (hq m hm)))
theorem Bts.nil (w : World) : Bts w (.slice none 0 0) [] := Rd.nil w _
/-- The page of a node changes; the pages below it stay. -/
theorem Chg.below {σ σ' : List Int} {C C' : Int → Bytes} {qs qs' ps0 : List Int} (hc : Chg σ C qs σ' C' qs') (ho : Own2 σ (qs ++ ps0)) : Chg σ C (qs ++ ps0) σ' C' (qs' ++ ps0) ∧ ∀ m ∈ ps0, C' m = C m := by
  refine ⟨(hc.frame ho.right (fun m hm e => ho.apart m e hm)).perm List.perm_append_comm List.perm_append_comm, fun m hm => hc.keep m (ho.right.on m hm) (fun e => ho.apart m e hm)⟩
set_option maxRecDepth 100000 in
set_option maxHeartbeats 1000000 in
theorem lay_small {root : Int} (ht : TrRow w t p root) (h1 : Pgs w F p nf pool dn σ C N) (hN : N + 8 ≤ 1000000000) (old : Int) (qs : List Int) (ho : (old = -1 ∧ qs = [] ∧ 1 ≤ roomOf σ) ∨ (stOf σ old = 2 ∧ qs = [old]))
    (ak av ac : Option Addr) (ck cv cc : Nat) (kvs vvs : List Value) (hn : NodeAt w x ak ck av cv ac cc kvs vvs) (hb : Body (Tree C h) h x es ps) (hsz : nsize x ≤ 1024) (hown : Own2 σ (qs ++ ps)) :
    Calls Tryz.prog 52 #[.pointer (some ⟨t, 0, none⟩), nodeV x ak ck av cv ac cc, .int .i64 old] w fun e w' => ∃ (pg : Int) (σ' : List Int) (C' : Int → Bytes) (F' : Nat → Prop), e = .returned (.tuple #[.agg #[.int .i64 pg, .slice none 0 0, .int .i64 (-1)], .int .i64 0]) ∧ Pgs w' F' p nf pool dn σ' C' (N + 8) ∧
      Pl C' h pg x es (pg :: ps) ∧ Chg σ C (qs ++ ps) σ' C' (pg :: ps) ∧ (qs = [old] → pg = old) ∧ (∀ i, F' i → F i ∨ w.heap.size ≤ i) ∧ Upd F w w' := by
  have hx := hb.shaped
  have hsm := hx.small (by omega)
  unfold nodeV
  obtain ⟨W0, hW0⟩ : ∃ W0, W0 = w.alloc (.cells #[.bool x.leaf, .slice ak x.keys.length ck, .slice av x.vals.length cv, .slice ac x.kids.length cc] 144) := ⟨_, rfl⟩
  obtain ⟨W1, hW1⟩ : ∃ W1, W1 = W0.alloc (.cells #[.int .i64 0, .slice none 0 0, .int .i64 0] 140) := ⟨_, rfl⟩
  have hx0 : Ext w W0 := by rw [hW0]; exact (Upd.refl _ w).alloc _
  have hx01 : Ext W0 W1 := by rw [hW1]; exact (Upd.refl _ W0).alloc _
  have hs0 : W0.heap.size = w.heap.size + 1 := by rw [hW0]; simp
  have hs1 : W1.heap.size = w.heap.size + 2 := by rw [hW1]; simp [hs0]
  have hr0 : W1.heap[w.heap.size]? = some (.cells #[.bool x.leaf, .slice ak x.keys.length ck, .slice av x.vals.length cv, .slice ac x.kids.length cc] 144 (0, 0)) := hx01.heap (by rw [hW0]; exact heap_alloc_new w _) (fun f => f)
  have hl1 : W1.heap[w.heap.size + 1]? = some (.cells #[.int .i64 0, .slice none 0 0, .int .i64 0] 140 (0, 0)) := by rw [hW1, ← hs0]; exact heap_alloc_new W0 _
  have hx1 : Ext w W1 := hx0.trans hx01 (fun _ f => f.elim)
  have y0 := one_cells hr0 0 _ rfl
  have y1 := one_cells hr0 1 _ rfl
  have y2 := one_cells hr0 2 _ rfl
  have y3 := one_cells hr0 3 _ rfl
  have hsize := size_any x ak av ac ck cv cc kvs vvs W1 (hn.ext hx1) hsm (fun hl => (hx.leafv hl).1)
  unfold nodeV at hsize
  obtain ⟨sz, hz⟩ : ∃ sz, sz = nsize x := ⟨_, rfl⟩
  rw [← hz] at hsize
  have hsz2 : sz ≤ 1024 := by omega
  have HSI := Lib.hid hsize
  have HZ := Lib.hid hz
  have HT := Lib.hid ht
  have HH := Lib.hid h1
  have HNO := Lib.hid hn
  have HX1 := Lib.hid (And.intro hx1 (And.intro hs1 (And.intro hr0 hl1)))
  have HW := Lib.hid (And.intro hW0 hW1)
  have HO := Lib.hid ho
  have HB := Lib.hid hb
  have HXS := Lib.hid hx
  have HOWN := Lib.hid hown
  clear ht h1 hn hx0 hx01 hs0 hs1 hr0 hl1 hx1 hsize hz hW0 hW1 ho hb hx hown hsm
  go_enter Tryz.func52, Tryz.ntmps52
  have hw1 := HW.out.2
  rw [HW.out.1] at hw1
  have HW1 := Lib.hid hw1
  rw [hw1] at y0 y1 y2 y3
  clear hw1
  go_wp2_with fail
  rw [← HW1.out]
  refine HSI.out.mono ?_
  rintro e w2 ⟨rfl, hU2⟩
  obtain ⟨hx1, hs1, hr0, hl1⟩ := HX1.out
  have hx2 := hx1.trans hU2 (fun _ f => f.elim)
  have hr2 := hU2.heap hr0 (fun f => f)
  have hl2 := hU2.heap hl1 (fun f => f)
  have y0' := one_cells hr2 0 _ rfl
  have y1' := one_cells hr2 1 _ rfl
  have y2' := one_cells hr2 2 _ rfl
  have y3' := one_cells hr2 3 _ rfl
  have ht2 : TrRow w2 t p root := hx2.heap HT.out (fun f => f)
  have h2 := HH.out.ext hx2
  have hlF := h2.not hl2 (by decide) (by decide) (by decide) (by decide) (by decide) (by decide)
  have hwt := write_tree ht2 h2 hN old qs HO.out x ak av ac ck cv cc kvs vvs (HNO.out.ext hx2) HXS.out (by have := HZ.out; omega)
  unfold nodeV at hwt
  have HWT := Lib.hid hwt
  have H2 := Lib.hid (And.intro hx2 (And.intro hl2 (And.intro hlF (And.intro hs1 hU2.size))))
  clear hx1 hs1 hr0 hl1 hx2 hr2 hl2 ht2 h2 hlF hwt hU2 y0 y1 y2 y3
  go_wp2_with fail
  refine HWT.out.mono ?_
  rintro e w3 ⟨pg, σ', C', F', rfl, h3, hpg, hch, hold, hF3, hU3⟩
  obtain ⟨hx2, hl2, hlF, hs1, hs2⟩ := H2.out
  have hl3 := hU3.heap hl2 hlF
  have z0 := one_cells hl3 0 _ rfl
  have z1 := one_cells hl3 1 _ rfl
  have z2 := one_cells hl3 2 _ rfl
  have g0 : w3.frozen? ⟨w.heap.size + 1, 0, none⟩ = false := frozen_heap hl3
  have g1 : w3.frozen? ⟨w.heap.size + 1, 1, none⟩ = false := frozen_heap hl3
  have g2 : w3.frozen? ⟨w.heap.size + 1, 2, none⟩ = false := frozen_heap hl3
  have H3 := Lib.hid (And.intro h3 (And.intro hpg (And.intro hch (And.intro hold (And.intro hF3 (And.intro hU3 hl3))))))
  clear h3 hpg hch hold hF3 hU3 hl3 hx2 hl2 hlF hs1 hs2 y0' y1' y2' y3'
  go_wp2_with fail
  refine bodyPost_ret (v := .tuple #[.agg #[.int .i64 pg, .slice none 0 0, .int .i64 (-1)], .int .i64 0]) (by simp [results, Tryz.results52, go_sem, z0, z1, z2]) rfl ?_
  obtain ⟨h3, hpg, hch, hold, hF3, hU3, hl3⟩ := H3.out
  obtain ⟨hx2, hl2, hlF, hs1, hs2⟩ := H2.out
  have hUs := upd_set3 w3 (w.heap.size + 1) (.int .i64 pg) (.slice none 0 0) (.int .i64 (-1))
  obtain ⟨hch2, hkeep⟩ := hch.below HOWN.out
  refine ⟨pg, σ', C', F', rfl, h3.upd hUs (fun i hi e => ?_) (by rintro b cs fr rfl e; rw [hl3] at e; simp at e), ⟨hpg, by have := HZ.out; omega, ps, HB.out.keep hkeep, rfl⟩, hch2, hold, fun i hi => (hF3 i hi).imp id (fun e => by omega), ((hx2.ext).trans hU3 (fun i e => .inl e)).trans hUs (fun i e => .inr (by omega))⟩
  exact h3.not (i := i) (by rw [e]; exact hl3) (by decide) (by decide) (by decide) (by decide) (by decide) (by decide) hi
theorem lastK_of {x : Nd} (hx : Shaped x) (h1 : 1024 < nsize x) (h2 : nsize x ≤ capOf x) : 1 ≤ lastK x := (hx.fits h1 h2).1
theorem capOf_le (x : Nd) : capOf x ≤ 1527 := by unfold capOf; split <;> omega
set_option maxRecDepth 100000 in
set_option maxHeartbeats 2000000 in
theorem lay_split {root : Int} (ht : TrRow w t p root) (h1 : Pgs w F p nf pool dn σ C N) (hN : N + 16 ≤ 1000000000) (old : Int) (qs : List Int) (ho : (old = -1 ∧ qs = [] ∧ 1 ≤ roomOf σ) ∨ (stOf σ old = 2 ∧ qs = [old])) (hroom : 2 ≤ roomOf σ)
    (ak av ac : Option Addr) (ck cv cc : Nat) (kvs vvs : List Value) (hn : NodeAt w x ak ck av cv ac cc kvs vvs) (hb : Body (Tree C h) h x es ps) (hsz : 1024 < nsize x) (hcap : nsize x ≤ capOf x) (hown : Own2 σ (qs ++ ps)) :
    Calls Tryz.prog 52 #[.pointer (some ⟨t, 0, none⟩), nodeV x ak ck av cv ac cc, .int .i64 old] w fun e w' => ∃ (pg : Int) (kv : Value) (K : Bytes) (bh : Int) (σ' : List Int) (C' : Int → Bytes) (F' : Nat → Prop) (ps' : List Int), e = .returned (.tuple #[.agg #[.int .i64 pg, kv, .int .i64 bh], .int .i64 0]) ∧ Pgs w' F' p nf pool dn σ' C' (N + 16) ∧ Bts w' kv K ∧
      LaidR C' h x es ps' pg K bh ∧ Chg σ C (qs ++ ps) σ' C' ps' ∧ (qs = [old] → pg = old) ∧ ps'.length = ps.length + 2 ∧ (∀ i, F' i → F i ∨ w.heap.size ≤ i) ∧ Upd F w w' := by
  have hx := hb.shaped
  have hcap2 := capOf_le x
  have hsm := hx.small (by omega)
  have hl1 := lastK_of hx hsz hcap
  unfold nodeV
  obtain ⟨W0, hW0⟩ : ∃ W0, W0 = w.alloc (.cells #[.bool x.leaf, .slice ak x.keys.length ck, .slice av x.vals.length cv, .slice ac x.kids.length cc] 144) := ⟨_, rfl⟩
  obtain ⟨W1, hW1⟩ : ∃ W1, W1 = W0.alloc (.cells #[.int .i64 0, .slice none 0 0, .int .i64 0] 140) := ⟨_, rfl⟩
  have hx0 : Ext w W0 := by rw [hW0]; exact (Upd.refl _ w).alloc _
  have hx01 : Ext W0 W1 := by rw [hW1]; exact (Upd.refl _ W0).alloc _
  have hs0 : W0.heap.size = w.heap.size + 1 := by rw [hW0]; simp
  have hs1 : W1.heap.size = w.heap.size + 2 := by rw [hW1]; simp [hs0]
  have hr0 : W1.heap[w.heap.size]? = some (.cells #[.bool x.leaf, .slice ak x.keys.length ck, .slice av x.vals.length cv, .slice ac x.kids.length cc] 144 (0, 0)) := hx01.heap (by rw [hW0]; exact heap_alloc_new w _) (fun f => f)
  have hl01 : W1.heap[w.heap.size + 1]? = some (.cells #[.int .i64 0, .slice none 0 0, .int .i64 0] 140 (0, 0)) := by rw [hW1, ← hs0]; exact heap_alloc_new W0 _
  have hx1 : Ext w W1 := hx0.andExt hx01
  have y0 := one_cells hr0 0 _ rfl
  have y1 := one_cells hr0 1 _ rfl
  have y2 := one_cells hr0 2 _ rfl
  have y3 := one_cells hr0 3 _ rfl
  have hsize := size_any x ak av ac ck cv cc kvs vvs W1 (hn.ext hx1) hsm (fun hl => (hx.leafv hl).1)
  unfold nodeV at hsize
  obtain ⟨sz, hz⟩ : ∃ sz, sz = nsize x := ⟨_, rfl⟩
  rw [← hz] at hsize
  have hsz2 : 1024 < sz := by omega
  have hsz3 : sz ≤ 100000 := by omega
  have HSI := Lib.hid hsize
  have HZ := Lib.hid hz
  have HT := Lib.hid ht
  have HH := Lib.hid h1
  have HNO := Lib.hid hn
  have HX1 := Lib.hid (And.intro hx1 (And.intro hs1 (And.intro hr0 hl01)))
  have HW := Lib.hid (And.intro hW0 hW1)
  have HO := Lib.hid ho
  have HB := Lib.hid hb
  have HXS := Lib.hid (And.intro hx (And.intro hsm hl1))
  have HOWN := Lib.hid hown
  have HSZ := Lib.hid (And.intro hsz hcap)
  clear ht h1 hn hx0 hx01 hs0 hs1 hr0 hl01 hx1 hsize hz hW0 hW1 ho hb hx hown hsm hl1 hsz hcap hcap2
  go_enter Tryz.func52, Tryz.ntmps52
  have hw1 := HW.out.2
  rw [HW.out.1] at hw1
  have HW1 := Lib.hid hw1
  rw [hw1] at y0 y1 y2 y3
  clear hw1
  go_wp2_with fail
  rw [← HW1.out]
  refine HSI.out.mono ?_
  rintro e w2 ⟨rfl, hU2⟩
  obtain ⟨hx1, hs1, hr0, hl1⟩ := HX1.out
  have hx2 : Ext w w2 := hx1.andExt hU2
  have hr2 := hU2.heap hr0 (fun f => f)
  have hl2 := hU2.heap hl1 (fun f => f)
  have y0' := one_cells hr2 0 _ rfl
  have y1' := one_cells hr2 1 _ rfl
  have y2' := one_cells hr2 2 _ rfl
  have y3' := one_cells hr2 3 _ rfl
  have hsp := split_any x ak av ac ck cv cc kvs vvs w2 (HNO.out.ext hx2) HXS.out.2.1 HXS.out.1 HXS.out.2.2
  unfold nodeV at hsp
  have HSP := Lib.hid hsp
  have H2 := Lib.hid (And.intro hx2 (And.intro hl2 (And.intro hs1 hU2.size)))
  clear hx1 hs1 hr0 hl1 hx2 hr2 hl2 hsp hU2 y0 y1 y2 y3
  go_wp2_with fail
  refine HSP.out.mono ?_
  rintro e w3 ⟨k, hk1, hk2, hk3, sk, sv, sc, kvs1, vvs1, kv, sk', sv', sc', kvs2, vvs2, rfl, ha, hkv, hbn, hU3⟩
  obtain ⟨hx2, hl2, hs1, hs2⟩ := H2.out
  obtain ⟨a1, b1, a2, b2, a3, b3, rfl, rfl, rfl, hna⟩ := ha.node
  obtain ⟨d1, e1, d2, e2, d3, e3, rfl, rfl, rfl, hnb⟩ := hbn.node
  obtain ⟨kp, kc, hkve, -⟩ := hkv.open
  obtain ⟨kl, hkl⟩ : ∃ kl, kl = (x.keys.getD k []).length := ⟨_, rfl⟩
  rw [← hkl] at hkve
  subst hkve
  obtain ⟨n1, hn1⟩ : ∃ n1, n1 = (fstN x k).keys.length := ⟨_, rfl⟩
  obtain ⟨n2, hn2⟩ : ∃ n2, n2 = (fstN x k).vals.length := ⟨_, rfl⟩
  obtain ⟨n3, hn3⟩ : ∃ n3, n3 = (fstN x k).kids.length := ⟨_, rfl⟩
  obtain ⟨m1, hm1⟩ : ∃ m1, m1 = (sndN x k).keys.length := ⟨_, rfl⟩
  obtain ⟨m2, hm2⟩ : ∃ m2, m2 = (sndN x k).vals.length := ⟨_, rfl⟩
  obtain ⟨m3, hm3⟩ : ∃ m3, m3 = (sndN x k).kids.length := ⟨_, rfl⟩
  obtain ⟨W4, hW4⟩ : ∃ W4, W4 = w3.alloc (.cells #[.bool x.leaf, .slice a1 n1 b1, .slice a2 n2 b2, .slice a3 n3 b3] 144) := ⟨_, rfl⟩
  obtain ⟨W5, hW5⟩ : ∃ W5, W5 = W4.alloc (.cells #[.bool x.leaf, .slice d1 m1 e1, .slice d2 m2 e2, .slice d3 m3 e3] 144) := ⟨_, rfl⟩
  rw [← hn1, ← hn2, ← hn3, ← hm1, ← hm2, ← hm3]
  have hx34 : Ext w3 W4 := by rw [hW4]; exact (Upd.refl _ w3).alloc _
  have hx45 : Ext W4 W5 := by rw [hW5]; exact (Upd.refl _ W4).alloc _
  have hs4 : W4.heap.size = w3.heap.size + 1 := by rw [hW4]; simp
  have hx5 : Ext w W5 := ((hx2.andExt hU3).andExt hx34).andExt hx45
  have hA5 : W5.heap[w3.heap.size]? = some (.cells #[.bool x.leaf, .slice a1 n1 b1, .slice a2 n2 b2, .slice a3 n3 b3] 144 (0, 0)) := hx45.heap (by rw [hW4]; exact heap_alloc_new w3 _) (fun f => f)
  have hB5 : W5.heap[w3.heap.size + 1]? = some (.cells #[.bool x.leaf, .slice d1 m1 e1, .slice d2 m2 e2, .slice d3 m3 e3] 144 (0, 0)) := by rw [hW5, ← hs4]; exact heap_alloc_new W4 _
  have hl5 := hx45.heap (hx34.heap (hU3.heap hl2 (fun f => f)) (fun f => f)) (fun f => f)
  have u0 := one_cells hA5 0 _ rfl
  have u1 := one_cells hA5 1 _ rfl
  have u2 := one_cells hA5 2 _ rfl
  have u3 := one_cells hA5 3 _ rfl
  have ht5 : TrRow W5 t p root := hx5.heap HT.out (fun f => f)
  have h5 := HH.out.ext hx5
  obtain ⟨es1, es2, ps1, ps2, B1, B2, hes, hps, z1, z2, ke1, ke2, lo, hi, kl1, kl2⟩ := HB.out.split HSZ.out.1 HSZ.out.2 hk1 hk2 hk3
  have hwt := write_tree ht5 h5 (by omega) old qs HO.out (fstN x k) a1 a2 a3 b1 b2 b3 kvs1 vvs1 ((hna.ext hx34).ext hx45) B1.shaped z1
  unfold nodeV at hwt
  rw [fstN_leaf, ← hn1, ← hn2, ← hn3] at hwt
  have HWT := Lib.hid hwt
  have hbn5 := (hbn.ext hx34).ext hx45
  have H5 := Lib.hid (And.intro hx5 (And.intro hB5 (And.intro hl5 (And.intro ht5 (And.intro h5 (And.intro hbn5 ((hkv.ext hx34).ext hx45)))))))
  have HSPL := Lib.hid (And.intro B1 (And.intro B2 (And.intro hes (And.intro hps (And.intro z1 (And.intro z2 (And.intro ke1 (And.intro ke2 (And.intro lo (And.intro hi (And.intro kl1 kl2)))))))))))
  have HM := Lib.hid (And.intro hm1 (And.intro hm2 hm3))
  have HLT := Lib.hid (show w.heap.size + 1 < w3.heap.size by have := hU3.size; omega)
  have hw5 := hW5
  rw [hW4] at hw5
  have HW5 := Lib.hid hw5
  rw [hw5] at u0 u1 u2 u3
  clear hx2 hl2 hs1 hs2 ha hkv hbn hU3 hna hnb hkl hn1 hn2 hn3 hm1 hm2 hm3 hW4 hW5 hx34 hx45 hs4 hx5 hA5 hB5 hl5 ht5 h5 B1 B2 hes hps z1 z2 ke1 ke2 lo hi kl1 kl2 hwt hbn5 hw5 hk1 hk2 hk3 y0' y1' y2' y3'
  go_wp2_with fail
  rw [← HW5.out]
  refine HWT.out.mono ?_
  rintro e w6 ⟨pg, σ6, C6, F6, rfl, h6, hpg6, hch6, hold6, hF6, hU6⟩
  obtain ⟨hx5, hB5, hl5, ht5, h5, hbn5, hkv5⟩ := H5.out
  have hB6 := hU6.heap hB5 (h5.not hB5 (by decide) (by decide) (by decide) (by decide) (by decide) (by decide))
  have hl6 := hU6.heap hl5 (h5.not hl5 (by decide) (by decide) (by decide) (by decide) (by decide) (by decide))
  have ht6 : TrRow w6 t p root := hU6.heap ht5 (ht5.not h5)
  have nb5 : ∀ i, F i → i < w.heap.size := fun i hi => HH.out.lt hi
  have hbn6 := hbn5.upd hU6 (fun k hk e => by have := (hbn5.kb k hk).1; have := nb5 k e; have := H2.out.2.2.1; have := H2.out.2.2.2; omega) (fun k hk e => by have := hbn5.vb k hk; have := nb5 k e; have := H2.out.2.2.1; have := H2.out.2.2.2; omega) (fun k hk e => by have := hbn5.cb k hk; have := nb5 k e; have := H2.out.2.2.1; have := H2.out.2.2.2; omega) h5.notByte
  have hkv6 := hkv5.upd hU6 h5.notByte
  have v0 := one_cells hB6 0 _ rfl
  have v1 := one_cells hB6 1 _ rfl
  have v2 := one_cells hB6 2 _ rfl
  have v3 := one_cells hB6 3 _ rfl
  obtain ⟨B1, B2, hes, hps, z1, z2, ke1, ke2, lo, hi, kl1, kl2⟩ := HSPL.out
  obtain ⟨f1, g1, f2, g2, f3, g3, j1, j2, j3, hnb6⟩ := hbn6.node
  simp only [Value.slice.injEq] at j1 j2 j3
  obtain ⟨rfl, j1, rfl⟩ := j1
  obtain ⟨rfl, j2, rfl⟩ := j2
  obtain ⟨rfl, j3, rfl⟩ := j3
  have hroom6 : 1 ≤ roomOf σ6 := by have := hch6.room; simp at this; omega
  have hwt := write_tree ht6 h6 (by omega) (-1) [] (.inl ⟨rfl, rfl, hroom6⟩) (sndN x k) d1 d2 d3 e1 e2 e3 kvs2 vvs2 hnb6 B2.shaped z2
  unfold nodeV at hwt
  rw [sndN_leaf, ← HM.out.1, ← HM.out.2.1, ← HM.out.2.2] at hwt
  have HWT2 := Lib.hid hwt
  have H6 := Lib.hid (And.intro h6 (And.intro hpg6 (And.intro hch6 (And.intro hold6 (And.intro hF6 (And.intro hU6 (And.intro hl6 (And.intro hkv6 hx5))))))))
  clear hx5 hB5 hl5 ht5 h5 hbn5 hkv5 hB6 hl6 ht6 nb5 hbn6 hkv6 B1 B2 hes hps z1 z2 ke1 ke2 lo hi kl1 kl2 hnb6 hroom6 hwt h6 hpg6 hch6 hold6 hF6 hU6 j1 j2 j3 u0 u1 u2 u3
  go_wp2_with fail
  refine HWT2.out.mono ?_
  rintro e w7 ⟨bh, σ7, C7, F7, rfl, h7, hpg7, hch7, -, hF7, hU7⟩
  obtain ⟨h6, hpg6, hch6, hold6, hF6, hU6, hl6, hkv6, hx5⟩ := H6.out
  have hl7 := hU7.heap hl6 (h6.not hl6 (by decide) (by decide) (by decide) (by decide) (by decide) (by decide))
  have s0 := one_cells hl7 0 _ rfl
  have s1 := one_cells hl7 1 _ rfl
  have s2 := one_cells hl7 2 _ rfl
  have g0 : w7.frozen? ⟨w.heap.size + 1, 0, none⟩ = false := frozen_heap hl7
  have g1 : w7.frozen? ⟨w.heap.size + 1, 1, none⟩ = false := frozen_heap hl7
  have g2 : w7.frozen? ⟨w.heap.size + 1, 2, none⟩ = false := frozen_heap hl7
  have H7 := Lib.hid (And.intro h7 (And.intro hpg7 (And.intro hch7 (And.intro hF7 (And.intro hU7 (And.intro hl7 (hkv6.upd hU7 h6.notByte)))))))
  clear h6 hpg6 hch6 hold6 hF6 hU6 hl6 hkv6 hx5 hl7 h7 hpg7 hch7 hF7 hU7 v0 v1 v2 v3
  go_wp2_with fail
  refine bodyPost_ret (v := .tuple #[.agg #[.int .i64 pg, .slice kp kl kc, .int .i64 bh], .int .i64 0]) (by simp [results, Tryz.results52, go_sem, s0, s1, s2]) rfl ?_
  obtain ⟨h6, hpg6, hch6, hold6, hF6, hU6, hl6, hkv6, hx5⟩ := H6.out
  obtain ⟨h7, hpg7, hch7, hF7, hU7, hl7, hkv7⟩ := H7.out
  obtain ⟨B1, B2, hes, hps, z1, z2, ke1, ke2, lo, hi, kl1, kl2⟩ := HSPL.out
  have hUs := upd_set3 w7 (w.heap.size + 1) (.int .i64 pg) (.slice kp kl kc) (.int .i64 bh)
  have hnb : ∀ b cs fr, b = w.heap.size + 1 → w7.heap[b]? ≠ some (.cells cs 5 fr) := by rintro b cs fr rfl e; rw [hl7] at e; simp at e
  obtain ⟨c1, c2⟩ := hch6.below HOWN.out
  have c3 := hch7.frame c1.own (fun m _ e => by simp at e)
  rw [List.append_nil] at c3
  have c4 := c1.trans c3
  have hpm : (([pg] ++ ps) ++ [bh]).Perm ((pg :: ps1) ++ (bh :: ps2)) := by
    rw [hps]
    simp only [List.cons_append, List.nil_append, List.append_assoc]
    refine List.Perm.cons _ (List.Perm.append_left _ ?_)
    exact List.perm_append_comm
  have hk7 : ∀ m ∈ [pg] ++ ps, C7 m = C6 m := fun m hm => hch7.keep m (c1.on m hm) (by simp)
  have hkp : ∀ m ∈ ps, C7 m = C m := fun m hm => by rw [hk7 m (by simp [hm])]; exact c2 m hm
  have hr := stOf_range (σ := σ7) (k := bh) (by have := hch7.on bh (by simp); omega)
  have hsl := h7.slen
  refine ⟨pg, _, _, bh, σ7, C7, F7, (pg :: ps1) ++ (bh :: ps2), rfl, h7.upd hUs (fun i hi e => ?_) hnb, hkv7.upd hUs hnb, .inr ⟨hr.1, by omega, kl1, kl2, es1, es2, pg :: ps1, bh :: ps2, ⟨_, ps1, ke1, ?_, z1, B1.keep (fun m hm => hkp m (by rw [hps]; simp [hm])), rfl⟩, ⟨_, ps2, ke2, hpg7, z2, B2.keep (fun m hm => hkp m (by rw [hps]; simp [hm])), rfl⟩, hes, rfl, lo, hi⟩, c4.perm (List.Perm.refl _) hpm, hold6, ?_, fun i hi => ?_, ?_⟩
  · exact h7.not (i := i) (by rw [e]; exact hl7) (by decide) (by decide) (by decide) (by decide) (by decide) (by decide) hi
  · rw [hk7 pg (by simp)]; exact hpg6
  · rw [hps]; simp; omega
  · have := hx5.size
    have := hU6.size
    rcases hF7 i hi with e | e
    · exact (hF6 i e).imp id (fun e => by omega)
    · exact .inr (by omega)
  · have := hx5.size
    exact (((hx5.ext).trans hU6 (fun i e => .inl e)).trans hU7 (fun i e => (hF6 i e).imp id (fun e => by omega))).trans hUs (fun i e => .inr (by omega))
/-- lay, whichever way. -/
theorem lay_tree {root : Int} (ht : TrRow w t p root) (h1 : Pgs w F p nf pool dn σ C N) (hN : N + 16 ≤ 1000000000) (old : Int) (qs : List Int) (ho : (old = -1 ∧ qs = []) ∨ (stOf σ old = 2 ∧ qs = [old])) (hroom : 2 ≤ roomOf σ)
    (ak av ac : Option Addr) (ck cv cc : Nat) (kvs vvs : List Value) (hn : NodeAt w x ak ck av cv ac cc kvs vvs) (hb : Body (Tree C h) h x es ps) (hcap : nsize x ≤ capOf x) (hown : Own2 σ (qs ++ ps)) :
    Calls Tryz.prog 52 #[.pointer (some ⟨t, 0, none⟩), nodeV x ak ck av cv ac cc, .int .i64 old] w fun e w' => ∃ (pg : Int) (kv : Value) (K : Bytes) (bh : Int) (σ' : List Int) (C' : Int → Bytes) (F' : Nat → Prop) (ps' : List Int), e = .returned (.tuple #[.agg #[.int .i64 pg, kv, .int .i64 bh], .int .i64 0]) ∧ Pgs w' F' p nf pool dn σ' C' (N + 16) ∧ Bts w' kv K ∧
      LaidR C' h x es ps' pg K bh ∧ Chg σ C (qs ++ ps) σ' C' ps' ∧ (qs = [old] → pg = old) ∧ ps'.length ≤ ps.length + 2 ∧ (∀ i, F' i → F i ∨ w.heap.size ≤ i) ∧ Upd F w w' := by
  have ho' : (old = -1 ∧ qs = [] ∧ 1 ≤ roomOf σ) ∨ (stOf σ old = 2 ∧ qs = [old]) := ho.imp (fun e => ⟨e.1, e.2, by omega⟩) id
  by_cases hsz : nsize x ≤ 1024
  · refine (lay_small ht h1 (by omega) old qs ho' ak av ac ck cv cc kvs vvs hn hb hsz hown).mono ?_
    rintro e w' ⟨pg, σ', C', F', rfl, g1, g2, g3, g4, g5, g6⟩
    exact ⟨pg, _, [], -1, σ', C', F', pg :: ps, rfl, g1.mono (by omega), Bts.nil _, .inl ⟨rfl, g2⟩, g3, g4, by simp, g5, g6⟩
  · refine (lay_split ht h1 hN old qs ho' hroom ak av ac ck cv cc kvs vvs hn hb (by omega) hcap hown).mono ?_
    rintro e w' ⟨pg, kv, K, bh, σ', C', F', ps', he, g1, g2, g3, g4, g5, g6, g7⟩
    exact ⟨pg, kv, K, bh, σ', C', F', ps', he, g1, g2, g3, g4, g5, by omega, g7⟩
end Go.Proofs.YtecfhfddgolpfaaGreat
