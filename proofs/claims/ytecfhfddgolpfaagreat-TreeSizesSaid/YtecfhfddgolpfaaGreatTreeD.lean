/- The tree's walks: put into a leaf. -/
import Derived.Test.YtecfhfddgolpfaaGreatTreeC
namespace Go.Proofs.YtecfhfddgolpfaaGreat
open Go.RowKit
variable {w w' : World} {F G : Nat → Prop} {p nf pool dn N t : Nat} {σ : List Int} {C : Int → Bytes} {h : Nat} {x : Nd} {es : List Ent} {ps : List Int}

/-- What put leaves: one tree; or two, and the key between them. -/
def LaidT (C : Int → Bytes) (h : Nat) (es : List Ent) (ps : List Int) (pg : Int) (K : Bytes) (bh : Int) : Prop :=
  (bh = -1 ∧ Tree C h pg es ps) ∨ (0 ≤ bh ∧ bh ≤ 2147483647 ∧ 1 ≤ K.length ∧ K.length ≤ 240 ∧ ∃ es1 es2 ps1 ps2, Tree C h pg es1 ps1 ∧ Tree C h bh es2 ps2 ∧ es = es1 ++ es2 ∧ ps = ps1 ++ ps2 ∧ (∀ e ∈ es1, cmpB e.1 K < 0) ∧ (∀ e ∈ es2, 0 ≤ cmpB e.1 K))
theorem LaidR.tree {pg bh : Int} {K : Bytes} (hl : LaidR C h x es ps pg K bh) (hx : x.keys ≠ []) : LaidT C (h + 1) es ps pg K bh := by
  rcases hl with ⟨a, b⟩ | b
  · exact .inl ⟨a, b.tree hx⟩
  · exact .inr b
/-- The end of put's contracts. -/
abbrev PutPost (w : World) (F : Nat → Prop) (p nf pool dn : Nat) (σ : List Int) (C : Int → Bytes) (N h : Nat) (n : Int) (es : List Ent) (ps : List Int) (m : Nat) (e : Ending) (w' : World) : Prop :=
  ∃ (kv : Value) (K : Bytes) (bh : Int) (σ' : List Int) (C' : Int → Bytes) (F' : Nat → Prop) (ps' : List Int), e = .returned (.tuple #[.agg #[.int .i64 n, kv, .int .i64 bh], .int .i64 0]) ∧ Pgs w' F' p nf pool dn σ' C' N ∧ Bts w' kv K ∧
      LaidT C' h es ps' n K bh ∧ Chg σ C ps σ' C' ps' ∧ ps'.length ≤ ps.length + m ∧ (∀ i, F' i → F i ∨ w.heap.size ≤ i) ∧ Upd F w w'
theorem BtsL.ins {vs : List Value} {ks : List Bytes} {kv : Value} {key : Bytes} (hL : BtsL w vs ks) (hk : Bts w kv key) (k : Nat) (hkl : k ≤ ks.length) : BtsL w (vs.take k ++ kv :: vs.drop k) (ks.take k ++ key :: ks.drop k) := by
  have hl := hL.1
  refine ⟨by rw [ins_length _ _ _ (by omega), ins_length _ _ _ hkl]; omega, fun j u b h1 h2 => ?_⟩
  have e1 : (vs.take k).length = k := by simp; omega
  have e2 : (ks.take k).length = k := by simp; omega
  rw [mid_get, e1] at h1
  rw [mid_get, e2] at h2
  rcases Nat.lt_trichotomy j k with hj | hj | hj
  · rw [if_pos hj, List.getElem?_take, if_pos hj] at h1 h2
    exact hL.2 j u b h1 h2
  · subst hj
    rw [if_neg (by omega), if_pos rfl] at h1 h2
    cases h1; cases h2; exact hk
  · rw [if_neg (by omega), if_neg (by omega), List.getElem?_drop] at h1 h2
    exact hL.2 _ u b h1 h2
theorem NAp.upd {B : Nat} {sk sv sc : Value} {kvs vvs : List Value} (ha : NAp w B F sk sv sc kvs vvs x) (hU : Upd G w w') (h1 : ∀ k, sk.ownBlock = some k → ¬ G k) (h2 : ∀ k, sv.ownBlock = some k → ¬ G k) (h3 : ∀ k, sc.ownBlock = some k → ¬ G k)
    (hG : ∀ b cs fr, G b → w.heap[b]? ≠ some (.cells cs 5 fr)) : NAp w' B F sk sv sc kvs vvs x := ⟨ha.own.upd hU h1 h2 h3 hG, ha.fk, ha.fv, ha.fc⟩
theorem NAp.ext {B : Nat} {sk sv sc : Value} {kvs vvs : List Value} (ha : NAp w B F sk sv sc kvs vvs x) (hU : Ext w w') : NAp w' B F sk sv sc kvs vvs x := ⟨ha.own.ext hU, ha.fk, ha.fv, ha.fc⟩
/-- One value is set. -/
theorem NAp.setVal {B g m cv : Nat} {sk sc : Value} {kvs vvs : List Value} (ha : NAp w B F sk (.slice (some ⟨g, 0, none⟩) m cv) sc kvs vvs x) (k : Nat) (vv : Value) (v : Bytes) (hv : Bts w vv v) :
    NAp (w.setCell ⟨g, k, none⟩ vv) B F sk (.slice (some ⟨g, 0, none⟩) m cv) sc kvs (vvs.set k vv) { x with vals := x.vals.set k v } ∧ Upd (fun i => i = g) w (w.setCell ⟨g, k, none⟩ vv) := by
  have hU : Upd (fun i => i = g) w (w.setCell ⟨g, k, none⟩ vv) := (Upd.refl _ w).setCell _ (.inl rfl)
  have ho := ha.own
  obtain ⟨cur, hg⟩ := ownN_type ho.v (k := g) rfl
  have hnb : ∀ b cs fr, b = g → w.heap[b]? ≠ some (.cells cs 5 fr) := by rintro b cs fr rfl e; rw [hg] at e; simp at e
  have hm : m = vvs.length := by
    rcases ho.v.2 with ⟨e, -⟩ | ⟨g', cap', cur, e, -⟩
    · simp at e
    · simp at e; exact e.2.1
  have hvo := ho.v
  unfold Own at hvo
  rw [hm] at hvo
  have hst := (hvo.stored k vv).1
  refine ⟨⟨⟨own_ext ho.k hU (fun j hj e => (ho.kb j hj).2 (by rw [e]; rfl)), ⟨ho.kl.1, fun j u b h1 h2 => (ho.kl.2 j u b h1 h2).upd hU hnb⟩, ?_, ⟨by rw [List.length_set, List.length_set]; exact ho.vl.1, fun j u b h1 h2 => ?_⟩, own_ext ho.c hU (fun j hj e => ?_), ho.kb, ho.vb, ho.cb⟩, ha.fk, ha.fv, ha.fc⟩, hU⟩
  · unfold Own
    rw [List.length_set, hm]; exact hst
  · simp only at h2
    rw [List.getElem?_set] at h1 h2
    by_cases hj : k = j
    · rw [if_pos hj] at h1 h2
      split at h1
      · split at h2
        · cases h1; cases h2; exact hv.upd hU hnb
        · simp at h2
      · simp at h1
    · rw [if_neg hj] at h1 h2
      exact (ho.vl.2 j u b h1 h2).upd hU hnb
  · obtain ⟨cur2, hc⟩ := ownN_type ho.c hj
    rw [e, hg] at hc; simp at hc
theorem put_end {w4 : World} {F4 : Nat → Prop} {σ' : List Int} {C' : Int → Bytes} {N4 N' h' m : Nat} {n bh : Int} {kv a b c : Value} {K : Bytes} {ps' : List Int} (hU : Upd F w w4) (hP : Pgs w4 F4 p nf pool dn σ' C' N4) (hN : N4 ≤ N') (hK : Bts w4 kv K) (hL : LaidT C' h' es ps' n K bh) (hch : Chg σ C ps σ' C' ps') (hlen : ps'.length ≤ ps.length + m)
    (hF : ∀ i, F4 i → F i ∨ w.heap.size ≤ i) (hres : w4.heap[w.heap.size]? = some (.cells #[a, b, c] 140 (0, 0))) :
    PutPost w F p nf pool dn σ C N' h' n es ps m (.returned (.tuple #[.agg #[.int .i64 n, kv, .int .i64 bh], .int .i64 0])) (((w4.setCell ⟨w.heap.size, 0, none⟩ (.int .i64 n)).setCell ⟨w.heap.size, 1, none⟩ kv).setCell ⟨w.heap.size, 2, none⟩ (.int .i64 bh)) := by
  have hUs := upd_set3 w4 w.heap.size (.int .i64 n) kv (.int .i64 bh)
  have hnb : ∀ b cs fr, b = w.heap.size → w4.heap[b]? ≠ some (.cells cs 5 fr) := by rintro b cs fr rfl e; rw [hres] at e; simp at e
  refine ⟨kv, K, bh, σ', C', F4, ps', rfl, (hP.upd hUs (fun i hi e => ?_) hnb).mono hN, hK.upd hUs hnb, hL, hch, hlen, hF, hU.trans hUs (fun i e => .inr (by omega))⟩
  exact hP.not (i := i) (by rw [e]; exact hres) (by decide) (by decide) (by decide) (by decide) (by decide) (by decide) hi
set_option maxRecDepth 100000 in
set_option maxHeartbeats 2000000 in
theorem put_leaf_hit {root : Int} (ht : TrRow w t p root) (h1 : Pgs w F p nf pool dn σ C N) (hN : N + 30 ≤ 1000000000) (n : Int) (hn : stOf σ n = 2) (hroom : 2 ≤ roomOf σ) (hC : C n = page x) (hsz : nsize x ≤ 1024) (hb : Body (Tree C 0) 0 x es []) (hl : x.leaf = true) (hk0 : x.keys ≠ [])
    (deep : Int) (hd : deep ≤ 20) (kv vv : Value) (key v : Bytes) (hkey : Bts w kv key) (hval : Bts w vv v) (hv : v.length ≤ 260) (hf : ∃ h : fk x.keys key < x.keys.length, x.keys[fk x.keys key] = key) :
    Calls Tryz.prog 53 #[.pointer (some ⟨t, 0, none⟩), .int .i64 n, .int .i64 deep, kv, vv] w (PutPost w F p nf pool dn σ C (N + 30) 1 n (ins key v es) [n] 1) := by
  have hx := hb.shaped
  have hsm := hx.small (by omega)
  obtain ⟨kp, kc, rfl, -⟩ := hkey.open
  obtain ⟨vp, vc, rfl, -⟩ := hval.open
  obtain ⟨kl, hkl⟩ : ∃ kl, kl = key.length := ⟨_, rfl⟩
  obtain ⟨vl, hvl⟩ : ∃ vl, vl = v.length := ⟨_, rfl⟩
  rw [← hkl] at hkey ⊢
  rw [← hvl] at hval ⊢
  obtain ⟨W0, hW0⟩ : ∃ W0, W0 = w.alloc (.cells #[.int .i64 0, .slice none 0 0, .int .i64 0] 140) := ⟨_, rfl⟩
  have hx0 : Ext w W0 := by rw [hW0]; exact (Upd.refl _ w).alloc _
  have hs0 : W0.heap.size = w.heap.size + 1 := by rw [hW0]; simp
  have hl0 : W0.heap[w.heap.size]? = some (.cells #[.int .i64 0, .slice none 0 0, .int .i64 0] 140 (0, 0)) := by rw [hW0]; exact heap_alloc_new w _
  have ht0 : TrRow W0 t p root := hx0.heap ht (fun f => f)
  have hrd := read_tree ht0 (h1.ext hx0) (by omega) n (.inr hn) x hC hx hsz deep hd
  rw [hl] at hrd
  have HRD := Lib.hid hrd
  have HH := Lib.hid (And.intro ht0 (And.intro h1 (And.intro hx0 (And.intro hs0 (And.intro hl0 hW0)))))
  have HB := Lib.hid hb
  have HT := Lib.hid ht
  have HFL := Lib.hid (fun i (hi : F i) => h1.lt hi)
  have HX := Lib.hid (And.intro hx (And.intro hsm (And.intro hl (And.intro hk0 (And.intro hsz hC)))))
  have HK := Lib.hid (And.intro hkey (And.intro hval (And.intro hkl hvl)))
  have HF := Lib.hid hf
  have HVL := Lib.hid hv
  have HN := Lib.hid hn
  clear ht h1 hx0 hs0 hl0 ht0 hrd hb hx hsm hl hk0 hkey hval hkl hvl hsz hC hW0 hf hn
  go_enter Tryz.func53, Tryz.ntmps53
  go_wp2_with fail
  rw [← HH.out.2.2.2.2.2]
  refine HRD.out.mono ?_
  rintro e w1 ⟨F1, sk, sv, sc, kvs, vvs, rfl, hap, h2, hF1, hU1⟩
  obtain ⟨ht0, h1, hx0, hs0, hl0, hW0⟩ := HH.out
  obtain ⟨hkey, hval, hkl, hvl⟩ := HK.out
  have hlen := (HX.out.1.leafv HX.out.2.2.1).1
  have hvv0 : 0 < vvs.length := by
    rw [hap.own.vl.1, hlen]
    exact List.length_pos_iff.2 HX.out.2.2.2.1
  obtain ⟨gv, cv, cur, rfl, hgv, -⟩ := own_open hap.own.v hvv0
  obtain ⟨ak, ck, av, cv', ac, cc, rfl, e2, rfl, hnode⟩ := hap.own.node
  have hvn : vvs.length = x.vals.length := hap.own.vl.1
  obtain ⟨nk, hnk⟩ : ∃ nk, nk = x.keys.length := ⟨_, rfl⟩
  obtain ⟨nv, hnv⟩ : ∃ nv, nv = vvs.length := ⟨_, rfl⟩
  obtain ⟨nc, hnc⟩ : ∃ nc, nc = x.kids.length := ⟨_, rfl⟩
  rw [← hnk, ← hnv, ← hnc] at hap ⊢
  obtain ⟨k, hk⟩ : ∃ k, k = fk x.keys key := ⟨_, rfl⟩
  obtain ⟨W1, hW1⟩ : ∃ W1, W1 = w1.alloc (.cells #[.bool true, .slice ak nk ck, .slice (some ⟨gv, 0, none⟩) nv cv, .slice ac nc cc] 144) := ⟨_, rfl⟩
  have hx1 : Ext w1 W1 := by rw [hW1]; exact (Upd.refl _ w1).alloc _
  have hr1 : W1.heap[w1.heap.size]? = some (.cells #[.bool true, .slice ak nk ck, .slice (some ⟨gv, 0, none⟩) nv cv, .slice ac nc cc] 144 (0, 0)) := by rw [hW1]; exact heap_alloc_new w1 _
  have y0 := one_cells hr1 0 _ rfl
  have y1 := one_cells hr1 1 _ rfl
  have y2 := one_cells hr1 2 _ rfl
  have y3 := one_cells hr1 3 _ rfl
  have hUw : Upd F w W1 := ((hx0.ext).trans hU1 (fun i e => .inl e)).andExt hx1
  have hfd := find_any (.bool true) (.slice (some ⟨gv, 0, none⟩) nv cv) (.slice ac nc cc) (.slice ak nk ck) kvs (.slice kp kl kc) x.keys key W1 (own_rd (hap.ext hx1).own.k) (hap.ext hx1).own.kl (hkey.upd hUw h1.notByte) HX.out.1.srt (by have := HX.out.2.1.n; omega)
  rw [decide_eq_true HF.out, ← hk] at hfd
  have hfl : k < nk := by obtain ⟨hf, -⟩ := HF.out; omega
  have hgvl : gv < w1.heap.size := heap_lt hgv
  have HFD := Lib.hid hfd
  have HA := Lib.hid (And.intro (hap.ext hx1) (And.intro (h2.ext hx1) (And.intro hF1 (And.intro hU1 (And.intro hx1 (And.intro hr1 hUw))))))
  have HL := Lib.hid (And.intro hnk (And.intro hnv (And.intro hnc (And.intro hvn (And.intro hlen hk)))))
  have HW1 := Lib.hid hW1
  have hne : w1.heap.size ≠ gv := by omega
  rw [hW1] at y0 y1 y2 y3
  have hkn : k < nv := by omega
  clear ht0 h1 hx0 hs0 hl0 hW0 hkey hval hkl hvl hlen hvv0 hgv e2 hnode hvn hap h2 hF1 hU1 hnk hnv hnc hk hx1 hr1 hUw hfd hW1
  go_wp2_with fail
  rw [← HW1.out]
  refine HFD.out.mono ?_
  rintro e w2 ⟨rfl, hU2⟩
  obtain ⟨hap, h2, hF1, hU1, hx1, hr1, hUw⟩ := HA.out
  have hap2 := hap.ext hU2
  have hr2 := hU2.heap hr1 (fun f => f)
  have y2' := one_cells hr2 2 _ rfl
  have y0' := one_cells hr2 0 _ rfl
  have y1' := one_cells hr2 1 _ rfl
  have y3' := one_cells hr2 3 _ rfl
  have hvo := hap2.own.v
  have hvo' := hvo
  unfold Own at hvo'
  rw [← HL.out.2.1] at hvo'
  have cg : w2.cell? ⟨gv, k, none⟩ = some (vvs[k]'(by have := HL.out.2.1; omega)) := by
    rw [hvo'.cellAt k (by omega)]; exact List.getElem?_eq_getElem _
  have fg : w2.frozen? ⟨gv, k, none⟩ = false := hvo'.frozenAt k
  obtain ⟨u, hu⟩ : ∃ u, u = vvs[k]'(by have := HL.out.2.1; omega) := ⟨_, rfl⟩
  rw [← hu] at cg
  have hUw2 := hUw.andExt hU2
  obtain ⟨hap3, hU3⟩ := hap2.setVal k (.slice vp vl vc) v (HK.out.2.1.upd hUw2 HH.out.2.1.notByte)
  have hgF : ¬ F1 gv := hap2.fv gv rfl
  have h3 := (h2.ext hU2).upd hU3 (fun i hi e => hgF (e ▸ hi)) (by
    rintro b cs fr rfl e
    obtain ⟨cur, hc⟩ := ownN_type hvo (k := b) rfl
    rw [hc] at e; simp at e)
  have hUw3 : Upd F w (w2.setCell ⟨gv, k, none⟩ (.slice vp vl vc)) := hUw2.trans hU3 (fun i e => .inr (by rw [e]; have := hap2.own.vb gv rfl; have := HH.out.2.2.2.1; omega))
  have ht3 : TrRow (w2.setCell ⟨gv, k, none⟩ (.slice vp vl vc)) t p root := hUw3.heap HT.out (HT.out.not HH.out.2.1)
  have hres1 : w1.heap[w.heap.size]? = some (.cells #[.int .i64 0, .slice none 0 0, .int .i64 0] 140 (0, 0)) := hU1.heap HH.out.2.2.2.2.1 (fun e => by have := HFL.out _ e; omega)
  have hres3 := hU3.heap (hU2.heap (hx1.heap hres1 (fun f => f)) (fun f => f)) (fun e => by have := hap2.own.vb gv rfl; have := HH.out.2.2.2.1; omega)
  obtain ⟨b1, b2⟩ := leaf_hit HB.out HX.out.2.2.1 HVL.out HF.out
  have hw1z : w1.heap.size ≠ w.heap.size := by have := heap_lt hres1; omega
  obtain ⟨ak', ck', av', cv', ac', cc', j1, j2, j3, hnode⟩ := hap3.own.node
  simp only [Value.slice.injEq] at j1 j2 j3
  obtain ⟨rfl, j1, rfl⟩ := j1
  obtain ⟨rfl, j2, rfl⟩ := j2
  obtain ⟨rfl, j3, rfl⟩ := j3
  have hcap : nsize { x with vals := x.vals.set k v } ≤ capOf { x with vals := x.vals.set k v } := by
    have := HX.out.2.2.2.2.1
    rw [← HL.out.2.2.2.2.2] at b2
    have e : capOf { x with vals := x.vals.set k v } = 1527 := by simp [capOf, HX.out.2.2.1]
    rw [e]; omega
  rw [← HL.out.2.2.2.2.2] at b1
  have hlay := lay_tree ht3 h3 (by omega) n [n] (.inr ⟨HN.out, rfl⟩) hroom ak (some ⟨gv, 0, none⟩) ac ck cv cc kvs (vvs.set k (.slice vp vl vc)) hnode b1 hcap ⟨by simp, fun m hm => by simp at hm; rw [hm]; exact HN.out⟩
  unfold nodeV at hlay
  simp only [← j1, ← j2, ← j3, HX.out.2.2.1] at hlay
  have HLAY := Lib.hid hlay
  have HB1 := Lib.hid b1
  have HC := Lib.hid (And.intro hUw3 (And.intro h3 hres3))
  have HSUB := Lib.hid (And.intro hF1 (And.intro hU1 (And.intro hx1 hU2)))
  clear hap hr1 hUw h2 hF1 hU1 hx1 hap2 hr2 hvo hvo' hu hUw2 hap3 hU3 hgF h3 hUw3 ht3 hres1 hres3 b1 b2 hnode hcap hlay j1 j2 j3 hU2 y0 y1 y2 y3
  go_wp2_with fail
  refine HLAY.out.mono ?_
  rintro e w4 ⟨pg, kv', K, bh, σ', C', F', ps', rfl, g1, g2, g3, g4, g5, g6, g7, g8⟩
  obtain rfl := g5 trivial
  obtain ⟨kp', kc', rfl, -⟩ := g2.open
  obtain ⟨kl', hkl'⟩ : ∃ kl', kl' = K.length := ⟨_, rfl⟩
  rw [← hkl'] at g2 ⊢
  obtain ⟨hUw3, h3, hres3⟩ := HC.out
  have hres4 := g8.heap hres3 (h3.not hres3 (by decide) (by decide) (by decide) (by decide) (by decide) (by decide))
  have z0 := one_cells hres4 0 _ rfl
  have z1 := one_cells hres4 1 _ rfl
  have z2 := one_cells hres4 2 _ rfl
  have i0 : w4.frozen? ⟨w.heap.size, 0, none⟩ = false := frozen_heap hres4
  have i1 : w4.frozen? ⟨w.heap.size, 1, none⟩ = false := frozen_heap hres4
  have i2 : w4.frozen? ⟨w.heap.size, 2, none⟩ = false := frozen_heap hres4
  have HG := Lib.hid (And.intro g1 (And.intro g2 (And.intro g3 (And.intro g4 (And.intro g6 (And.intro g7 (And.intro g8 hres4)))))))
  clear g1 g2 g3 g4 g5 g6 g7 g8 hUw3 h3 hres3 hres4 hkl' y0' y1' y2' y3' cg fg
  go_wp2_with fail
  refine bodyPost_ret (v := .tuple #[.agg #[.int .i64 pg, .slice kp' kl' kc', .int .i64 bh], .int .i64 0]) (by simp [results, Tryz.results53, go_sem, z0, z1, z2]) rfl ?_
  obtain ⟨g1, g2, g3, g4, g6, g7, g8, hres4⟩ := HG.out
  obtain ⟨hUw3, h3, hres3⟩ := HC.out
  obtain ⟨hF1, hU1, hx1, hU2⟩ := HSUB.out
  have hsz0 := HH.out.2.2.2.1
  have hszw := hUw3.size
  have hF1' : ∀ i, F1 i → F i ∨ w.heap.size ≤ i := fun i hi => (hF1 i hi).imp id (fun e => by omega)
  exact put_end (hUw3.trans g8 (fun i e => hF1' i e)) g1 (by omega) g2 (g3.tree HX.out.2.2.2.1) g4 (by simpa using g6) (fun i hi => (g7 i hi).elim (hF1' i) (fun e => .inr (by omega))) hres4
end Go.Proofs.YtecfhfddgolpfaaGreat
