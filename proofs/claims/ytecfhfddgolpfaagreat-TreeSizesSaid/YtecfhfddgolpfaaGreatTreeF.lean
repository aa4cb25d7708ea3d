/- The tree's walks: put under an inner node. -/
import Derived.Test.YtecfhfddgolpfaaGreatTreeD
import Derived.Test.YtecfhfddgolpfaaGreatHeld
import Derived.Maps.RangeWalk
namespace Go.Proofs.YtecfhfddgolpfaaGreat
open Go.RowKit
variable {w w' : World} {F G : Nat → Prop} {p nf pool dn N t : Nat} {σ : List Int} {C : Int → Bytes} {h : Nat} {x : Nd} {es : List Ent} {ps : List Int}

theorem perm_mid (n : Int) (a b c : List Int) : ((n :: (a ++ c)) ++ b).Perm (n :: (a ++ b ++ c)) := by
  simp only [List.cons_append, List.append_assoc]
  refine List.Perm.cons _ (List.Perm.append_left _ List.perm_append_comm)
/-- What a change below one kid does to the whole. -/
theorem Chg.kid {σ σ' : List Int} {C C' : Int → Bytes} {n : Int} {a b b' c : List Int} (hc : Chg σ C b σ' C' b') (ho : Own2 σ (n :: (a ++ b ++ c))) : Chg σ C (n :: (a ++ b ++ c)) σ' C' (n :: (a ++ b' ++ c)) ∧ C' n = C n ∧ ∀ m ∈ a ++ c, C' m = C m := by
  have ho2 := ho.perm (perm_mid n a b c).symm
  refine ⟨(hc.frame ho2.left ho2.apart).perm (perm_mid n a b c) (perm_mid n a b' c), hc.keep n (ho.on n (by simp)) (ho2.apart n (by simp)), fun m hm => hc.keep m (ho2.left.on m (List.mem_cons_of_mem _ hm)) (ho2.apart m (List.mem_cons_of_mem _ hm))⟩
theorem Tree.ne {C : Int → Bytes} : ∀ {h : Nat} {n : Int} {es : List Ent} {ps : List Int}, Tree C h n es ps → es ≠ []
  | 0, _, _, _, ht => ht.elim
  | h + 1, n, es, ps, ht => by
    obtain ⟨x, ps0, h1, -, -, ⟨hx, hb⟩, -⟩ := ht
    rcases hb with ⟨-, hl, rfl, -⟩ | ⟨-, hl, ss, s1, s2, -, rfl, -⟩
    · have := (hx.leafv hl).1
      intro e
      have e2 := congrArg List.length e
      rw [List.length_zip, List.length_nil] at e2
      have := List.length_pos_iff.2 h1
      omega
    · have hk := (hx.inn hl).2.1
      have hss : 0 < ss.length := by omega
      have := Tree.ne (s2 0 _ _ (List.getElem?_eq_getElem (by omega)) (List.getElem?_eq_getElem hss))
      intro e
      rw [List.flatten_eq_nil_iff] at e
      exact this (e _ (List.mem_map.2 ⟨ss[0], List.getElem_mem hss, rfl⟩))
/-- The same kid is set again. -/
theorem NAp.setKidSame {B g m cap : Nat} {sk sv : Value} {kvs vvs : List Value} (ha : NAp w B F sk sv (.slice (some ⟨g, 0, none⟩) m cap) kvs vvs x) (k : Nat) (kd : Int) (hk : x.kids[k]? = some kd) :
    NAp (w.setCell ⟨g, k, none⟩ (.int .i64 kd)) B F sk sv (.slice (some ⟨g, 0, none⟩) m cap) kvs vvs x ∧ Upd (fun i => i = g) w (w.setCell ⟨g, k, none⟩ (.int .i64 kd)) := by
  have hU : Upd (fun i => i = g) w (w.setCell ⟨g, k, none⟩ (.int .i64 kd)) := (Upd.refl _ w).setCell _ (.inl rfl)
  have ho := ha.own
  obtain ⟨cur, hg⟩ := ownN_type ho.c (k := g) rfl
  have hnb : ∀ b cs fr, b = g → w.heap[b]? ≠ some (.cells cs 5 fr) := by rintro b cs fr rfl e; rw [hg] at e; simp at e
  have hm : m = (intv x.kids).length := by
    rcases ho.c.2 with ⟨e, -⟩ | ⟨g', cap', cur, e, -⟩
    · simp at e
    · simp at e; rw [intv_length]; exact e.2.1
  have hco := ho.c
  unfold Own at hco
  rw [hm] at hco
  have hst := (hco.stored k (.int .i64 kd)).1
  obtain ⟨hlt, hke⟩ := List.getElem?_eq_some_iff.1 hk
  rw [intv_set, ← hke, List.set_getElem_self, ← hm] at hst
  rw [hke] at hst
  have ne : ∀ i cur, w.heap[i]? = some (.cells cur 23 (0, 0)) → i ≠ g := fun i cur h e => by rw [e, hg] at h; simp at h
  refine ⟨⟨⟨own_ext ho.k hU (fun j hj e => ?_), ho.kl.upd hU hnb, own_ext ho.v hU (fun j hj e => ?_), ho.vl.upd hU hnb, ?_, ho.kb, ho.vb, ho.cb⟩, ha.fk, ha.fv, ha.fc⟩, hU⟩
  · obtain ⟨c, h⟩ := ownN_type ho.k hj; exact ne j c h e
  · obtain ⟨c, h⟩ := ownN_type ho.v hj; exact ne j c h e
  · unfold Own; rw [← hm]; exact hst
/-- A call whose blocks lie behind or were known. -/
theorem NAp.after {B : Nat} {F' : Nat → Prop} {sk sv sc : Value} {kvs vvs : List Value} {w2 w3 : World} (ha : NAp w2 B F sk sv sc kvs vvs x) (hU : Upd F w2 w3) (hF : ∀ i, F' i → F i ∨ w2.heap.size ≤ i) (hnb : ∀ b cs fr, F b → w2.heap[b]? ≠ some (.cells cs 5 fr)) : NAp w3 B F' sk sv sc kvs vvs x :=
  ⟨ha.own.upd hU ha.fk ha.fv ha.fc hnb, fun k hk e => (hF k e).elim (ha.fk k hk) (fun e2 => by have := own_lt ha.own.k hk; omega), fun k hk e => (hF k e).elim (ha.fv k hk) (fun e2 => by have := own_lt ha.own.v hk; omega), fun k hk e => (hF k e).elim (ha.fc k hk) (fun e2 => by have := own_lt ha.own.c hk; omega)⟩
theorem NAp.insKC {B k : Nat} {F1 : Nat → Prop} {sk sv sc sk' sc' kv : Value} {kvs vvs : List Value} {key : Bytes} {bh : Int} {w2 wa w5 wb w6 : World} (ha : NAp w2 B F1 sk sv sc kvs vvs x) (hF : ∀ i, F1 i → i < w2.heap.size) (hB : B ≤ w2.heap.size) (hkk : k ≤ x.keys.length)
    (hxa : Ext w2 wa) (ho1 : Own w5 23 sk' (kvs.take k ++ kv :: kvs.drop k)) (hn1 : Nw wa sk sk') (hU1 : Upd (fun i => sk.ownBlock = some i) wa w5)
    (hxb : Ext w5 wb) (ho2 : Own w6 3 sc' ((intv x.kids).take (k + 1) ++ .int .i64 bh :: (intv x.kids).drop (k + 1))) (hn2 : Nw wb sc sc') (hU2 : Upd (fun i => sc.ownBlock = some i) wb w6) (hkey : Bts w2 kv key) :
    NAp w6 B F1 sk' sv sc' (kvs.take k ++ kv :: kvs.drop k) vvs { x with keys := x.keys.take k ++ key :: x.keys.drop k, kids := x.kids.take (k + 1) ++ bh :: x.kids.drop (k + 1) } ∧ Upd (fun i => sk.ownBlock = some i ∨ sc.ownBlock = some i) w2 w6 := by
  have ho := ha.own
  have s1 := hxa.size
  have s2 := hU1.size
  have s3 := hxb.size
  have s4 := hU2.size
  have lk : ∀ i, sk.ownBlock = some i → i < w2.heap.size := fun i hi => own_lt ho.k hi
  have lv : ∀ i, sv.ownBlock = some i → i < w2.heap.size := fun i hi => own_lt ho.v hi
  have lc : ∀ i, sc.ownBlock = some i → i < w2.heap.size := fun i hi => own_lt ho.c hi
  have lk' : ∀ i, sk'.ownBlock = some i → i < w5.heap.size := fun i hi => own_lt ho1 hi
  have hU : Upd (fun i => sk.ownBlock = some i ∨ sc.ownBlock = some i) w2 w6 :=
    (((hxa.ext).trans hU1 (fun i e => .inl (.inl e))).andExt hxb).trans hU2 (fun i e => .inl (.inr e))
  have kc : ∀ i, sk.ownBlock = some i → sc.ownBlock ≠ some i := fun i hi e => by
    obtain ⟨c1, h1⟩ := ownN_type ho.c e
    obtain ⟨c2, h2⟩ := ownN_type ho.k hi
    rw [h1] at h2; simp at h2
  have vc : ∀ i, sv.ownBlock = some i → sc.ownBlock ≠ some i := fun i hi e => by
    obtain ⟨c1, h1⟩ := ownN_type ho.c e
    obtain ⟨c2, h2⟩ := ownN_type ho.v hi
    rw [h1] at h2; simp at h2
  have hnb : ∀ b cs fr, (sk.ownBlock = some b ∨ sc.ownBlock = some b) → w2.heap[b]? ≠ some (.cells cs 5 fr) := by
    rintro b cs fr (e | e)
    · exact own_notByte ho.k (by decide) b cs fr e
    · exact own_notByte ho.c (by decide) b cs fr e
  have e2 : (intv x.kids).take (k + 1) ++ .int .i64 bh :: (intv x.kids).drop (k + 1) = intv (x.kids.take (k + 1) ++ bh :: x.kids.drop (k + 1)) := by simp [intv]
  rw [e2] at ho2
  refine ⟨⟨⟨own_ext (own_ext ho1 hxb (fun _ _ f => f)) hU2 (fun i hi e => ?_), BtsL.ins (ho.kl.upd hU hnb) (hkey.upd hU hnb) k hkk, own_ext ho.v hU ?_, ho.vl.upd hU hnb, ho2, fun i hi => ⟨?_, fun e => ?_⟩, ho.vb, fun i hi => ?_⟩, fun i hi e => ?_, ha.fv, fun i hi e => ?_⟩, hU⟩
  · rcases hn1 i hi with a | a
    · exact kc i a e
    · have := lc i e; omega
  · rintro i hi (e | e)
    · exact (ho.kb i e).2 hi
    · exact vc i hi e
  · rcases hn1 i hi with a | a
    · exact (ho.kb i a).1
    · omega
  · rcases hn1 i hi with a | a
    · exact (ho.kb i a).2 e
    · have := lv i e; omega
  · rcases hn2 i hi with a | a
    · exact ho.cb i a
    · omega
  · rcases hn1 i hi with a | a
    · exact ha.fk i a e
    · have := hF i e; omega
  · rcases hn2 i hi with a | a
    · exact ha.fc i a e
    · have := hF i e; omega
theorem insC_meet {B Bv k : Nat} {F1 : Nat → Prop} {lf sk sv sc sk' sc' kv : Value} {kvs vvs : List Value} {key : Bytes} {bh : Int} {w2 wa w5 wb w6 : World} (ha : NAp w2 B F1 sk sv sc kvs vvs x) (hF : ∀ i, F1 i → i < w2.heap.size) (hB : B ≤ w2.heap.size) (hkk : k ≤ x.keys.length)
    (h5 : Own w5 23 sk' (kvs.take k ++ kv :: kvs.drop k) ∧ Ext w2 wa ∧ Nw wa sk sk' ∧ Upd (fun i => sk.ownBlock = some i) wa w5)
    (h6 : Own w6 3 sc' ((intv x.kids).take (k + 1) ++ .int .i64 bh :: (intv x.kids).drop (k + 1)) ∧ Ext w5 wb ∧ Nw wb sc sc' ∧ Upd (fun i => sc.ownBlock = some i) wb w6 ∧ w6.heap[Bv]? = some (.cells #[lf, sk, sv, sc] 144 (0, 0))) (hkey : Bts w2 kv key) :
    ((w6.setCell ⟨Bv, 1, none⟩ sk').setCell ⟨Bv, 3, none⟩ sc').heap[Bv]? = some (.cells #[lf, sk', sv, sc'] 144 (0, 0)) ∧
    NAp ((w6.setCell ⟨Bv, 1, none⟩ sk').setCell ⟨Bv, 3, none⟩ sc') B F1 sk' sv sc' (kvs.take k ++ kv :: kvs.drop k) vvs { x with keys := x.keys.take k ++ key :: x.keys.drop k, kids := x.kids.take (k + 1) ++ bh :: x.kids.drop (k + 1) } ∧
    Upd (fun i => sk.ownBlock = some i ∨ sc.ownBlock = some i ∨ i = Bv) w2 ((w6.setCell ⟨Bv, 1, none⟩ sk').setCell ⟨Bv, 3, none⟩ sc') := by
  obtain ⟨ho1, hxa, hn1, hU1⟩ := h5
  obtain ⟨ho2, hxb, hn2, hU2, hr6⟩ := h6
  obtain ⟨hA, hUA⟩ := ha.insKC hF hB hkk hxa ho1 hn1 hU1 hxb ho2 hn2 hU2 hkey
  have hUs : Upd (fun i => i = Bv) w6 ((w6.setCell ⟨Bv, 1, none⟩ sk').setCell ⟨Bv, 3, none⟩ sc') :=
    ((Upd.refl (fun i => i = Bv) w6).setCell (p := ⟨Bv, 1, none⟩) _ (.inl rfl)).setCell (p := ⟨Bv, 3, none⟩) _ (.inl rfl)
  have e1 := heap_setCell_same w6 Bv 1 _ _ sk' hr6
  have e2 := heap_setCell_same _ Bv 3 _ _ sc' e1
  have ne : ∀ i cur, w6.heap[i]? = some (.cells cur 23 (0, 0)) → i ≠ Bv := fun i cur h e => by rw [e, hr6] at h; simp at h
  have ne2 : ∀ i cur, w6.heap[i]? = some (.cells cur 3 (0, 0)) → i ≠ Bv := fun i cur h e => by rw [e, hr6] at h; simp at h
  refine ⟨by rw [e2]; rfl, hA.upd hUs (fun i hi => ?_) (fun i hi => ?_) (fun i hi => ?_) (by rintro b cs fr rfl e; rw [hr6] at e; simp at e), (hUA.mono (fun i _ e => e.elim .inl (fun e => .inr (.inl e)))).trans hUs (fun i e => .inl (.inr (.inr e)))⟩
  · obtain ⟨c, h⟩ := ownN_type hA.own.k hi
    exact ne i c h
  · obtain ⟨c, h⟩ := ownN_type hA.own.v hi
    exact ne i c h
  · obtain ⟨c, h⟩ := ownN_type hA.own.c hi
    exact ne2 i c h
/-- The four cells that the region reads. -/
def S4 (nb lb : Nat) (a b c d : Value) (w' : World) : Prop := w'.cell? ⟨lb, 1, none⟩ = some a ∧ w'.cell? ⟨lb, 2, none⟩ = some b ∧ w'.cell? ⟨nb, 1, none⟩ = some c ∧ w'.cell? ⟨nb, 3, none⟩ = some d
theorem keepAlloc4 {nb lb : Nat} {a b c d : Value} {o : Obj} (h : S4 nb lb a b c d w) : S4 nb lb a b c d (w.alloc o) :=
  have k : ∀ {p : Addr} {v : Value}, w.cell? p = some v → (w.alloc o).cell? p = some v := fun h => ((Upd.refl (fun _ => False) w).alloc o).cell h (fun f => f)
  ⟨k h.1, k h.2.1, k h.2.2.1, k h.2.2.2⟩
set_option maxRecDepth 100000 in
set_option maxHeartbeats 16000000 in
theorem put_inner {root : Int} {ps0 : List Int} (ht : TrRow w t p root) (h1 : Pgs w F p nf pool dn σ C N) (hh : 0 < h) (hN : N + 30 * (h + 1) ≤ 1000000000) (n : Int) (hown : Own2 σ (n :: ps0)) (hroom : h + 2 ≤ roomOf σ) (hC : C n = page x) (hsz : nsize x ≤ 1024) (hb : Body (Tree C h) h x es ps0) (hl : x.leaf = false) (hk0 : x.keys ≠ [])
    (deep : Int) (hd0 : 0 ≤ deep) (hd : deep ≤ 20) (kv vv : Value) (key v : Bytes) (hkey : Bts w kv key) (hval : Bts w vv v)
    (IH : ∀ (w : World) (F : Nat → Prop) (N : Nat) (kc : Int) (es : List Ent) (ps : List Int) (kv vv : Value), TrRow w t p root → Pgs w F p nf pool dn σ C N → N + 30 * h ≤ 1000000000 → Tree C h kc es ps → Own2 σ ps → h + 1 ≤ roomOf σ → Bts w kv key → Bts w vv v →
      Calls Tryz.prog 53 #[.pointer (some ⟨t, 0, none⟩), .int .i64 kc, .int .i64 (deep + 1), kv, vv] w (PutPost w F p nf pool dn σ C (N + 30 * h) h kc (ins key v es) ps h)) :
    Calls Tryz.prog 53 #[.pointer (some ⟨t, 0, none⟩), .int .i64 n, .int .i64 deep, kv, vv] w (PutPost w F p nf pool dn σ C (N + 30 * (h + 1)) (h + 1) n (ins key v es) (n :: ps0) (h + 1)) := by
  have hx := hb.shaped
  have hsm := hx.small (by omega)
  have hn := hown.on n (by simp)
  obtain ⟨kp, kc, rfl, -⟩ := hkey.open
  obtain ⟨vp, vc, rfl, -⟩ := hval.open
  obtain ⟨kl, hkl⟩ : ∃ kl, kl = key.length := ⟨_, rfl⟩
  obtain ⟨vl, hvl⟩ : ∃ vl, vl = v.length := ⟨_, rfl⟩
  rw [← hkl] at hkey ⊢
  rw [← hvl] at hval ⊢
  obtain ⟨i1, i2, i3⟩ := hx.inn hl
  obtain ⟨c, hc⟩ : ∃ c, c = kidx x.keys key := ⟨_, rfl⟩
  have hcle := kidx_le x.keys key
  rw [← hc] at hcle
  have hcl : c < x.kids.length := by omega
  obtain ⟨L, s, R, hat⟩ := hb.at hl hcl
  obtain ⟨kd, hkd⟩ : ∃ kd, kd = x.kids[c] := ⟨_, rfl⟩
  have hkd' : x.kids[c]? = some kd := by rw [hkd]; exact List.getElem?_eq_getElem hcl
  have htr := hat.kid hkd'
  have hps0 := hat.ps
  have hownk : Own2 σ s.2 := by
    have h2 := hown
    rw [hps0] at h2
    exact (h2.perm (perm_mid n _ _ _).symm).right
  obtain ⟨W0, hW0⟩ : ∃ W0, W0 = w.alloc (.cells #[.int .i64 0, .slice none 0 0, .int .i64 0] 140) := ⟨_, rfl⟩
  have hx0 : Ext w W0 := by rw [hW0]; exact (Upd.refl _ w).alloc _
  have hs0 : W0.heap.size = w.heap.size + 1 := by rw [hW0]; simp
  have hl0 : W0.heap[w.heap.size]? = some (.cells #[.int .i64 0, .slice none 0 0, .int .i64 0] 140 (0, 0)) := by rw [hW0]; exact heap_alloc_new w _
  have ht0 : TrRow W0 t p root := hx0.heap ht (fun f => f)
  have hrd := read_tree ht0 (h1.ext hx0) (by omega) n (.inr hn) x hC hx hsz deep hd
  rw [hl] at hrd
  have HRD := Lib.hid hrd
  have HH := Lib.hid (And.intro ht0 (And.intro h1 (And.intro hx0 (And.intro hs0 (And.intro hl0 hW0)))))
  have HB := Lib.hid hb
  have HT := Lib.hid ht
  have HFL := Lib.hid (fun i (hi : F i) => h1.lt hi)
  have HX := Lib.hid (And.intro hx (And.intro hsm (And.intro hl (And.intro hk0 (And.intro hsz (And.intro hC (And.intro i1 (And.intro i2 i3))))))))
  have HK := Lib.hid (And.intro hkey (And.intro hval (And.intro hkl hvl)))
  have HN := Lib.hid (And.intro hn (And.intro hown hownk))
  have HAT := Lib.hid (And.intro hat (And.intro hkd' (And.intro htr (And.intro hc hcl))))
  have HIH := Lib.hid IH

  clear ht h1 hx0 hs0 hl0 ht0 hrd hb hx hsm hl hk0 hkey hval hkl hvl hsz hC hW0 hn hown hownk hat hkd' htr hps0 i1 i2 i3 hc IH hkd hcl
  go_enter Tryz.func53, Tryz.ntmps53
  go_wp2_with fail
  rw [← HH.out.2.2.2.2.2]
  refine HRD.out.mono ?_
  rintro e w1 ⟨F1, sk, sv, sc, kvs, vvs, rfl, hap, h2, hF1, hU1⟩
  obtain ⟨ht0, h1, hx0, hs0, hl0, hW0⟩ := HH.out
  obtain ⟨hkey, hval, hkl, hvl⟩ := HK.out
  obtain ⟨hat, hkd', htr, hc, hcl⟩ := HAT.out
  obtain ⟨gc, cc, cur, rfl, hgc, -⟩ := own_open hap.own.c (by rw [intv_length]; omega)
  obtain ⟨ak, ck, av, cv, ac, cc', rfl, rfl, e3, hnode⟩ := hap.own.node
  obtain ⟨nk, hnk⟩ : ∃ nk, nk = x.keys.length := ⟨_, rfl⟩
  obtain ⟨nv, hnv⟩ : ∃ nv, nv = x.vals.length := ⟨_, rfl⟩
  obtain ⟨nc, hnc⟩ : ∃ nc, nc = x.kids.length := ⟨_, rfl⟩
  rw [intv_length] at hap e3 ⊢
  rw [← hnk, ← hnv, ← hnc] at hap
  rw [← hnk, ← hnv, ← hnc]
  obtain ⟨W1, hW1⟩ : ∃ W1, W1 = w1.alloc (.cells #[.bool false, .slice ak nk ck, .slice av nv cv, .slice (some ⟨gc, 0, none⟩) nc cc] 144) := ⟨_, rfl⟩
  have hx1 : Ext w1 W1 := by rw [hW1]; exact (Upd.refl _ w1).alloc _
  have hr1 : W1.heap[w1.heap.size]? = some (.cells #[.bool false, .slice ak nk ck, .slice av nv cv, .slice (some ⟨gc, 0, none⟩) nc cc] 144 (0, 0)) := by rw [hW1]; exact heap_alloc_new w1 _
  have y0 := one_cells hr1 0 _ rfl
  have y1 := one_cells hr1 1 _ rfl
  have y2 := one_cells hr1 2 _ rfl
  have y3 := one_cells hr1 3 _ rfl
  have hUw : Upd F w W1 := ((hx0.ext).trans hU1 (fun i e => .inl e)).andExt hx1
  have hkk := kid_any (.bool false) (.slice av nv cv) (.slice (some ⟨gc, 0, none⟩) nc cc) (.slice ak nk ck) kvs (.slice kp kl kc) x.keys key W1 (own_rd (hap.ext hx1).own.k) (hap.ext hx1).own.kl (hkey.upd hUw h1.notByte) HX.out.1.srt (by have := HX.out.2.1.n; omega)
  rw [← hc] at hkk
  have HKK := Lib.hid hkk
  have HA := Lib.hid (And.intro (hap.ext hx1) (And.intro (h2.ext hx1) (And.intro hF1 (And.intro hU1 (And.intro hx1 (And.intro hr1 hUw))))))
  have HL := Lib.hid (And.intro hnk (And.intro hnv hnc))
  have HW1 := Lib.hid hW1
  have hgcl : gc < w1.heap.size := heap_lt hgc
  have hne : w1.heap.size ≠ gc := by omega
  have HW1Z := Lib.hid (show w.heap.size < w1.heap.size by have := hU1.size; omega)
  rw [hW1] at y0 y1 y2 y3
  have hcn : c < nc := by omega
  have hnc9 : nc ≤ 5000 := by have := HX.out.2.1.cn; omega
  clear ht0 h1 hx0 hs0 hl0 hW0 hkey hval hkl hvl hgc e3 hnode hap h2 hF1 hU1 hnk hnv hnc hc hx1 hr1 hUw hkk hW1 hat hkd' htr hcl
  go_wp2_with fail
  rw [← HW1.out]
  refine HKK.out.mono ?_
  rintro e w2 ⟨rfl, hU2⟩
  obtain ⟨hap, h2, hF1, hU1, hx1, hr1, hUw⟩ := HA.out
  obtain ⟨hat, hkd', htr, hc, hcl⟩ := HAT.out
  have hap2 := hap.ext hU2
  have hr2 := hU2.heap hr1 (fun f => f)
  have y3' := one_cells hr2 3 _ rfl
  have hco := hap2.own.c
  unfold Own at hco
  rw [intv_length, ← HL.out.2.2] at hco
  have cg : w2.cell? ⟨gc, c, none⟩ = some (.int .i64 kd) := by
    rw [hco.cellAt c (by omega)]
    rw [intv, List.getElem?_map, hkd']; rfl
  have hUw2 := hUw.andExt hU2
  have ht2 : TrRow w2 t p root := hUw2.heap HT.out (HT.out.not HH.out.2.1)
  have hih := HIH.out w2 F1 (N + 4) kd s.1 s.2 (.slice kp kl kc) (.slice vp vl vc) ht2 (h2.ext hU2) (by omega) htr HN.out.2.2 (by omega) (HK.out.1.upd hUw2 HH.out.2.1.notByte) (HK.out.2.1.upd hUw2 HH.out.2.1.notByte)
  have HR := Lib.hid hih
  have hres1 : w1.heap[w.heap.size]? = some (.cells #[.int .i64 0, .slice none 0 0, .int .i64 0] 140 (0, 0)) := hU1.heap HH.out.2.2.2.2.1 (fun e => by have := HFL.out _ e; omega)
  have hres2 := hU2.heap (hx1.heap hres1 (fun f => f)) (fun f => f)
  have hw1z : w1.heap.size ≠ w.heap.size := by have := heap_lt hres1; omega
  have H2 := Lib.hid (And.intro hap2 (And.intro hr2 (And.intro hUw2 (And.intro (h2.ext hU2) (And.intro hF1 (And.intro hU1 (And.intro hx1 (And.intro hU2 (And.intro hres2 ht2)))))))))
  clear hap h2 hF1 hU1 hx1 hr1 hUw hat hkd' htr hc hcl hap2 hr2 hco hUw2 ht2 hih hres1 hres2 hU2 y0 y1 y2 y3
  go_wp2_with fail
  refine HR.out.mono ?_
  rintro e w3 ⟨kv', K, bh, σ', C', F', ps', rfl, h3, hK, hlaid, hch, hlen, hF3, hU3⟩
  obtain ⟨lp, lc, rfl, -⟩ := hK.open
  obtain ⟨ll, hll⟩ : ∃ ll, ll = K.length := ⟨_, rfl⟩
  rw [← hll] at hK ⊢
  obtain ⟨hap2, hr2, hUw2, h2, hF1, hU1, hx1, hU2, hres2, ht2⟩ := H2.out
  obtain ⟨hat, hkd', htr, hc, hcl⟩ := HAT.out
  obtain ⟨W4, hW4⟩ : ∃ W4, W4 = w3.alloc (.cells #[.int .i64 kd, .slice lp ll lc, .int .i64 bh] 140) := ⟨_, rfl⟩
  have hx4 : Ext w3 W4 := by rw [hW4]; exact (Upd.refl _ w3).alloc _
  have hl4 : W4.heap[w3.heap.size]? = some (.cells #[.int .i64 kd, .slice lp ll lc, .int .i64 bh] 140 (0, 0)) := by rw [hW4]; exact heap_alloc_new w3 _
  have hap3 := hap2.after hU3 hF3 h2.notByte
  have hBF : ¬ F1 w1.heap.size := h2.not hr2 (by decide) (by decide) (by decide) (by decide) (by decide) (by decide)
  have hRF : ¬ F1 w.heap.size := h2.not hres2 (by decide) (by decide) (by decide) (by decide) (by decide) (by decide)
  have hr4 := hx4.heap (hU3.heap hr2 hBF) (fun f => f)
  have hres4 := hx4.heap (hU3.heap hres2 hRF) (fun f => f)
  have hap4 := hap3.ext hx4
  have hF1w : ∀ i, F1 i → F i ∨ w.heap.size ≤ i := fun i hi => (hF1 i hi).imp id (fun e => by have := HH.out.2.2.2.1; omega)
  have hsz2 := hUw2.size
  have hF'w : ∀ i, F' i → F i ∨ w.heap.size ≤ i := fun i hi => (hF3 i hi).elim (hF1w i) (fun e => .inr (by omega))
  have hUw4 : Upd F w W4 := (hUw2.trans hU3 hF1w).andExt hx4
  have hps := hat.ps
  have hown2 : Own2 σ (n :: (pgsOf L ++ s.2 ++ pgsOf R)) := by rw [← hps]; exact HN.out.2.1
  obtain ⟨ch1, ch2, ch3⟩ := hch.kid hown2
  rw [← hps] at ch1
  have l0 := one_cells hl4 0 _ rfl
  have l1 := one_cells hl4 1 _ rfl
  have l2 := one_cells hl4 2 _ rfl
  have y3 := one_cells hr4 3 _ rfl
  have hco := hap4.own.c
  unfold Own at hco
  rw [intv_length, ← HL.out.2.2] at hco
  have cg4 : W4.cell? ⟨gc, c, none⟩ = some (.int .i64 kd) := by
    rw [hco.cellAt c (by omega)]
    rw [intv, List.getElem?_map, hkd']; rfl
  have hlr : w3.heap.size ≠ w.heap.size := by have := hUw2.size; have := hU3.size; have := heap_lt hres2; omega
  have hsub : ∀ k a q, (∀ m ∈ q, m ∈ pgsOf L ++ pgsOf R) → Tree C h k a q → Tree C' h k a q := fun k a q hq hk => hk.keep (fun m hm => ch3 m (hq m hm))
  obtain ⟨bd1, bd2⟩ := hat.bounds (v := v) HX.out.1 hc (fun e he => he)
  have hes : ins key v es = ents L ++ ins key v s.1 ++ ents R := by
    rw [hat.es, List.append_assoc, ins_app_left _ _ (hat.low hc), ins_app_right _ _ (hat.high HX.out.1 HX.out.2.2.1 hc), List.append_assoc]
  have HBL := Lib.hid (show w1.heap.size < w3.heap.size by have := heap_lt hr2; have := hU3.size; omega)
  have HW4 := Lib.hid hW4
  have H4 := Lib.hid (And.intro hap4 (And.intro hr4 (And.intro hres4 (And.intro hUw4 (And.intro (h3.ext hx4) (And.intro hF'w (And.intro hl4 (hK.ext hx4))))))))
  have HCH := Lib.hid (And.intro ch1 (And.intro ch2 (And.intro ch3 (And.intro hlen (And.intro hsub (And.intro bd1 (And.intro bd2 hes)))))))
  have HLD := Lib.hid (And.intro hlaid (And.intro hll hch))
  clear h3 hK hch hlen hF3 hU3 hll hap2 hr2 hUw2 h2 hF1 hU1 hx1 hU2 hres2 ht2 hat hkd' htr hc hcl hW4 hx4 hl4 hap3 hBF hRF hr4 hres4 hap4 hF1w hF'w hUw4 hps hown2 ch1 ch2 ch3 hco hsub bd1 bd2 hes cg y3' hsz2
  rcases hlaid with ⟨rfl, htk⟩ | ⟨hb0, hb1, hb2, hb3, es1, es2, ps1, ps2, ht1, ht2, he12, hp12, hlo, hhi⟩
  · have l0w := l0
    rw [HW4.out] at l0 l1 l2 y3 cg4
    go_wp2_with fail
    rw [← HW4.out] at l0 l1 l2 y3 cg4 ⊢
    go_quiet (fail)
    obtain ⟨hap4, hr4, hres4, hUw4, h4, hF'w, hl4, hK4⟩ := H4.out
    have hxq : Ext W4 (W4.drewN nq) := (Upd.refl _ W4).drewN nq
    have hres5 := hxq.heap hres4 (fun f => f)
    have z0 := one_cells hres5 0 _ rfl
    have z1 := one_cells hres5 1 _ rfl
    have z2 := one_cells hres5 2 _ rfl
    have i0 : (W4.drewN nq).frozen? ⟨w.heap.size, 0, none⟩ = false := frozen_heap hres5
    have i1 : (W4.drewN nq).frozen? ⟨w.heap.size, 1, none⟩ = false := frozen_heap hres5
    have i2 : (W4.drewN nq).frozen? ⟨w.heap.size, 2, none⟩ = false := frozen_heap hres5
    have H5 := Lib.hid (And.intro (h4.ext hxq) (And.intro (hUw4.andExt hxq) hres5))
    clear hap4 hr4 hres4 hUw4 h4 hF'w hl4 hK4 hxq hres5 l0 l1 l2 y3 cg4 l0w
    generalize W4.drewN nq = W5 at *
    go_wp2_with fail
    refine bodyPost_ret (v := .tuple #[.agg #[.int .i64 n, .slice none 0 0, .int .i64 (-1)], .int .i64 0]) (by simp [results, Tryz.results53, go_sem, z0, z1, z2]) rfl ?_
    obtain ⟨h5, hU5, hres5⟩ := H5.out
    obtain ⟨ch1, ch2, ch3, hlen, hsub, bd1, bd2, hes⟩ := HCH.out
    obtain ⟨hat, hkd', htr, hc, hcl⟩ := HAT.out
    have hbody := hat.put1 (t := (ins key v s.1, ps')) HX.out.1 HX.out.2.2.1 hh hsub (fun k hk => by rw [hkd'] at hk; cases hk; exact htk) bd1 bd2
    refine put_end (K := []) hU5 h5 (by omega) (Bts.nil _) (.inl ⟨rfl, ⟨x, _, HX.out.2.2.2.1, by rw [ch2]; exact HX.out.2.2.2.2.2.1, HX.out.2.2.2.2.1, by rw [hes]; exact hbody, rfl⟩⟩) ch1 ?_ H4.out.2.2.2.2.2.1 hres5
    rw [hat.ps]; simp; omega
  · have hbne : (bh == -1) = false := by simp; omega
    have hbne2 : (bh != -1) = true := by simp; omega
    have hcap4 := H4.out.1.own.c
    rw [HW4.out] at l0 l1 l2 y3 cg4
    go_wp2_with fail
    rw [← HW4.out] at l0 l1 l2 y3 cg4 ⊢
    go_quiet (fail)
    obtain ⟨hap4, hr4, hres4, hUw4, h4, hF'w, hl4, hK4⟩ := H4.out
    obtain ⟨hat, hkd', htr, hc, hcl⟩ := HAT.out
    have hxq : Ext W4 (W4.drewN nq) := (Upd.refl _ W4).drewN nq
    have H5 := Lib.hid (And.intro (hap4.ext hxq) (And.intro (hxq.heap hr4 (fun f => f)) (And.intro (hxq.heap hres4 (fun f => f)) (And.intro (hUw4.andExt hxq) (And.intro (h4.ext hxq) (And.intro (hxq.heap hl4 (fun f => f)) (hK4.ext hxq)))))))
    clear hap4 hr4 hres4 hUw4 h4 hF'w hl4 hK4 hxq l0 l1 l2 y3 cg4 hat hkd' htr hc hcl
    generalize W4.drewN nq = W5 at *
    obtain ⟨hap5, hr5, hres5, hUw5, h5, hl5, hK5⟩ := H5.out
    obtain ⟨hat, hkd', htr, hc, hcl⟩ := HAT.out
    have l0 := one_cells hl5 0 _ rfl
    have l1 := one_cells hl5 1 _ rfl
    have l2 := one_cells hl5 2 _ rfl
    have v0 := one_cells hr5 0 _ rfl
    have v1 := one_cells hr5 1 _ rfl
    have v2 := one_cells hr5 2 _ rfl
    have v3 := one_cells hr5 3 _ rfl
    have hco := hap5.own.c
    unfold Own at hco
    rw [intv_length, ← HL.out.2.2] at hco
    have cg5 : W5.cell? ⟨gc, c, none⟩ = some (.int .i64 kd) := by
      rw [hco.cellAt c (by omega)]
      rw [intv, List.getElem?_map, hkd']; rfl
    have fg5 : W5.frozen? ⟨gc, c, none⟩ = false := hco.frozenAt c
    obtain ⟨gcur, hgc5⟩ := ownN_type hap5.own.c (k := gc) rfl
    have d1 : w3.heap.size ≠ gc := fun e => by rw [← e, hl5] at hgc5; simp at hgc5
    have d2 : w1.heap.size ≠ gc := fun e => by rw [← e, hr5] at hgc5; simp at hgc5
    have d3 : w.heap.size ≠ gc := fun e => by rw [← e, hres5] at hgc5; simp at hgc5
    obtain ⟨hap6, hU6⟩ := hap5.setKidSame c kd hkd'
    have hnb6 : ∀ b cs fr, b = gc → W5.heap[b]? ≠ some (.cells cs 5 fr) := by rintro b cs fr rfl e; rw [hgc5] at e; simp at e
    have hgF : ¬ F' gc := hap5.fc gc rfl
    have hgw : w.heap.size ≤ gc := by have := hap5.own.cb gc rfl; have := HH.out.2.2.2.1; omega
    have h6 := h5.upd hU6 (fun i hi e => hgF (e ▸ hi)) hnb6
    have hr6 := hU6.heap hr5 d2
    have hl6 := hU6.heap hl5 d1
    have hres6 := hU6.heap hres5 d3
    have hK6 := hK5.upd hU6 hnb6
    have hUw6 : Upd F w (W5.setCell ⟨gc, c, none⟩ (.int .i64 kd)) := hUw5.trans hU6 (fun i e => .inr (by omega))
    have H6 := Lib.hid (And.intro hap6 (And.intro hr6 (And.intro hres6 (And.intro hUw6 (And.intro h6 (And.intro hl6 hK6))))))
    clear hap5 hr5 hres5 hUw5 h5 hl5 hK5 hat hkd' htr hc hcl hco hgc5 hap6 hU6 hnb6 hgF h6 hr6 hl6 hres6 hK6 hUw6
    go_upto_region 18 with fail
    clear l0 l1 l2 v0 v1 v2 v3 cg5 fg5 H5
    generalize W5.setCell ⟨gc, c, none⟩ (.int .i64 kd) = W6 at *
    obtain ⟨hap6, hr6, hres6, hUw6, h6, hl6, hK6⟩ := H6.out
    have y1 := one_cells hr6 1 _ rfl
    have y3 := one_cells hr6 3 _ rfl
    have l1 := one_cells hl6 1 _ rfl
    have l2 := one_cells hl6 2 _ rfl
    have hBs : w1.heap.size < W6.heap.size := heap_lt hr6
    have hLs : w3.heap.size < W6.heap.size := heap_lt hl6
    have hsk6 : ∀ i, (Value.slice ak nk ck).ownBlock = some i → i < W6.heap.size ∧ i ≠ w1.heap.size ∧ i ≠ w3.heap.size := fun i hi => by
      obtain ⟨cur, hc⟩ := ownN_type hap6.own.k hi
      exact ⟨heap_lt hc, fun e => by rw [e, hr6] at hc; simp at hc, fun e => by rw [e, hl6] at hc; simp at hc⟩
    have hsc6 : ∀ i, (Value.slice (some ⟨gc, 0, none⟩) nc cc).ownBlock = some i → i < W6.heap.size ∧ i ≠ w1.heap.size ∧ i ≠ w3.heap.size := fun i hi => by
      obtain ⟨cur, hc⟩ := ownN_type hap6.own.c hi
      exact ⟨heap_lt hc, fun e => by rw [e, hr6] at hc; simp at hc, fun e => by rw [e, hl6] at hc; simp at hc⟩
    have hBL : w1.heap.size < w3.heap.size := HBL.out
    have hlk : kvs.length ≤ 1000000000 := by rw [hap6.own.kl.1]; have := HX.out.2.1.n; omega
    have hkk : c ≤ kvs.length := by rw [hap6.own.kl.1]; exact hcle
    have hi1 : ∀ wz vb, Ext W6 wz → wz.heap[vb]? = some (.cells #[.slice lp ll lc] 23 (0, 0)) → W6.heap.size ≤ vb →
        Calls Tryz.prog 76 #[.slice ak nk ck, .int .i64 c, .slice (some ⟨vb, 0, none⟩) 1 1] wz fun e w' => ∃ v', e = .returned v' ∧ Own w' 23 v' (kvs.take c ++ .slice lp ll lc :: kvs.drop c) ∧ (∃ wa, Ext W6 wa ∧ Nw wa (.slice ak nk ck) v' ∧ Upd (fun i => (Value.slice ak nk ck).ownBlock = some i) wa w') ∧
          w'.heap[w1.heap.size]? = some (.cells #[.bool false, .slice ak nk ck, .slice av nv cv, .slice (some ⟨gc, 0, none⟩) nc cc] 144 (0, 0)) ∧ w'.heap[w3.heap.size]? = some (.cells #[.int .i64 kd, .slice lp ll lc, .int .i64 bh] 140 (0, 0)) ∧ ∀ i o, wz.heap[i]? = some o → W6.heap.size ≤ i → w'.heap[i]? = some o := by
      intro wz vb hz hh hv
      refine (insB_any _ kvs c vb _ wz (own_ext hap6.own.k hz (fun _ _ f => f)) hkk hlk hh (fun e => by have := (hsk6 vb e).1; omega) (bts_one hap6.own.kl) rfl).mono ?_
      rintro e w' ⟨v', rfl, a, b, d⟩
      exact ⟨v', rfl, a, ⟨wz, hz, b, d⟩, d.heap (hz.heap hr6 (fun f => f)) (fun e => (hsk6 _ e).2.1 rfl), d.heap (hz.heap hl6 (fun f => f)) (fun e => (hsk6 _ e).2.2 rfl), fun i o hi hl => d.heap hi (fun e => by have := (hsk6 i e).1; omega)⟩
    have hkc : ∀ i, (Value.slice (some ⟨gc, 0, none⟩) nc cc).ownBlock = some i → ¬ (Value.slice ak nk ck).ownBlock = some i := fun i hi e => by
      obtain ⟨c1, h1⟩ := ownN_type hap6.own.c hi
      obtain ⟨c2, h2⟩ := ownN_type hap6.own.k e
      rw [h1] at h2; simp at h2
    have hcast : ((c + 1 : Nat) : Int) = (c : Int) + 1 := by omega
    have hlc : (intv x.kids).length ≤ 1000000000 := by rw [intv_length]; have := HX.out.2.1.cn; omega
    have hcc : c + 1 ≤ (intv x.kids).length := by rw [intv_length, ← HL.out.2.2]; omega
    have hi2 : ∀ w5 wz vb, Upd (fun i => (Value.slice ak nk ck).ownBlock = some i) W6 w5 → Ext w5 wz → (w5.heap[w1.heap.size]? = some (.cells #[.bool false, .slice ak nk ck, .slice av nv cv, .slice (some ⟨gc, 0, none⟩) nc cc] 144 (0, 0)) ∧ w5.heap[w3.heap.size]? = some (.cells #[.int .i64 kd, .slice lp ll lc, .int .i64 bh] 140 (0, 0))) → wz.heap[vb]? = some (.cells #[.int .i64 bh] 3 (0, 0)) → W6.heap.size ≤ vb →
        Calls Tryz.prog 77 #[.slice (some ⟨gc, 0, none⟩) nc cc, .int .i64 ((c : Int) + 1), .slice (some ⟨vb, 0, none⟩) 1 1] wz fun e w' => ∃ v', e = .returned v' ∧ Own w' 3 v' ((intv x.kids).take (c + 1) ++ .int .i64 bh :: (intv x.kids).drop (c + 1)) ∧ (∃ wb, Ext w5 wb ∧ Nw wb (.slice (some ⟨gc, 0, none⟩) nc cc) v' ∧ Upd (fun i => (Value.slice (some ⟨gc, 0, none⟩) nc cc).ownBlock = some i) wb w') ∧
          w'.heap[w1.heap.size]? = some (.cells #[.bool false, .slice ak nk ck, .slice av nv cv, .slice (some ⟨gc, 0, none⟩) nc cc] 144 (0, 0)) ∧ w'.heap[w3.heap.size]? = some (.cells #[.int .i64 kd, .slice lp ll lc, .int .i64 bh] 140 (0, 0)) := by
      intro w5 wz vb h5 hz hr5 hh hv
      rw [← hcast]
      refine (insI_any _ (intv x.kids) (c + 1) vb _ wz (own_ext (own_ext hap6.own.c h5 hkc) hz (fun _ _ f => f)) hcc hlc hh (fun e => by have := (hsc6 vb e).1; omega) (intv_one _) rfl).mono ?_
      rintro e w' ⟨v', rfl, a, b, d⟩
      exact ⟨v', rfl, a, ⟨wz, hz, b, d⟩, d.heap (hz.heap hr5.1 (fun f => f)) (fun e => (hsc6 _ e).2.1 rfl), d.heap (hz.heap hr5.2 (fun f => f)) (fun e => (hsc6 _ e).2.2 rfl)⟩
    have HI1 := Lib.hid hi1
    have HI2 := Lib.hid hi2
    have HCC := Lib.hid (And.intro hkk hcc)
    clear hap6 hr6 hres6 hUw6 h6 hl6 hK6 hsk6 hsc6 hlk hkk hi1 hi2 hkc hcast hlc hcc
    have e1 : IntKind.i64.wrap ((c : Int) + 1) = (c : Int) + 1 := IntWalk.i64_in _ (by omega)
    go_cut [] (fun wx => ∃ pa pn pc qa qn qc, wx.heap[w1.heap.size]? = some (.cells #[.bool false, .slice pa pn pc, .slice av nv cv, .slice qa qn qc] 144 (0, 0)) ∧ NAp wx W0.heap.size F' (.slice pa pn pc) (.slice av nv cv) (.slice qa qn qc) (kvs.take c ++ .slice lp ll lc :: kvs.drop c) vvs { x with keys := x.keys.take c ++ K :: x.keys.drop c, kids := x.kids.take (c + 1) ++ bh :: x.kids.drop (c + 1) } ∧
      Upd (fun i => (Value.slice ak nk ck).ownBlock = some i ∨ (Value.slice (some ⟨gc, 0, none⟩) nc cc).ownBlock = some i ∨ i = w1.heap.size) W6 wx)
    case first =>
      have hS6 : S4 w1.heap.size w3.heap.size (.slice lp ll lc) (.int .i64 bh) (.slice ak nk ck) (.slice (some ⟨gc, 0, none⟩) nc cc) W6.drew := ⟨l1, l2, one_cells H6.out.2.1 1 _ rfl, one_cells H6.out.2.1 3 _ rfl⟩
      refine wpT_region 16 (S4 w1.heap.size w3.heap.size (.slice lp ll lc) (.int .i64 bh) (.slice ak nk ck) (.slice (some ⟨gc, 0, none⟩) nc cc)) (by kernel_rfl) (by simp) ?_
      refine wpT_take (i := 0) (v := ?vu1) rfl (by kernel_rfl) (by decide) (by kernel_rfl) (by kernel_rfl) (by kernel_rfl) (fun _ _ _ h => h) hS6 (Or.inl ⟨by rfl, ?hyu1⟩) ?restu1
      case hyu1 => intro w _; go_simp; try with_reducible rfl
      try go_frame
      refine wpT_take (i := 1) (v := ?vu2) rfl (by kernel_rfl) (by decide) (by kernel_rfl) (by kernel_rfl) (by kernel_rfl) (fun _ _ _ h => h) hS6 (Or.inl ⟨by rfl, ?hyu2⟩) ?restu2
      case hyu2 => intro w hw; have hw1 := hw.2.2.1; clear hw; go_simp; try with_reducible rfl
      try go_frame
      refine wpT_take (i := 2) (v := ?vu3) rfl (by kernel_rfl) (by decide) (by kernel_rfl) (by kernel_rfl) (by kernel_rfl) (fun _ _ _ h => h) hS6 (Or.inl ⟨by rfl, ?hyu3⟩) ?restu3
      case hyu3 => intro w _; go_simp; try with_reducible rfl
      try go_frame
      refine wpT_take (i := 3) (v := ?vu4) rfl (by kernel_rfl) (by decide) (by kernel_rfl) (by kernel_rfl) (by kernel_rfl) (fun _ _ _ h => h) hS6 (Or.inl ⟨by rfl, ?hyu4⟩) ?restu4
      case hyu4 => intro w _; go_simp; try with_reducible rfl
      try go_frame
      refine wpT_take (i := 4) (v := ?vu5) rfl (by kernel_rfl) (by decide) (by kernel_rfl) (by kernel_rfl) (by kernel_rfl) (fun _ _ _ h => h) hS6 (Or.inl ⟨by rfl, ?hyu5⟩) ?restu5
      case hyu5 => intro w hw; have hw1 := hw.1; clear hw; go_simp; try with_reducible rfl
      try go_frame
      refine wpT_take (i := 7) (v := ?vu6) rfl (by kernel_rfl) (by decide) (by kernel_rfl) (by kernel_rfl) (by kernel_rfl) (fun _ _ _ h => h) hS6 (Or.inl ⟨by rfl, ?hyu6⟩) ?restu6
      case hyu6 => intro w _; go_simp; try with_reducible rfl
      try go_frame
      refine wpT_take (i := 8) (v := ?vu7) rfl (by kernel_rfl) (by decide) (by kernel_rfl) (by kernel_rfl) (by kernel_rfl) (fun _ _ _ h => h) hS6 (Or.inl ⟨by rfl, ?hyu7⟩) ?restu7
      case hyu7 => intro w hw; have hw1 := hw.2.2.2; clear hw; go_simp; try with_reducible rfl
      try go_frame
      refine wpT_take (i := 9) (v := ?vu8) rfl (by kernel_rfl) (by decide) (by kernel_rfl) (by kernel_rfl) (by kernel_rfl) (fun _ _ _ h => h) hS6 (Or.inl ⟨by rfl, ?hyu8⟩) ?restu8
      case hyu8 => intro w _; go_simp; try with_reducible rfl
      try go_frame
      refine wpT_take (i := 10) (v := ?vu9) rfl (by kernel_rfl) (by decide) (by kernel_rfl) (by kernel_rfl) (by kernel_rfl) (fun _ _ _ h => h) hS6 (Or.inl ⟨by rfl, ?hyu9⟩) ?restu9
      case hyu9 => intro w _; go_simp; try with_reducible rfl
      try go_frame
      refine wpT_take (i := 11) (v := ?vu10) rfl (by kernel_rfl) (by decide) (by kernel_rfl) (by kernel_rfl) (by kernel_rfl) (fun _ _ _ h => h) hS6 (Or.inl ⟨by rfl, ?hyu10⟩) ?restu10
      case hyu10 => intro w _; go_simp; try with_reducible rfl
      try go_frame
      refine wpT_take (i := 12) (v := ?vu11) rfl (by kernel_rfl) (by decide) (by kernel_rfl) (by kernel_rfl) (by kernel_rfl) (fun _ _ _ h => h) hS6 (Or.inl ⟨by rfl, ?hyu11⟩) ?restu11
      case hyu11 => intro w hw; have hw1 := hw.2.1; clear hw; go_simp; try with_reducible rfl
      try go_frame
      refine wpT_ready [5, 13] (by kernel_rfl) (by simp) (by decide) ?_
      refine ReadyT.cons rfl (fun K hK => ?_) (ReadyT.cons rfl (fun K hK => ?_) ReadyT.nil)
      · go_simp
        have hS5 := keepAlloc4 (o := .cells #[.slice lp ll lc] 23) hS6
        refine hK.out _ _ hS5 ?_
        try go_frame
        refine wpT_ready [6, 13] (by kernel_rfl) (by simp) (by decide) ?_
        refine ReadyT.cons rfl (fun K hK => ?_) (ReadyT.cons rfl (fun K hK => ?_) ReadyT.nil)
        · go_simp
          refine (HI1.out _ _ ?_ ?_ ?_).mono ?_
          · repeat (first | exact Upd.refl _ _ | refine Upd.drew ?_ | refine Upd.alloc ?_ _)
          · first | exact heap_alloc_new _ _ | exact heap_alloc2_old _ _ _ | exact heap_alloc2_new _ _ _
          · first | exact Nat.le_refl _ | (simp; done) | (simp; omega)
          rintro e w5 ⟨v5, rfl, ho5, ⟨wa, hxa, hn5, hU5⟩, hr5, hl5, hk5⟩
          obtain ⟨pa, pn, pc, rfl⟩ : ∃ pa pn pc, v5 = .slice pa pn pc := by
            obtain ⟨pa, pc, e, -⟩ := own_slice ho5
            exact ⟨pa, _, pc, e⟩
          have hSc : S4 w1.heap.size w3.heap.size (.slice lp ll lc) (.int .i64 bh) (.slice ak nk ck) (.slice (some ⟨gc, 0, none⟩) nc cc) w5 := ⟨one_cells hl5 1 _ rfl, one_cells hl5 2 _ rfl, one_cells hr5 1 _ rfl, one_cells hr5 3 _ rfl⟩
          have HU25 := Lib.hid ((hxa.ext (F := fun i => (Value.slice ak nk ck).ownBlock = some i)).trans hU5 (fun i e => .inl e))
          have HK5 := Lib.hid hk5
          have HR5 := Lib.hid (And.intro hr5 hl5)
          have hB5 := heap_lt hr5
          have HI5 := Lib.hid (And.intro ho5 (And.intro hxa (And.intro hn5 hU5)))
          clear ho5 hxa hn5 hU5 hr5 hl5 hk5
          dsimp only
          refine hK.out _ _ hSc ?_
          try go_frame
          refine wpT_take (i := 15) (v := ?vu12) rfl (by kernel_rfl) (by decide) (by kernel_rfl) (by kernel_rfl) (by kernel_rfl) (fun _ _ _ h => h) hSc (Or.inl ⟨by rfl, ?hyu12⟩) ?restu12
          case hyu12 => intro w _; go_simp; try with_reducible rfl
          try go_frame
          refine wpT_ready [13] (by kernel_rfl) (by simp) (by decide) ?_
          refine ReadyT.cons rfl (fun K hK => ?_) ReadyT.nil
          go_simp
          have hS13 := keepAlloc4 (o := .cells #[.int .i64 bh] 3) hSc
          refine hK.out _ _ hS13 ?_
          try go_frame
          refine wpT_ready [14] (by kernel_rfl) (by simp) (by decide) ?_
          refine ReadyT.cons rfl (fun K hK => ?_) ReadyT.nil
          go_simp
          refine (HI2.out w5 _ _ HU25.out ?_ HR5.out ?_ ?_).mono ?_
          · repeat (first | exact Upd.refl _ _ | refine Upd.drew ?_ | refine Upd.alloc ?_ _)
          · first | exact HK5.out _ _ (by first | exact heap_alloc_new _ _ | exact heap_alloc2_old _ _ _ | exact heap_alloc2_new _ _ _) (by first | exact Nat.le_refl _ | (simp; done) | (simp; omega)) | exact heap_alloc_new _ _
          · first | exact Nat.le_refl _ | (simp; done) | (simp; omega) | (have := HU25.out.size; omega)
          rintro e w6 ⟨v6, rfl, ho6, ⟨wb, hxb, hn6, hU6⟩, hr6, hl6'⟩
          obtain ⟨qa, qn, qc, rfl⟩ : ∃ pa pn pc, v6 = .slice pa pn pc := by
            obtain ⟨pa, pc, e, -⟩ := own_slice ho6
            exact ⟨pa, _, pc, e⟩
          have hSd : S4 w1.heap.size w3.heap.size (.slice lp ll lc) (.int .i64 bh) (.slice ak nk ck) (.slice (some ⟨gc, 0, none⟩) nc cc) w6 := ⟨one_cells hl6' 1 _ rfl, one_cells hl6' 2 _ rfl, one_cells hr6 1 _ rfl, one_cells hr6 3 _ rfl⟩
          have u1 := one_cells hr6 1 _ rfl
          have u3 := one_cells hr6 3 _ rfl
          have uf1 : w6.frozen? ⟨w1.heap.size, 1, none⟩ = false := frozen_heap hr6
          have uf3 : w6.frozen? ⟨w1.heap.size, 3, none⟩ = false := frozen_heap hr6
          have HI6 := Lib.hid (And.intro ho6 (And.intro hxb (And.intro hn6 (And.intro hU6 hr6))))
          clear ho6 hxb hn6 hU6 hr6 hl6'
          dsimp only
          refine hK.out _ _ hSd ?_
          try go_frame
          refine wpT_done (by kernel_rfl) ?_
          simp only [List.drop_succ_cons, List.drop_zero]
          go_wp2_with fail
          go_meet
          obtain ⟨hap6, hr6, hres6, hUw6, h6, hl6, hK6⟩ := H6.out
          obtain ⟨m1, m2, m3⟩ := insC_meet hap6 (fun i hi => h6.lt hi) (by have := hUw6.size; have := HH.out.2.2.2.1; have := heap_lt hres6; omega) (by rw [← hap6.own.kl.1]; exact HCC.out.1) HI5.out HI6.out hK6
          exact ⟨_, _, _, _, _, _, m1, m2, m3⟩
        · go_simp
          have hS13 := keepAlloc4 (o := .cells #[.int .i64 bh] 3) hS5
          refine hK.out _ _ hS13 ?_
          try go_frame
          refine wpT_ready [6] (by kernel_rfl) (by simp) (by decide) ?_
          refine ReadyT.cons rfl (fun K hK => ?_) ReadyT.nil
          go_simp
          refine (HI1.out _ _ ?_ ?_ ?_).mono ?_
          · repeat (first | exact Upd.refl _ _ | refine Upd.drew ?_ | refine Upd.alloc ?_ _)
          · first | exact heap_alloc_new _ _ | exact heap_alloc2_old _ _ _ | exact heap_alloc2_new _ _ _
          · first | exact Nat.le_refl _ | (simp; done) | (simp; omega)
          rintro e w5 ⟨v5, rfl, ho5, ⟨wa, hxa, hn5, hU5⟩, hr5, hl5, hk5⟩
          obtain ⟨pa, pn, pc, rfl⟩ : ∃ pa pn pc, v5 = .slice pa pn pc := by
            obtain ⟨pa, pc, e, -⟩ := own_slice ho5
            exact ⟨pa, _, pc, e⟩
          have hSc : S4 w1.heap.size w3.heap.size (.slice lp ll lc) (.int .i64 bh) (.slice ak nk ck) (.slice (some ⟨gc, 0, none⟩) nc cc) w5 := ⟨one_cells hl5 1 _ rfl, one_cells hl5 2 _ rfl, one_cells hr5 1 _ rfl, one_cells hr5 3 _ rfl⟩
          have HU25 := Lib.hid ((hxa.ext (F := fun i => (Value.slice ak nk ck).ownBlock = some i)).trans hU5 (fun i e => .inl e))
          have HK5 := Lib.hid hk5
          have HR5 := Lib.hid (And.intro hr5 hl5)
          have hB5 := heap_lt hr5
          have HI5 := Lib.hid (And.intro ho5 (And.intro hxa (And.intro hn5 hU5)))
          clear ho5 hxa hn5 hU5 hr5 hl5 hk5
          dsimp only
          refine hK.out _ _ hSc ?_
          try go_frame
          refine wpT_take (i := 15) (v := ?vu13) rfl (by kernel_rfl) (by decide) (by kernel_rfl) (by kernel_rfl) (by kernel_rfl) (fun _ _ _ h => h) hSc (Or.inl ⟨by rfl, ?hyu13⟩) ?restu13
          case hyu13 => intro w _; go_simp; try with_reducible rfl
          try go_frame
          refine wpT_ready [14] (by kernel_rfl) (by simp) (by decide) ?_
          refine ReadyT.cons rfl (fun K hK => ?_) ReadyT.nil
          go_simp
          refine (HI2.out w5 _ _ HU25.out ?_ HR5.out ?_ ?_).mono ?_
          · repeat (first | exact Upd.refl _ _ | refine Upd.drew ?_ | refine Upd.alloc ?_ _)
          · first | exact HK5.out _ _ (by first | exact heap_alloc_new _ _ | exact heap_alloc2_old _ _ _ | exact heap_alloc2_new _ _ _) (by first | exact Nat.le_refl _ | (simp; done) | (simp; omega)) | exact heap_alloc_new _ _
          · first | exact Nat.le_refl _ | (simp; done) | (simp; omega) | (have := HU25.out.size; omega)
          rintro e w6 ⟨v6, rfl, ho6, ⟨wb, hxb, hn6, hU6⟩, hr6, hl6'⟩
          obtain ⟨qa, qn, qc, rfl⟩ : ∃ pa pn pc, v6 = .slice pa pn pc := by
            obtain ⟨pa, pc, e, -⟩ := own_slice ho6
            exact ⟨pa, _, pc, e⟩
          have hSd : S4 w1.heap.size w3.heap.size (.slice lp ll lc) (.int .i64 bh) (.slice ak nk ck) (.slice (some ⟨gc, 0, none⟩) nc cc) w6 := ⟨one_cells hl6' 1 _ rfl, one_cells hl6' 2 _ rfl, one_cells hr6 1 _ rfl, one_cells hr6 3 _ rfl⟩
          have u1 := one_cells hr6 1 _ rfl
          have u3 := one_cells hr6 3 _ rfl
          have uf1 : w6.frozen? ⟨w1.heap.size, 1, none⟩ = false := frozen_heap hr6
          have uf3 : w6.frozen? ⟨w1.heap.size, 3, none⟩ = false := frozen_heap hr6
          have HI6 := Lib.hid (And.intro ho6 (And.intro hxb (And.intro hn6 (And.intro hU6 hr6))))
          clear ho6 hxb hn6 hU6 hr6 hl6'
          dsimp only
          refine hK.out _ _ hSd ?_
          try go_frame
          refine wpT_done (by kernel_rfl) ?_
          simp only [List.drop_succ_cons, List.drop_zero]
          go_wp2_with fail
          go_meet
          obtain ⟨hap6, hr6, hres6, hUw6, h6, hl6, hK6⟩ := H6.out
          obtain ⟨m1, m2, m3⟩ := insC_meet hap6 (fun i hi => h6.lt hi) (by have := hUw6.size; have := HH.out.2.2.2.1; have := heap_lt hres6; omega) (by rw [← hap6.own.kl.1]; exact HCC.out.1) HI5.out HI6.out hK6
          exact ⟨_, _, _, _, _, _, m1, m2, m3⟩
      · go_simp
        have hS13 := keepAlloc4 (o := .cells #[.int .i64 bh] 3) hS6
        refine hK.out _ _ hS13 ?_
        try go_frame
        refine wpT_ready [5] (by kernel_rfl) (by simp) (by decide) ?_
        refine ReadyT.cons rfl (fun K hK => ?_) ReadyT.nil
        go_simp
        have hS5 := keepAlloc4 (o := .cells #[.slice lp ll lc] 23) hS13
        refine hK.out _ _ hS5 ?_
        try go_frame
        refine wpT_ready [6] (by kernel_rfl) (by simp) (by decide) ?_
        refine ReadyT.cons rfl (fun K hK => ?_) ReadyT.nil
        go_simp
        refine (HI1.out _ _ ?_ ?_ ?_).mono ?_
        · repeat (first | exact Upd.refl _ _ | refine Upd.drew ?_ | refine Upd.alloc ?_ _)
        · first | exact heap_alloc_new _ _ | exact heap_alloc2_old _ _ _ | exact heap_alloc2_new _ _ _
        · first | exact Nat.le_refl _ | (simp; done) | (simp; omega)
        rintro e w5 ⟨v5, rfl, ho5, ⟨wa, hxa, hn5, hU5⟩, hr5, hl5, hk5⟩
        obtain ⟨pa, pn, pc, rfl⟩ : ∃ pa pn pc, v5 = .slice pa pn pc := by
          obtain ⟨pa, pc, e, -⟩ := own_slice ho5
          exact ⟨pa, _, pc, e⟩
        have hSc : S4 w1.heap.size w3.heap.size (.slice lp ll lc) (.int .i64 bh) (.slice ak nk ck) (.slice (some ⟨gc, 0, none⟩) nc cc) w5 := ⟨one_cells hl5 1 _ rfl, one_cells hl5 2 _ rfl, one_cells hr5 1 _ rfl, one_cells hr5 3 _ rfl⟩
        have HU25 := Lib.hid ((hxa.ext (F := fun i => (Value.slice ak nk ck).ownBlock = some i)).trans hU5 (fun i e => .inl e))
        have HK5 := Lib.hid hk5
        have HR5 := Lib.hid (And.intro hr5 hl5)
        have hB5 := heap_lt hr5
        have HI5 := Lib.hid (And.intro ho5 (And.intro hxa (And.intro hn5 hU5)))
        clear ho5 hxa hn5 hU5 hr5 hl5 hk5
        dsimp only
        refine hK.out _ _ hSc ?_
        try go_frame
        refine wpT_take (i := 15) (v := ?vu14) rfl (by kernel_rfl) (by decide) (by kernel_rfl) (by kernel_rfl) (by kernel_rfl) (fun _ _ _ h => h) hSc (Or.inl ⟨by rfl, ?hyu14⟩) ?restu14
        case hyu14 => intro w _; go_simp; try with_reducible rfl
        try go_frame
        refine wpT_ready [14] (by kernel_rfl) (by simp) (by decide) ?_
        refine ReadyT.cons rfl (fun K hK => ?_) ReadyT.nil
        go_simp
        refine (HI2.out w5 _ _ HU25.out ?_ HR5.out ?_ ?_).mono ?_
        · repeat (first | exact Upd.refl _ _ | refine Upd.drew ?_ | refine Upd.alloc ?_ _)
        · first | exact HK5.out _ _ (by first | exact heap_alloc_new _ _ | exact heap_alloc2_old _ _ _ | exact heap_alloc2_new _ _ _) (by first | exact Nat.le_refl _ | (simp; done) | (simp; omega)) | exact heap_alloc_new _ _
        · first | exact Nat.le_refl _ | (simp; done) | (simp; omega) | (have := HU25.out.size; omega)
        rintro e w6 ⟨v6, rfl, ho6, ⟨wb, hxb, hn6, hU6⟩, hr6, hl6'⟩
        obtain ⟨qa, qn, qc, rfl⟩ : ∃ pa pn pc, v6 = .slice pa pn pc := by
          obtain ⟨pa, pc, e, -⟩ := own_slice ho6
          exact ⟨pa, _, pc, e⟩
        have hSd : S4 w1.heap.size w3.heap.size (.slice lp ll lc) (.int .i64 bh) (.slice ak nk ck) (.slice (some ⟨gc, 0, none⟩) nc cc) w6 := ⟨one_cells hl6' 1 _ rfl, one_cells hl6' 2 _ rfl, one_cells hr6 1 _ rfl, one_cells hr6 3 _ rfl⟩
        have u1 := one_cells hr6 1 _ rfl
        have u3 := one_cells hr6 3 _ rfl
        have uf1 : w6.frozen? ⟨w1.heap.size, 1, none⟩ = false := frozen_heap hr6
        have uf3 : w6.frozen? ⟨w1.heap.size, 3, none⟩ = false := frozen_heap hr6
        have HI6 := Lib.hid (And.intro ho6 (And.intro hxb (And.intro hn6 (And.intro hU6 hr6))))
        clear ho6 hxb hn6 hU6 hr6 hl6'
        dsimp only
        refine hK.out _ _ hSd ?_
        try go_frame
        refine wpT_done (by kernel_rfl) ?_
        simp only [List.drop_succ_cons, List.drop_zero]
        go_wp2_with fail
        go_meet
        obtain ⟨hap6, hr6, hres6, hUw6, h6, hl6, hK6⟩ := H6.out
        obtain ⟨m1, m2, m3⟩ := insC_meet hap6 (fun i hi => h6.lt hi) (by have := hUw6.size; have := HH.out.2.2.2.1; have := heap_lt hres6; omega) (by rw [← hap6.own.kl.1]; exact HCC.out.1) HI5.out HI6.out hK6
        exact ⟨_, _, _, _, _, _, m1, m2, m3⟩
    case rest =>
      obtain ⟨pa, pn, pc, qa, qn, qc, m1, m2, m3⟩ := hcut
      obtain ⟨hap6, hr6, hres6, hUw6, h6, hl6, hK6⟩ := H6.out
      obtain ⟨hat, hkd', htr, hc, hcl⟩ := HAT.out
      obtain ⟨ch1, ch2, ch3, hlen, hsub, bd1, bd2, hes⟩ := HCH.out
      have u0 := one_cells m1 0 _ rfl
      have u1 := one_cells m1 1 _ rfl
      have u2 := one_cells m1 2 _ rfl
      have u3 := one_cells m1 3 _ rfl
      have hBF : ¬ F' w1.heap.size := h6.not hr6 (by decide) (by decide) (by decide) (by decide) (by decide) (by decide)
      have hszw := hUw6.size
      have hs0 := HH.out.2.2.2.1
      have hB6 := heap_lt hr6
      have hall : ∀ i, ((Value.slice ak nk ck).ownBlock = some i ∨ (Value.slice (some ⟨gc, 0, none⟩) nc cc).ownBlock = some i ∨ i = w1.heap.size) → ¬ F' i ∧ w.heap.size < i ∧ ∀ cs fr, W6.heap[i]? ≠ some (.cells cs 5 fr) := by
        rintro i (e | e | e)
        · exact ⟨hap6.fk i e, by have := (hap6.own.kb i e).1; omega, fun cs fr => own_notByte hap6.own.k (by decide) i cs fr e⟩
        · exact ⟨hap6.fc i e, by have := hap6.own.cb i e; omega, fun cs fr => own_notByte hap6.own.c (by decide) i cs fr e⟩
        · subst e; exact ⟨hBF, HW1Z.out, fun cs fr e => by rw [hr6] at e; simp at e⟩
      have h7 := h6.upd m3 (fun i hi e => (hall i e).1 hi) (fun b cs fr e => (hall b e).2.2 cs fr)
      have hUw7 : Upd F w wc := hUw6.trans m3 (fun i e => .inr (Nat.le_of_lt (hall i e).2.1))
      have ht7 : TrRow wc t p root := hUw7.heap HT.out (HT.out.not HH.out.2.1)
      have hres7 := m3.heap hres6 (fun e => Nat.lt_irrefl _ (hall _ e).2.1)
      have hne1 : es1 ≠ [] := ht1.ne
      have hne2 : es2 ≠ [] := ht2.ne
      have hboun : ∀ t : List Ent, (∀ e ∈ t, e ∈ ins key v s.1) → (∀ k, x.keys[c]? = some k → ∀ e ∈ t, cmpB e.1 k < 0) ∧ (∀ j k, j + 1 = c → x.keys[j]? = some k → ∀ e ∈ t, 0 ≤ cmpB e.1 k) := fun t ht => hat.bounds HX.out.1 hc ht
      obtain ⟨b1, b2⟩ := hat.put2 (t := (es1, ps1)) (u := (es2, ps2)) (m := K) (k2 := bh) HX.out.1 HX.out.2.2.1 hh ⟨hb0, hb1⟩ hsub (fun k hk => by rw [hkd'] at hk; cases hk; exact ht1) ht2 hb2 hb3 hne1 hne2 hlo hhi (hboun es2 (fun e he => by rw [he12]; simp [he])).1 (hboun es1 (fun e he => by rw [he12]; simp [he])).2
      obtain ⟨x', hx'⟩ : ∃ x' : Nd, x' = { x with keys := x.keys.take c ++ K :: x.keys.drop c, kids := x.kids.take (c + 1) ++ bh :: x.kids.drop (c + 1) } := ⟨_, rfl⟩
      rw [← hx'] at m2 b1 b2
      rw [← he12, ← hes, ← hp12] at b1
      obtain ⟨ak', ck', av', cv', ac', cc2, j1, j2, j3, hnode⟩ := m2.own.node
      simp only [Value.slice.injEq] at j1 j2 j3
      obtain ⟨rfl, j1, rfl⟩ := j1
      obtain ⟨rfl, j2, rfl⟩ := j2
      obtain ⟨rfl, j3, rfl⟩ := j3
      have hlf : x'.leaf = false := by rw [hx']; exact HX.out.2.2.1
      have hk0' : x'.keys ≠ [] := by rw [hx']; simp
      have hcap : nsize x' ≤ capOf x' := by
        have := HX.out.2.2.2.2.1
        have e : capOf x' = 1269 := by simp [capOf, hlf]
        rw [e]; omega
      have hown' : Own2 σ' ([n] ++ (pgsOf L ++ ps' ++ pgsOf R)) := ch1.own
      have hlen2 : ps'.length ≤ s.2.length + h := hlen
      have hps := hat.ps
      have hroom' : 2 ≤ roomOf σ' := by
        have e1 := ch1.room
        rw [hps] at e1
        simp at e1
        omega
      have hlay := lay_tree ht7 h7 (by omega) n [n] (.inr ⟨hown'.on n (by simp), rfl⟩) hroom' pa av qa pc cv qc (kvs.take c ++ .slice lp ll lc :: kvs.drop c) vvs hnode b1 hcap hown'
      unfold nodeV at hlay
      rw [← j1, ← j2, ← j3, hlf] at hlay
      have HLAY := Lib.hid hlay
      have HC := Lib.hid (And.intro hUw7 (And.intro h7 (And.intro hres7 (And.intro hown' (And.intro hlen2 hps)))))
      have HK0 := Lib.hid hk0'
      clear hap6 hr6 hres6 hUw6 h6 hl6 hK6 hat hkd' htr hc hcl ch1 ch2 ch3 hlen hsub bd1 bd2 hes hBF hszw hs0 hall h7 hUw7 ht7 hres7 hne1 hne2 hboun b1 b2 hx' hnode hlf hk0' hcap hown' hlen2 hps hroom' hlay m1 m2 m3 j1 j2 j3 e1
      go_wp2_with fail
      refine HLAY.out.mono ?_
      rintro e w8 ⟨pg, kv', K', bh', σ2, C2, F2, ps2', rfl, g1, g2, g3, g4, g5, g6, g7, g8⟩
      obtain rfl := g5 trivial
      obtain ⟨kp', kc', rfl, -⟩ := g2.open
      obtain ⟨kl', hkl'⟩ : ∃ kl', kl' = K'.length := ⟨_, rfl⟩
      rw [← hkl'] at g2 ⊢
      obtain ⟨hUw7, h7, hres7, hown', hlen2, hps⟩ := HC.out
      have hres8 := g8.heap hres7 (h7.not hres7 (by decide) (by decide) (by decide) (by decide) (by decide) (by decide))
      have z0 := one_cells hres8 0 _ rfl
      have z1 := one_cells hres8 1 _ rfl
      have z2 := one_cells hres8 2 _ rfl
      have i0 : w8.frozen? ⟨w.heap.size, 0, none⟩ = false := frozen_heap hres8
      have i1 : w8.frozen? ⟨w.heap.size, 1, none⟩ = false := frozen_heap hres8
      have i2 : w8.frozen? ⟨w.heap.size, 2, none⟩ = false := frozen_heap hres8
      have HG := Lib.hid (And.intro g1 (And.intro g2 (And.intro g3 (And.intro g4 (And.intro g6 (And.intro g7 (And.intro g8 hres8)))))))
      clear g1 g2 g3 g4 g5 g6 g7 g8 hUw7 h7 hres7 hown' hlen2 hps hres8 hkl' u0 u1 u2 u3
      go_wp2_with fail
      refine bodyPost_ret (v := .tuple #[.agg #[.int .i64 pg, .slice kp' kl' kc', .int .i64 bh'], .int .i64 0]) (by simp [results, Tryz.results53, go_sem, z0, z1, z2]) rfl ?_
      obtain ⟨g1, g2, g3, g4, g6, g7, g8, hres8⟩ := HG.out
      obtain ⟨hUw7, h7, hres7, hown', hlen2, hps⟩ := HC.out
      have hszw := hUw7.size
      have hF'w := H4.out.2.2.2.2.2.1
      refine put_end (hUw7.trans g8 hF'w) g1 (by omega) g2 (g3.tree HK0.out) (HCH.out.1.trans g4) ?_ (fun i hi => (g7 i hi).elim (hF'w i) (fun e => .inr (by omega))) hres8
      rw [hps]
      simp at g6 ⊢
      omega
end Go.Proofs.YtecfhfddgolpfaaGreat
