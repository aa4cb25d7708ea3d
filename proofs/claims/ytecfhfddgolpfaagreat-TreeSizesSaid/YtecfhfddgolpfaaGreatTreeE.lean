/- The tree's walks: put into a leaf, a new key. -/
import Derived.Test.YtecfhfddgolpfaaGreatTreeD
namespace Go.Proofs.YtecfhfddgolpfaaGreat
open Go.RowKit
variable {w w' : World} {F G : Nat → Prop} {p nf pool dn N t : Nat} {σ : List Int} {C : Int → Bytes} {h : Nat} {x : Nd} {es : List Ent} {ps : List Int}

theorem NAp.insKV {B k : Nat} {F1 : Nat → Prop} {sk sv sc sk' sv' kv vv : Value} {kvs vvs : List Value} {key v : Bytes} {w2 wa w5 wb w6 : World} (ha : NAp w2 B F1 sk sv sc kvs vvs x) (hF : ∀ i, F1 i → i < w2.heap.size) (hB : B ≤ w2.heap.size) (hkk : k ≤ x.keys.length) (hkv : k ≤ x.vals.length)
    (hxa : Ext w2 wa) (ho1 : Own w5 23 sk' (kvs.take k ++ kv :: kvs.drop k)) (hn1 : Nw wa sk sk') (hU1 : Upd (fun i => sk.ownBlock = some i) wa w5)
    (hxb : Ext w5 wb) (ho2 : Own w6 23 sv' (vvs.take k ++ vv :: vvs.drop k)) (hn2 : Nw wb sv sv') (hU2 : Upd (fun i => sv.ownBlock = some i) wb w6) (hkey : Bts w2 kv key) (hval : Bts w2 vv v) :
    NAp w6 B F1 sk' sv' sc (kvs.take k ++ kv :: kvs.drop k) (vvs.take k ++ vv :: vvs.drop k) { x with keys := x.keys.take k ++ key :: x.keys.drop k, vals := x.vals.take k ++ v :: x.vals.drop k } ∧ Upd (fun i => sk.ownBlock = some i ∨ sv.ownBlock = some i) w2 w6 := by
  have ho := ha.own
  have s1 := hxa.size
  have s2 := hU1.size
  have s3 := hxb.size
  have s4 := hU2.size
  have lk : ∀ i, sk.ownBlock = some i → i < w2.heap.size := fun i hi => own_lt ho.k hi
  have lv : ∀ i, sv.ownBlock = some i → i < w2.heap.size := fun i hi => own_lt ho.v hi
  have lk' : ∀ i, sk'.ownBlock = some i → i < w5.heap.size := fun i hi => own_lt ho1 hi
  have hU : Upd (fun i => sk.ownBlock = some i ∨ sv.ownBlock = some i) w2 w6 :=
    (((hxa.ext).trans hU1 (fun i e => .inl (.inl e))).andExt hxb).trans hU2 (fun i e => .inl (.inr e))
  have hnb : ∀ b cs fr, (sk.ownBlock = some b ∨ sv.ownBlock = some b) → w2.heap[b]? ≠ some (.cells cs 5 fr) := by
    rintro b cs fr (e | e)
    · exact own_notByte ho.k (by decide) b cs fr e
    · exact own_notByte ho.v (by decide) b cs fr e
  have hne : ∀ i, sk'.ownBlock = some i → sv.ownBlock ≠ some i := fun i hi e => by
    rcases hn1 i hi with a | a
    · exact (ho.kb i a).2 e
    · have := lv i e; omega
  refine ⟨⟨⟨own_ext (own_ext ho1 hxb (fun _ _ f => f)) hU2 (fun i hi e => hne i hi e), ?_, ho2, ?_, own_ext ho.c hU ?_, fun i hi => ⟨?_, fun e => ?_⟩, fun i hi => ?_, ho.cb⟩, fun i hi e => ?_, fun i hi e => ?_, ha.fc⟩, hU⟩
  · exact BtsL.ins (ho.kl.upd hU hnb) (hkey.upd hU hnb) k hkk
  · exact BtsL.ins (ho.vl.upd hU hnb) (hval.upd hU hnb) k hkv
  · rintro i hi (e | e)
    · obtain ⟨c1, h1⟩ := ownN_type ho.c hi
      obtain ⟨c2, h2⟩ := ownN_type ho.k e
      rw [h1] at h2; simp at h2
    · obtain ⟨c1, h1⟩ := ownN_type ho.c hi
      obtain ⟨c2, h2⟩ := ownN_type ho.v e
      rw [h1] at h2; simp at h2
  · rcases hn1 i hi with a | a
    · exact (ho.kb i a).1
    · omega
  · rcases hn2 i e with a | a
    · exact hne i hi a
    · have := lk' i hi; omega
  · rcases hn2 i hi with a | a
    · exact ho.vb i a
    · omega
  · rcases hn1 i hi with a | a
    · exact ha.fk i a e
    · have := hF i e; omega
  · rcases hn2 i hi with a | a
    · exact ha.fv i a e
    · have := hF i e; omega
theorem ins_meet {B Bv k : Nat} {F1 : Nat → Prop} {lf sk sv sc sk' sv' kv vv : Value} {kvs vvs : List Value} {key v : Bytes} {w2 wa w5 wb w6 : World} (ha : NAp w2 B F1 sk sv sc kvs vvs x) (hF : ∀ i, F1 i → i < w2.heap.size) (hB : B ≤ w2.heap.size) (hkk : k ≤ x.keys.length) (hkv : k ≤ x.vals.length)
    (h5 : Own w5 23 sk' (kvs.take k ++ kv :: kvs.drop k) ∧ Ext w2 wa ∧ Nw wa sk sk' ∧ Upd (fun i => sk.ownBlock = some i) wa w5)
    (h6 : Own w6 23 sv' (vvs.take k ++ vv :: vvs.drop k) ∧ Ext w5 wb ∧ Nw wb sv sv' ∧ Upd (fun i => sv.ownBlock = some i) wb w6 ∧ w6.heap[Bv]? = some (.cells #[lf, sk, sv, sc] 144 (0, 0))) (hkey : Bts w2 kv key) (hval : Bts w2 vv v) :
    ((w6.setCell ⟨Bv, 1, none⟩ sk').setCell ⟨Bv, 2, none⟩ sv').heap[Bv]? = some (.cells #[lf, sk', sv', sc] 144 (0, 0)) ∧
    NAp ((w6.setCell ⟨Bv, 1, none⟩ sk').setCell ⟨Bv, 2, none⟩ sv') B F1 sk' sv' sc (kvs.take k ++ kv :: kvs.drop k) (vvs.take k ++ vv :: vvs.drop k) { x with keys := x.keys.take k ++ key :: x.keys.drop k, vals := x.vals.take k ++ v :: x.vals.drop k } ∧
    Upd (fun i => sk.ownBlock = some i ∨ sv.ownBlock = some i ∨ i = Bv) w2 ((w6.setCell ⟨Bv, 1, none⟩ sk').setCell ⟨Bv, 2, none⟩ sv') := by
  obtain ⟨ho1, hxa, hn1, hU1⟩ := h5
  obtain ⟨ho2, hxb, hn2, hU2, hr6⟩ := h6
  obtain ⟨hA, hUA⟩ := ha.insKV hF hB hkk hkv hxa ho1 hn1 hU1 hxb ho2 hn2 hU2 hkey hval
  have hUs : Upd (fun i => i = Bv) w6 ((w6.setCell ⟨Bv, 1, none⟩ sk').setCell ⟨Bv, 2, none⟩ sv') :=
    ((Upd.refl (fun i => i = Bv) w6).setCell (p := ⟨Bv, 1, none⟩) _ (.inl rfl)).setCell (p := ⟨Bv, 2, none⟩) _ (.inl rfl)
  have e1 := heap_setCell_same w6 Bv 1 _ _ sk' hr6
  have e2 := heap_setCell_same _ Bv 2 _ _ sv' e1
  have ne : ∀ i cur, w6.heap[i]? = some (.cells cur 23 (0, 0)) → i ≠ Bv := fun i cur h e => by rw [e, hr6] at h; simp at h
  have ne2 : ∀ i cur, w6.heap[i]? = some (.cells cur 3 (0, 0)) → i ≠ Bv := fun i cur h e => by rw [e, hr6] at h; simp at h
  refine ⟨by rw [e2]; rfl, hA.upd hUs (fun i hi => ?_) (fun i hi => ?_) (fun i hi => ?_) (by rintro b cs fr rfl e; rw [hr6] at e; simp at e), (hUA.mono (fun i _ e => e.elim .inl (fun e => .inr (.inl e)))).trans hUs (fun i e => .inl (.inr (.inr e)))⟩
  · obtain ⟨c, h⟩ := ownN_type hA.own.k hi
    exact ne i c h
  · obtain ⟨c, h⟩ := ownN_type hA.own.v hi
    exact ne i c h
  · obtain ⟨c, h⟩ := ownN_type hA.own.c hi
    exact ne2 i c h
set_option maxRecDepth 100000 in
set_option maxHeartbeats 8000000 in
theorem put_leaf_miss {root : Int} (ht : TrRow w t p root) (h1 : Pgs w F p nf pool dn σ C N) (hN : N + 30 ≤ 1000000000) (n : Int) (hn : stOf σ n = 2) (hroom : 2 ≤ roomOf σ) (hC : C n = page x) (hsz : nsize x ≤ 1024) (hb : Body (Tree C 0) 0 x es []) (hl : x.leaf = true) (hk0 : x.keys ≠ [])
    (deep : Int) (hd : deep ≤ 20) (kv vv : Value) (key v : Bytes) (hkey : Bts w kv key) (hval : Bts w vv v) (hk1 : 1 ≤ key.length) (hk2 : key.length ≤ 240) (hv : v.length ≤ 260) (hf : ¬ ∃ h : fk x.keys key < x.keys.length, x.keys[fk x.keys key] = key) :
    Calls Tryz.prog 53 #[.pointer (some ⟨t, 0, none⟩), .int .i64 n, .int .i64 deep, kv, vv] w (PutPost w F p nf pool dn σ C (N + 30) 1 n (ins key v es) [n] 1) := by
  have hx := hb.shaped
  have hsm := hx.small (by omega)
  obtain ⟨kp, kc, rfl, -⟩ := hkey.open
  obtain ⟨vp, vc, rfl, -⟩ := hval.open
  obtain ⟨kl, hkl⟩ : ∃ kl, kl = key.length := ⟨_, rfl⟩
  obtain ⟨vl, hvl⟩ : ∃ vl, vl = v.length := ⟨_, rfl⟩
  rw [← hkl] at hkey ⊢
  rw [← hvl] at hval ⊢
  obtain ⟨W0, hW0⟩ : ∃ W0, W0 = w.alloc (.cells #[.int .i64 0, .slice none 0 0, .int .i64 0] 140) := ⟨_, rfl⟩
  have hx0 : Ext w W0 := by rw [hW0]; exact (Upd.refl _ w).alloc _
  have hs0 : W0.heap.size = w.heap.size + 1 := by rw [hW0]; simp
  have hl0 : W0.heap[w.heap.size]? = some (.cells #[.int .i64 0, .slice none 0 0, .int .i64 0] 140 (0, 0)) := by rw [hW0]; exact heap_alloc_new w _
  have ht0 : TrRow W0 t p root := hx0.heap ht (fun f => f)
  have hrd := read_tree ht0 (h1.ext hx0) (by omega) n (.inr hn) x hC hx hsz deep hd
  rw [hl] at hrd
  have HRD := Lib.hid hrd
  have HH := Lib.hid (And.intro ht0 (And.intro h1 (And.intro hx0 (And.intro hs0 (And.intro hl0 hW0)))))
  have HB := Lib.hid hb
  have HT := Lib.hid ht
  have HFL := Lib.hid (fun i (hi : F i) => h1.lt hi)
  have HX := Lib.hid (And.intro hx (And.intro hsm (And.intro hl (And.intro hk0 (And.intro hsz hC)))))
  have HK := Lib.hid (And.intro hkey (And.intro hval (And.intro hkl hvl)))
  have HF := Lib.hid hf
  have HVL := Lib.hid (And.intro hk1 (And.intro hk2 hv))
  have HN := Lib.hid hn
  clear ht h1 hx0 hs0 hl0 ht0 hrd hb hx hsm hl hk0 hkey hval hkl hvl hsz hC hW0 hf hn
  go_enter Tryz.func53, Tryz.ntmps53
  go_wp2_with fail
  rw [← HH.out.2.2.2.2.2]
  refine HRD.out.mono ?_
  rintro e w1 ⟨F1, sk, sv, sc, kvs, vvs, rfl, hap, h2, hF1, hU1⟩
  obtain ⟨ht0, h1, hx0, hs0, hl0, hW0⟩ := HH.out
  obtain ⟨hkey, hval, hkl, hvl⟩ := HK.out
  have hlen := (HX.out.1.leafv HX.out.2.2.1).1
  have hvv0 : 0 < vvs.length := by
    rw [hap.own.vl.1, hlen]
    exact List.length_pos_iff.2 HX.out.2.2.2.1
  obtain ⟨gv, cv, cur, rfl, hgv, -⟩ := own_open hap.own.v hvv0
  obtain ⟨ak, ck, av, cv', ac, cc, rfl, e2, rfl, hnode⟩ := hap.own.node
  have hvn : vvs.length = x.vals.length := hap.own.vl.1
  obtain ⟨nk, hnk⟩ : ∃ nk, nk = x.keys.length := ⟨_, rfl⟩
  obtain ⟨nv, hnv⟩ : ∃ nv, nv = vvs.length := ⟨_, rfl⟩
  obtain ⟨nc, hnc⟩ : ∃ nc, nc = x.kids.length := ⟨_, rfl⟩
  rw [← hnk, ← hnv, ← hnc] at hap ⊢
  obtain ⟨k, hk⟩ : ∃ k, k = fk x.keys key := ⟨_, rfl⟩
  obtain ⟨W1, hW1⟩ : ∃ W1, W1 = w1.alloc (.cells #[.bool true, .slice ak nk ck, .slice (some ⟨gv, 0, none⟩) nv cv, .slice ac nc cc] 144) := ⟨_, rfl⟩
  have hx1 : Ext w1 W1 := by rw [hW1]; exact (Upd.refl _ w1).alloc _
  have hr1 : W1.heap[w1.heap.size]? = some (.cells #[.bool true, .slice ak nk ck, .slice (some ⟨gv, 0, none⟩) nv cv, .slice ac nc cc] 144 (0, 0)) := by rw [hW1]; exact heap_alloc_new w1 _
  have y0 := one_cells hr1 0 _ rfl
  have y1 := one_cells hr1 1 _ rfl
  have y2 := one_cells hr1 2 _ rfl
  have y3 := one_cells hr1 3 _ rfl
  have hUw : Upd F w W1 := ((hx0.ext).trans hU1 (fun i e => .inl e)).andExt hx1
  have hfd := find_any (.bool true) (.slice (some ⟨gv, 0, none⟩) nv cv) (.slice ac nc cc) (.slice ak nk ck) kvs (.slice kp kl kc) x.keys key W1 (own_rd (hap.ext hx1).own.k) (hap.ext hx1).own.kl (hkey.upd hUw h1.notByte) HX.out.1.srt (by have := HX.out.2.1.n; omega)
  rw [decide_eq_false HF.out, ← hk] at hfd
  have hfl : k ≤ nk := by have := fk_le x.keys key; omega
  have hgvl : gv < w1.heap.size := heap_lt hgv
  have HFD := Lib.hid hfd
  have HA := Lib.hid (And.intro (hap.ext hx1) (And.intro (h2.ext hx1) (And.intro hF1 (And.intro hU1 (And.intro hx1 (And.intro hr1 hUw))))))
  have HL := Lib.hid (And.intro hnk (And.intro hnv (And.intro hnc (And.intro hvn (And.intro hlen hk)))))
  have HW1 := Lib.hid hW1
  have hne : w1.heap.size ≠ gv := by omega
  rw [hW1] at y0 y1 y2 y3
  have hkn : k ≤ nv := by omega
  clear ht0 h1 hx0 hs0 hl0 hW0 hkey hval hkl hvl hlen hvv0 hgv e2 hnode hvn hap h2 hF1 hU1 hnk hnv hnc hk hx1 hr1 hUw hfd hW1
  go_wp2_with fail
  rw [← HW1.out]
  refine HFD.out.mono ?_
  rintro e w2 ⟨rfl, hU2⟩
  obtain ⟨hap, h2, hF1, hU1, hx1, hr1, hUw⟩ := HA.out
  have hap2 := hap.ext hU2
  have hr2 := hU2.heap hr1 (fun f => f)
  have y0' := one_cells hr2 0 _ rfl
  have y1' := one_cells hr2 1 _ rfl
  have y2' := one_cells hr2 2 _ rfl
  have y3' := one_cells hr2 3 _ rfl
  have hUw2 := hUw.andExt hU2
  have hkey2 := HK.out.1.upd hUw2 HH.out.2.1.notByte
  have hval2 := HK.out.2.1.upd hUw2 HH.out.2.1.notByte
  have hB2 : w1.heap.size < w2.heap.size := heap_lt hr2
  have hsk2 : ∀ i, (Value.slice ak nk ck).ownBlock = some i → i < w2.heap.size ∧ i ≠ w1.heap.size := fun i hi => by
    obtain ⟨cur, hc⟩ := ownN_type hap2.own.k hi
    exact ⟨heap_lt hc, fun e => by rw [e, hr2] at hc; simp at hc⟩
  have hsv2 : ∀ i, (Value.slice (some ⟨gv, 0, none⟩) nv cv).ownBlock = some i → i < w2.heap.size ∧ i ≠ w1.heap.size := fun i hi => by
    obtain ⟨cur, hc⟩ := ownN_type hap2.own.v hi
    exact ⟨heap_lt hc, fun e => by rw [e, hr2] at hc; simp at hc⟩
  have hlk : kvs.length ≤ 1000000000 := by rw [hap2.own.kl.1]; have := HX.out.2.1.n; omega
  have hlv : vvs.length ≤ 1000000000 := by rw [hap2.own.vl.1]; have := HX.out.2.1.vn; omega
  have hkk : k ≤ kvs.length := by rw [hap2.own.kl.1]; have := HL.out.1; omega
  have hkv : k ≤ vvs.length := by have := HL.out.2.1; omega
  have hi1 : ∀ wz vb, Ext w2 wz → wz.heap[vb]? = some (.cells #[.slice kp kl kc] 23 (0, 0)) → w2.heap.size ≤ vb →
      Calls Tryz.prog 76 #[.slice ak nk ck, .int .i64 k, .slice (some ⟨vb, 0, none⟩) 1 1] wz fun e w' => ∃ v', e = .returned v' ∧ Own w' 23 v' (kvs.take k ++ .slice kp kl kc :: kvs.drop k) ∧ (∃ wa, Ext w2 wa ∧ Nw wa (.slice ak nk ck) v' ∧ Upd (fun i => (Value.slice ak nk ck).ownBlock = some i) wa w') ∧
        w'.heap[w1.heap.size]? = some (.cells #[.bool true, .slice ak nk ck, .slice (some ⟨gv, 0, none⟩) nv cv, .slice ac nc cc] 144 (0, 0)) ∧ ∀ i o, wz.heap[i]? = some o → w2.heap.size ≤ i → w'.heap[i]? = some o := by
    intro wz vb hz hh hv
    refine (insB_any _ kvs k vb _ wz (own_ext hap2.own.k hz (fun _ _ f => f)) hkk hlk hh (fun e => by have := (hsk2 vb e).1; omega) (bts_one hap2.own.kl) rfl).mono ?_
    rintro e w' ⟨v', rfl, a, b, c⟩
    exact ⟨v', rfl, a, ⟨wz, hz, b, c⟩, c.heap (hz.heap hr2 (fun f => f)) (fun e => (hsk2 _ e).2 rfl), fun i o hi hl => c.heap hi (fun e => by have := (hsk2 i e).1; omega)⟩
  have hi2 : ∀ w5 wz vb, Upd (fun i => (Value.slice ak nk ck).ownBlock = some i) w2 w5 → Ext w5 wz → w5.heap[w1.heap.size]? = some (.cells #[.bool true, .slice ak nk ck, .slice (some ⟨gv, 0, none⟩) nv cv, .slice ac nc cc] 144 (0, 0)) → wz.heap[vb]? = some (.cells #[.slice vp vl vc] 23 (0, 0)) → w2.heap.size ≤ vb →
      Calls Tryz.prog 76 #[.slice (some ⟨gv, 0, none⟩) nv cv, .int .i64 k, .slice (some ⟨vb, 0, none⟩) 1 1] wz fun e w' => ∃ v', e = .returned v' ∧ Own w' 23 v' (vvs.take k ++ .slice vp vl vc :: vvs.drop k) ∧ (∃ wb, Ext w5 wb ∧ Nw wb (.slice (some ⟨gv, 0, none⟩) nv cv) v' ∧ Upd (fun i => (Value.slice (some ⟨gv, 0, none⟩) nv cv).ownBlock = some i) wb w') ∧
        w'.heap[w1.heap.size]? = some (.cells #[.bool true, .slice ak nk ck, .slice (some ⟨gv, 0, none⟩) nv cv, .slice ac nc cc] 144 (0, 0)) := by
    intro w5 wz vb h5 hz hr5 hh hv
    refine (insB_any _ vvs k vb _ wz (own_ext (own_ext hap2.own.v h5 (fun i hi e => (hap2.own.kb i e).2 hi)) hz (fun _ _ f => f)) hkv hlv hh (fun e => by have := (hsv2 vb e).1; omega) (bts_one hap2.own.vl) rfl).mono ?_
    rintro e w' ⟨v', rfl, a, b, c⟩
    exact ⟨v', rfl, a, ⟨wz, hz, b, c⟩, c.heap (hz.heap hr5 (fun f => f)) (fun e => (hsv2 _ e).2 rfl)⟩
  have HI1 := Lib.hid hi1
  have HI2 := Lib.hid hi2
  have HSK := Lib.hid (And.intro hsk2 hsv2)
  have H2 := Lib.hid (And.intro hap2 (And.intro hr2 (And.intro hUw2 (And.intro hkey2 (And.intro hval2 (And.intro (h2.ext hU2) (And.intro hkk hkv)))))))
  have HSUB := Lib.hid (And.intro hF1 (And.intro hU1 (And.intro hx1 hU2)))
  clear hap h2 hF1 hU1 hx1 hr1 hUw hap2 hr2 hUw2 hkey2 hval2 hsk2 hsv2 hlk hlv hkk hkv hi1 hi2 hU2 y0 y1 y2 y3
  go_upto_region 8 with fail
  go_cut [] (fun wx => ∃ pa pn pc qa qn qc, wx.heap[w1.heap.size]? = some (.cells #[.bool true, .slice pa pn pc, .slice qa qn qc, .slice ac nc cc] 144 (0, 0)) ∧ NAp wx W0.heap.size F1 (.slice pa pn pc) (.slice qa qn qc) (.slice ac nc cc) (kvs.take k ++ .slice kp kl kc :: kvs.drop k) (vvs.take k ++ .slice vp vl vc :: vvs.drop k) { x with keys := x.keys.take k ++ key :: x.keys.drop k, vals := x.vals.take k ++ v :: x.vals.drop k } ∧
    Upd (fun i => (Value.slice ak nk ck).ownBlock = some i ∨ (Value.slice (some ⟨gv, 0, none⟩) nv cv).ownBlock = some i ∨ i = w1.heap.size) w2 wx)
  case first =>
    go_region_law (
      (go_simp
       go_at_call 76
       first
       | ((with_reducible refine (HI2.out w5 _ _ HU25.out ?_ HR5.out ?_ ?_).mono ?_)
          · repeat (first | exact Upd.refl _ _ | refine Upd.drew ?_ | refine Upd.alloc ?_ _)
          · first | exact HK5.out _ _ (by first | exact heap_alloc_new _ _ | exact heap_alloc2_old _ _ _ | exact heap_alloc2_new _ _ _) (by first | exact Nat.le_refl _ | omega) | exact heap_alloc_new _ _
          · first | exact Nat.le_refl _ | omega | (have := HU25.out.size; omega)
          rintro e w6 ⟨v6, rfl, ho6, ⟨wb, hxb, hn6, hU6⟩, hr6⟩
          obtain ⟨qa, qn, qc, rfl⟩ : ∃ pa pn pc, v6 = .slice pa pn pc := by
            obtain ⟨pa, pc, e, -⟩ := own_slice ho6
            exact ⟨pa, _, pc, e⟩
          have u0 := one_cells hr6 0 _ rfl
          have u1 := one_cells hr6 1 _ rfl
          have u2 := one_cells hr6 2 _ rfl
          have u3 := one_cells hr6 3 _ rfl
          have uf0 : w6.frozen? ⟨w1.heap.size, 0, none⟩ = false := frozen_heap hr6
          have uf1 : w6.frozen? ⟨w1.heap.size, 1, none⟩ = false := frozen_heap hr6
          have uf2 : w6.frozen? ⟨w1.heap.size, 2, none⟩ = false := frozen_heap hr6
          have uf3 : w6.frozen? ⟨w1.heap.size, 3, none⟩ = false := frozen_heap hr6
          have HI6 := Lib.hid (And.intro ho6 (And.intro hxb (And.intro hn6 (And.intro hU6 hr6))))
          clear ho6 hxb hn6 hU6 hr6)
       | ((with_reducible refine (HI1.out _ _ ?_ ?_ ?_).mono ?_)
          · repeat (first | exact Upd.refl _ _ | refine Upd.drew ?_ | refine Upd.alloc ?_ _)
          · first | exact heap_alloc_new _ _ | exact heap_alloc2_old _ _ _ | exact heap_alloc2_new _ _ _
          · first | exact Nat.le_refl _ | omega
          rintro e w5 ⟨v5, rfl, ho5, ⟨wa, hxa, hn5, hU5⟩, hr5, hk5⟩
          obtain ⟨pa, pn, pc, rfl⟩ : ∃ pa pn pc, v5 = .slice pa pn pc := by
            obtain ⟨pa, pc, e, -⟩ := own_slice ho5
            exact ⟨pa, _, pc, e⟩
          have r2 := one_cells hr5 2 _ rfl
          have HU25 := Lib.hid ((hxa.ext (F := fun i => (Value.slice ak nk ck).ownBlock = some i)).trans hU5 (fun i e => .inl e))
          have HK5 := Lib.hid hk5
          have HR5 := Lib.hid hr5
          have hB5 := heap_lt hr5
          have HI5 := Lib.hid (And.intro ho5 (And.intro hxa (And.intro hn5 hU5)))
          clear ho5 hxa hn5 hU5 hr5 hk5)
       dsimp only))
    all_goals
      go_wp2_with fail
      go_meet
      obtain ⟨hap2, hr2, hUw2, hkey2, hval2, h2, hkk, hkv⟩ := H2.out
      obtain ⟨m1, m2, m3⟩ := ins_meet hap2 (fun i hi => h2.lt hi) (by have := heap_lt hr2; have := HSUB.out.2.1.size; have := HSUB.out.2.2.1.size; have := HSUB.out.2.2.2.size; omega) (by rw [← hap2.own.kl.1]; exact hkk) (by rw [← hap2.own.vl.1]; exact hkv) HI5.out HI6.out hkey2 hval2
      exact ⟨_, _, _, _, _, _, m1, m2, m3⟩
  case rest =>
    obtain ⟨pa, pn, pc, qa, qn, qc, m1, m2, m3⟩ := hcut
    obtain ⟨hap2, hr2, hUw2, hkey2, hval2, h2, hkk, hkv⟩ := H2.out
    obtain ⟨hF1, hU1, hx1, hU2⟩ := HSUB.out
    have u0 := one_cells m1 0 _ rfl
    have u1 := one_cells m1 1 _ rfl
    have u2 := one_cells m1 2 _ rfl
    have u3 := one_cells m1 3 _ rfl
    have lw2 : ∀ i, (Value.slice ak nk ck).ownBlock = some i → ¬ F1 i := hap2.fk
    have hres1 : w1.heap[w.heap.size]? = some (.cells #[.int .i64 0, .slice none 0 0, .int .i64 0] 140 (0, 0)) := hU1.heap HH.out.2.2.2.2.1 (fun e => by have := HFL.out _ e; omega)
    have hres2 := hU2.heap (hx1.heap hres1 (fun f => f)) (fun f => f)
    have hw1z : w1.heap.size ≠ w.heap.size := by have := heap_lt hres1; omega
    have hrne : ∀ i cur, w2.heap[i]? = some (.cells cur 23 (0, 0)) → w.heap.size ≠ i := fun i cur h e => by rw [← e, hres2] at h; simp at h
    have hnF : ¬ ((Value.slice ak nk ck).ownBlock = some w.heap.size ∨ (Value.slice (some ⟨gv, 0, none⟩) nv cv).ownBlock = some w.heap.size ∨ w.heap.size = w1.heap.size) := by
      rintro (e | e | e)
      · obtain ⟨c, h⟩ := ownN_type hap2.own.k e; exact hrne _ c h rfl
      · obtain ⟨c, h⟩ := ownN_type hap2.own.v e; exact hrne _ c h rfl
      · exact hw1z e.symm
    have hres3 := m3.heap hres2 hnF
    have hBF : ¬ F1 w1.heap.size := h2.not hr2 (by decide) (by decide) (by decide) (by decide) (by decide) (by decide)
    have hall : ∀ i, ((Value.slice ak nk ck).ownBlock = some i ∨ (Value.slice (some ⟨gv, 0, none⟩) nv cv).ownBlock = some i ∨ i = w1.heap.size) → ¬ F1 i ∧ w.heap.size ≤ i ∧ ∀ cs fr, w2.heap[i]? ≠ some (.cells cs 5 fr) := by
      rintro i (e | e | e)
      · exact ⟨hap2.fk i e, by have := (hap2.own.kb i e).1; have := HH.out.2.2.2.1; omega, fun cs fr => own_notByte hap2.own.k (by decide) i cs fr e⟩
      · exact ⟨hap2.fv i e, by have := hap2.own.vb i e; have := HH.out.2.2.2.1; omega, fun cs fr => own_notByte hap2.own.v (by decide) i cs fr e⟩
      · subst e; exact ⟨hBF, by have := heap_lt hres1; omega, fun cs fr e => by rw [hr2] at e; simp at e⟩
    have h3 := h2.upd m3 (fun i hi e => (hall i e).1 hi) (fun b cs fr e => (hall b e).2.2 cs fr)
    have hUw3 : Upd F w wc := hUw2.trans m3 (fun i e => .inr (hall i e).2.1)
    have ht3 : TrRow wc t p root := hUw3.heap HT.out (HT.out.not HH.out.2.1)
    obtain ⟨b1, b2⟩ := leaf_miss HB.out HX.out.2.2.1 HVL.out.1 HVL.out.2.1 HVL.out.2.2 HF.out
    rw [← HL.out.2.2.2.2.2] at b1 b2
    obtain ⟨x', hx'⟩ : ∃ x' : Nd, x' = { x with keys := x.keys.take k ++ key :: x.keys.drop k, vals := x.vals.take k ++ v :: x.vals.drop k } := ⟨_, rfl⟩
    rw [← hx'] at m2 b1 b2
    obtain ⟨ak', ck', av', cv', ac', cc', j1, j2, j3, hnode⟩ := m2.own.node
    simp only [Value.slice.injEq] at j1 j2 j3
    obtain ⟨rfl, j1, rfl⟩ := j1
    obtain ⟨rfl, j2, rfl⟩ := j2
    obtain ⟨rfl, j3, rfl⟩ := j3
    have hlf : x'.leaf = true := by rw [hx']; exact HX.out.2.2.1
    have hk0' : x'.keys ≠ [] := by rw [hx']; simp
    have hcap : nsize x' ≤ capOf x' := by
      have := HX.out.2.2.2.2.1
      have e : capOf x' = 1527 := by simp [capOf, hlf]
      rw [e]; omega
    have hlay := lay_tree ht3 h3 (by omega) n [n] (.inr ⟨HN.out, rfl⟩) hroom pa qa ac pc qc cc (kvs.take k ++ .slice kp kl kc :: kvs.drop k) (vvs.take k ++ .slice vp vl vc :: vvs.drop k) hnode b1 hcap ⟨by simp, fun m hm => by simp at hm; rw [hm]; exact HN.out⟩
    unfold nodeV at hlay
    rw [← j1, ← j2, ← j3, hlf] at hlay
    have HLAY := Lib.hid hlay
    have HC := Lib.hid (And.intro hUw3 (And.intro h3 hres3))
    have HK0 := Lib.hid hk0'
    clear hap2 hr2 hUw2 hkey2 hval2 h2 hkk hkv hF1 hU1 hx1 hU2 lw2 hres1 hres2 hrne hnF hres3 hBF hall h3 hUw3 ht3 b1 b2 hx' hnode hlf hk0' hcap hlay m1 m2 m3 j1 j2 j3
    go_wp2_with fail
    refine HLAY.out.mono ?_
    rintro e w4 ⟨pg, kv', K, bh, σ', C', F', ps', rfl, g1, g2, g3, g4, g5, g6, g7, g8⟩
    obtain rfl := g5 trivial
    obtain ⟨kp', kc', rfl, -⟩ := g2.open
    obtain ⟨kl', hkl'⟩ : ∃ kl', kl' = K.length := ⟨_, rfl⟩
    rw [← hkl'] at g2 ⊢
    obtain ⟨hUw3, h3, hres3⟩ := HC.out
    have hres4 := g8.heap hres3 (h3.not hres3 (by decide) (by decide) (by decide) (by decide) (by decide) (by decide))
    have z0 := one_cells hres4 0 _ rfl
    have z1 := one_cells hres4 1 _ rfl
    have z2 := one_cells hres4 2 _ rfl
    have i0 : w4.frozen? ⟨w.heap.size, 0, none⟩ = false := frozen_heap hres4
    have i1 : w4.frozen? ⟨w.heap.size, 1, none⟩ = false := frozen_heap hres4
    have i2 : w4.frozen? ⟨w.heap.size, 2, none⟩ = false := frozen_heap hres4
    have HG := Lib.hid (And.intro g1 (And.intro g2 (And.intro g3 (And.intro g4 (And.intro g6 (And.intro g7 (And.intro g8 hres4)))))))
    clear g1 g2 g3 g4 g5 g6 g7 g8 hUw3 h3 hres3 hres4 hkl' u0 u1 u2 u3
    go_wp2_with fail
    refine bodyPost_ret (v := .tuple #[.agg #[.int .i64 pg, .slice kp' kl' kc', .int .i64 bh], .int .i64 0]) (by simp [results, Tryz.results53, go_sem, z0, z1, z2]) rfl ?_
    obtain ⟨g1, g2, g3, g4, g6, g7, g8, hres4⟩ := HG.out
    obtain ⟨hUw3, h3, hres3⟩ := HC.out
    obtain ⟨hF1, hU1, hx1, hU2⟩ := HSUB.out
    have hsz0 := HH.out.2.2.2.1
    have hszw := hUw3.size
    have hF1' : ∀ i, F1 i → F i ∨ w.heap.size ≤ i := fun i hi => (hF1 i hi).imp id (fun e => by omega)
    exact put_end (hUw3.trans g8 (fun i e => hF1' i e)) g1 (by omega) g2 (g3.tree HK0.out) g4 (by simpa using g6) (fun i hi => (g7 i hi).elim (hF1' i) (fun e => .inr (by omega))) hres4
end Go.Proofs.YtecfhfddgolpfaaGreat
