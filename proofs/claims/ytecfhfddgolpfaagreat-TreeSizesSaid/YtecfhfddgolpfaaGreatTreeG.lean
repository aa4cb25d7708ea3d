/- The tree's walks: put under any page; Height, Need, room. -/
import Derived.Test.YtecfhfddgolpfaaGreatTreeE
import Derived.Test.YtecfhfddgolpfaaGreatTreeF
namespace Go.Proofs.YtecfhfddgolpfaaGreat
open Go.RowKit
variable {w w' : World} {F G : Nat → Prop} {p nf pool dn N t : Nat} {σ : List Int} {C : Int → Bytes} {h : Nat} {x : Nd} {es : List Ent} {ps : List Int}

theorem PutPost.mono {N N' H m m' : Nat} {n : Int} {e : Ending} (hp : PutPost w F p nf pool dn σ C N H n es ps m e w') (hN : N ≤ N') (hm : m ≤ m') : PutPost w F p nf pool dn σ C N' H n es ps m' e w' := by
  obtain ⟨kv, K, bh, σ', C', F', ps', h1, h2, h3, h4, h5, h6, h7⟩ := hp
  exact ⟨kv, K, bh, σ', C', F', ps', h1, h2.mono hN, h3, h4, h5, by omega, h7⟩
theorem put_tree {root : Int} {key v : Bytes} (hk1 : 1 ≤ key.length) (hk2 : key.length ≤ 240) (hv : v.length ≤ 260) : ∀ (H : Nat) (w : World) (F : Nat → Prop) (N : Nat) (n : Int) (es : List Ent) (ps : List Int) (kv vv : Value) (deep : Int), TrRow w t p root → Pgs w F p nf pool dn σ C N → N + 30 * H ≤ 1000000000 → Tree C H n es ps → Own2 σ ps → H + 1 ≤ roomOf σ → 0 ≤ deep → deep + H ≤ 21 → Bts w kv key → Bts w vv v →
    Calls Tryz.prog 53 #[.pointer (some ⟨t, 0, none⟩), .int .i64 n, .int .i64 deep, kv, vv] w (PutPost w F p nf pool dn σ C (N + 30 * H) H n (ins key v es) ps H) := by
  intro H
  induction H with
  | zero => intro w F N n es ps kv vv deep _ _ _ ht; exact ht.elim
  | succ H ih =>
    intro w F N n es ps kv vv deep htr hpg hN ht ho hroom hd0 hd hkey hval
    obtain ⟨x, ps0, hk0, hC, hsz, hb, rfl⟩ := ht
    cases hl : x.leaf with
    | true =>
      obtain ⟨hx, hb'⟩ := hb
      rcases hb' with ⟨rfl, -, hes, rfl⟩ | ⟨-, e, -⟩
      · have hb2 : Body (Tree C 0) 0 x es [] := ⟨hx, .inl ⟨rfl, hl, hes, rfl⟩⟩
        by_cases hf : ∃ h : fk x.keys key < x.keys.length, x.keys[fk x.keys key] = key
        · exact put_leaf_hit htr hpg (by omega) n (ho.on n (by simp)) (by omega) hC hsz hb2 hl hk0 deep (by omega) kv vv key v hkey hval hv hf
        · exact put_leaf_miss htr hpg (by omega) n (ho.on n (by simp)) (by omega) hC hsz hb2 hl hk0 deep (by omega) kv vv key v hkey hval hk1 hk2 hv hf
      · rw [hl] at e; simp at e
    | false =>
      have hH : 0 < H := by
        rcases hb.2 with ⟨-, e, -⟩ | ⟨e, -⟩
        · rw [hl] at e; simp at e
        · exact e
      exact put_inner htr hpg hH hN n ho (by omega) hC hsz hb hl hk0 deep hd0 (by omega) kv vv key v hkey hval (fun w F N kc es ps kv vv a1 a2 a3 a4 a5 a6 a7 a8 => ih w F N kc es ps kv vv (deep + 1) a1 a2 a3 a4 a5 a6 (by omega) (by omega) a7 a8)

/-- A whole tree: none, or one of height h. -/
def WTree (C : Int → Bytes) (h : Nat) (root : Int) (es : List Ent) (ps : List Int) : Prop := (h = 0 ∧ root = -1 ∧ es = [] ∧ ps = []) ∨ Tree C h root es ps
/-- The first kid's tree. -/
theorem Tree.first (hb : Body (Tree C h) h x es ps) (hl : x.leaf = false) : ∃ k0 e0 q0, x.kids[0]? = some k0 ∧ Tree C h k0 e0 q0 ∧ ∀ m ∈ q0, m ∈ ps := by
  obtain ⟨hx, hb⟩ := hb
  rcases hb with ⟨-, e, -⟩ | ⟨-, -, ss, s1, s2, -, -, hp⟩
  · rw [hl] at e; simp at e
  · have hk := (hx.inn hl).2.1
    have h0 : 0 < x.kids.length := by omega
    refine ⟨x.kids[0], ss[0].1, ss[0].2, List.getElem?_eq_getElem h0, s2 0 _ _ (List.getElem?_eq_getElem h0) (List.getElem?_eq_getElem (by omega)), fun m hm => ?_⟩
    rw [hp]
    exact List.mem_flatten.2 ⟨_, List.mem_map.2 ⟨ss[0], List.getElem_mem (by omega), rfl⟩, hm⟩
set_option maxRecDepth 100000 in
set_option maxHeartbeats 2000000 in
theorem height_tree {root : Int} {H : Nat} (ht : TrRow w t p root) (hP : Pgs w F p nf pool dn σ C N) (hN : N + 4 * H + 4 ≤ 1000000000) (hH : H ≤ 20) (hT : WTree C H root es ps) (ho : ∀ m ∈ ps, stOf σ m = 2) :
    Calls Tryz.prog 101 #[.pointer (some ⟨t, 0, none⟩)] w fun e w' => e = .returned (.tuple #[.int .i64 H, .int .i64 0]) ∧ ∃ F', Pgs w' F' p nf pool dn σ C (N + 4 * H) ∧ (∀ i, F' i → F i ∨ w.heap.size ≤ i) ∧ Upd F w w' := by
  have q1 : w.cell? ⟨t, 1, none⟩ = some (.int .i64 root) := by rw [cell_heap ht]; rfl
  have HT := Lib.hid ht
  have HP := Lib.hid hP
  have HTF := Lib.hid (ht.not hP)
  have HW := Lib.hid hT
  have HO := Lib.hid ho
  clear ht hP hT ho
  go_enter Tryz.func101, Tryz.ntmps101
  go_wp2
  go_loopw [4, 5] (fun hv nv wr => ∃ (k r : Nat) (Fk : Nat → Prop) (n : Int) (es : List Ent) (ps : List Int), hv = .int .i64 k ∧ nv = .int .i64 n ∧ k + r = H ∧ WTree C r n es ps ∧ (∀ m ∈ ps, stOf σ m = 2) ∧ Pgs wr Fk p nf pool dn σ C (N + 4 * k) ∧ (∀ i, Fk i → F i ∨ w.heap.size ≤ i) ∧ Upd F w wr) (fun hv _ _ => H - (intOf hv).toNat)
  case atStart => exact ⟨0, H, F, root, es, ps, rfl, rfl, by omega, HW.out, HO.out, HP.out.mono (by omega), fun i hi => .inl hi, Upd.refl _ _⟩
  case round =>
    obtain ⟨k, r, Fk, n, es', ps', rfl, rfl, hkr, hwt, hon, hpk, hFk, hU⟩ := hrel
    rcases hwt with ⟨rfl, rfl, -, -⟩ | htr
    · obtain rfl : k = H := by omega
      have HK := Lib.hid (And.intro hpk (And.intro hFk hU))
      clear hpk hFk hU hon
      go_wp2
      go_ret2
      exact ⟨rfl, Fk, HK.out⟩
    · obtain ⟨r, rfl⟩ : ∃ r', r = r' + 1 := ⟨r - 1, by have := htr.pos; omega⟩
      have hmem := htr.mem
      obtain ⟨x, ps0, hk0, hC, hsz, hb, rfl⟩ := htr
      have htw : TrRow wr t p root := hU.heap HT.out HTF.out
      have hn2 := hon n (by simp)
      have hn0 : n ≠ -1 := fun e => by have := stOf_range (σ := σ) (k := n) (by omega); omega
      have hnb : (n == -1) = false := by simpa using hn0
      have hnb2 : (n != -1) = true := by simpa using hn0
      have hrd := read_tree htw hpk (by omega) n (.inr hn2) x hC hb.shaped hsz ((k : Int) + 1) (by omega)
      have HRD := Lib.hid hrd
      have HB := Lib.hid hb
      have HU := Lib.hid (And.intro hFk (And.intro hU hon))
      have hk20 : k ≤ 20 := by omega
      clear hrd hU hon hpk hFk htw hb hC hsz hmem hk0 hn2
      cases hl : x.leaf with
      | true =>
        rw [hl] at HRD
        go_wp2_with fail
        refine HRD.out.mono ?_
        rintro e w1 ⟨F1, sk, sv, sc, kvs, vvs, rfl, hap, h1, hF1, hU1⟩
        obtain ⟨ak, ck, av, cv, ac, cc, rfl, rfl, rfl, -⟩ := hap.own.node
        have HA := Lib.hid (And.intro h1 (And.intro hF1 hU1))
        clear hap h1 hF1 hU1
        go_wp2_with fail
        go_roundw
        case rel =>
          obtain ⟨h1, hF1, hU1⟩ := HA.out
          obtain ⟨hFk, hU, hon⟩ := HU.out
          have hr0 : r = 0 := by
            rcases HB.out.2 with ⟨e, -⟩ | ⟨-, e, -⟩
            · exact e
            · rw [hl] at e; simp at e
          subst hr0
          exact ⟨k + 1, 0, F1, -1, [], [], by go_num, rfl, by omega, .inl ⟨rfl, rfl, rfl, rfl⟩, fun m hm => by simp at hm, (h1.mono (by omega)).ext ((Upd.refl _ _).alloc _), fun i hi => (hF1 i hi).elim (hFk i) (fun e => .inr (by have := hU.size; omega)), (hU.trans hU1 hFk).alloc _⟩
        case measure => simp [intOf]; omega
      | false =>
        obtain ⟨k0, e0, q0, hk0, ht0, hq0⟩ := Tree.first HB.out hl
        rw [hl] at HRD
        go_wp2_with fail
        refine HRD.out.mono ?_
        rintro e w1 ⟨F1, sk, sv, sc, kvs, vvs, rfl, hap, h1, hF1, hU1⟩
        have hklen : 0 < x.kids.length := (List.getElem?_eq_some_iff.1 hk0).1
        have hco := hap.own.c
        obtain ⟨gc, cc, cur, rfl, hgc, -⟩ := own_open hco (by rw [intv_length]; exact hklen)
        obtain ⟨ak, ck, av, cv, -, -, rfl, rfl, -, -⟩ := hap.own.node
        have hco2 := hco
        unfold Own at hco2
        have cg : w1.cell? ⟨gc, 0, none⟩ = some (.int .i64 k0) := by
          rw [hco2.cellAt 0 (by rw [intv_length]; omega)]
          rw [intv, List.getElem?_map, hk0]; rfl
        obtain ⟨nc, hnc⟩ : ∃ nc, nc = (intv x.kids).length := ⟨_, rfl⟩
        rw [← hnc]
        have hnc0 : 0 < nc := by rw [hnc, intv_length]; exact hklen
        have hgl : gc < w1.heap.size := heap_lt hgc
        have HA := Lib.hid (And.intro h1 (And.intro hF1 hU1))
        have HT0 := Lib.hid (And.intro ht0 hq0)
        clear hap h1 hF1 hU1 hco hco2 hgc hnc ht0 hq0 hklen hk0
        go_wp2_with fail
        go_roundw
        case rel =>
          obtain ⟨h1, hF1, hU1⟩ := HA.out
          obtain ⟨hFk, hU, hon⟩ := HU.out
          exact ⟨k + 1, r, F1, k0, e0, q0, by go_num, rfl, by omega, .inr HT0.out.1, fun m hm => hon m (by simp [HT0.out.2 m hm]), (h1.mono (by omega)).ext ((Upd.refl _ _).alloc _), fun i hi => (hF1 i hi).elim (hFk i) (fun e => .inr (by have := hU.size; omega)), (hU.trans hU1 hFk).alloc _⟩
        case measure => simp [intOf]; omega
end Go.Proofs.YtecfhfddgolpfaaGreat
