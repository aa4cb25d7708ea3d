/- Nodes: how they read, their sizes; node.entry, node.Size. -/
import Derived.Test.YtecfhfddgolpfaaGreatLibF
namespace Go.Proofs.YtecfhfddgolpfaaGreat
open Go.RowKit

structure Nd where
  leaf : Bool
  keys : List Bytes
  vals : List Bytes
  kids : List Int

/-- How a node lies in memory. -/
structure NodeAt (w : World) (x : Nd) (ak : Option Addr) (ck : Nat) (av : Option Addr) (cv : Nat) (ac : Option Addr) (cc : Nat) (kvs vvs : List Value) : Prop where
  k : RdAt w 23 ak kvs
  kl : BtsL w kvs x.keys
  kcap : x.keys.length ≤ ck
  km : ck ≤ maxLen
  kn : ak = none → ck = 0
  v : RdAt w 23 av vvs
  vl : BtsL w vvs x.vals
  vcap : x.vals.length ≤ cv
  vm : cv ≤ maxLen
  vn : av = none → cv = 0
  c : RdAt w 3 ac (intv x.kids)
  ccap : x.kids.length ≤ cc
  cm : cc ≤ maxLen
  cn : ac = none → cc = 0
abbrev nodeV (x : Nd) (ak : Option Addr) (ck : Nat) (av : Option Addr) (cv : Nat) (ac : Option Addr) (cc : Nat) : Value :=
  .agg #[.bool x.leaf, .slice ak x.keys.length ck, .slice av x.vals.length cv, .slice ac x.kids.length cc]
def NodeR (w : World) (v : Value) (x : Nd) : Prop := ∃ ak ck av cv ac cc kvs vvs, v = nodeV x ak ck av cv ac cc ∧ NodeAt w x ak ck av cv ac cc kvs vvs
theorem NodeAt.ext {w w' : World} {x : Nd} {ak av ac : Option Addr} {ck cv cc : Nat} {kvs vvs : List Value} (h : NodeAt w x ak ck av cv ac cc kvs vvs) (hU : Ext w w') : NodeAt w' x ak ck av cv ac cc kvs vvs :=
  ⟨h.k.ext hU, h.kl.ext hU, h.kcap, h.km, h.kn, h.v.ext hU, h.vl.ext hU, h.vcap, h.vm, h.vn, h.c.ext hU, h.ccap, h.cm, h.cn⟩
theorem NodeR.ext {w w' : World} {v : Value} {x : Nd} (h : NodeR w v x) (hU : Ext w w') : NodeR w' v x := by
  obtain ⟨ak, ck, av, cv, ac, cc, kvs, vvs, h1, h2⟩ := h
  exact ⟨ak, ck, av, cv, ac, cc, kvs, vvs, h1, h2.ext hU⟩

/-- An entry's size; a node's, up to an entry. -/
def esz (x : Nd) (i : Nat) : Nat := if x.leaf then 3 + (x.keys.getD i []).length + (x.vals.getD i []).length else 5 + (x.keys.getD i []).length
def szTo (x : Nd) : Nat → Nat
  | 0 => if x.leaf then 3 else 7
  | k + 1 => szTo x k + esz x k
def nsize (x : Nd) : Nat := szTo x x.keys.length
/-- Nothing of a node is great. -/
structure Small (x : Nd) : Prop where
  n : x.keys.length ≤ 4000
  k : ∀ i, (x.keys.getD i []).length ≤ 4000
  v : ∀ i, (x.vals.getD i []).length ≤ 4000
  vn : x.vals.length ≤ 4000
  cn : x.kids.length ≤ 4001
theorem Small.esz_le {x : Nd} (h : Small x) (i : Nat) : esz x i ≤ 10000 := by
  have := h.k i
  have := h.v i
  unfold esz
  split <;> omega
theorem Small.szTo_le {x : Nd} (h : Small x) : ∀ k, szTo x k ≤ 7 + 10000 * k
  | 0 => by unfold szTo; split <;> omega
  | k + 1 => by
    have := h.esz_le k
    have := h.szTo_le k
    unfold szTo
    omega

set_option maxRecDepth 100000 in
theorem entry_any (x : Nd) (i : Nat) (ak av ac : Option Addr) (ck cv cc : Nat) (kvs vvs : List Value) (w : World) (h : NodeAt w x ak ck av cv ac cc kvs vvs) (hs : Small x) (hi : i < x.keys.length) (hlv : x.leaf = true → x.vals.length = x.keys.length) :
    Calls Tryz.prog 102 #[nodeV x ak ck av cv ac cc, .int .i64 i] w fun e w' => e = .returned (.int .i64 (esz x i : Nat)) ∧ Ext w w' := by
  obtain ⟨v1, h1, hb1⟩ := h.kl.get hi
  obtain ⟨b, o, rfl, hcell1, hbs⟩ := h.k.cellv h1
  obtain ⟨p1, c1, rfl, -⟩ := hb1.open
  have hk1 := hs.k i
  have hg1 : x.keys.getD i [] = x.keys[i] := by simp [hi]
  obtain ⟨n1, hn1⟩ : ∃ n1, n1 = x.keys[i].length := ⟨_, rfl⟩
  rw [hg1, ← hn1] at hk1
  have hn : x.keys.length ≤ 4000 := hs.n
  have hiI : (i : Int) < (x.keys.length : Int) := by omega
  rw [← hn1] at hcell1
  cases hl : x.leaf with
  | true =>
    have hlen := hlv hl
    obtain ⟨v2, h2, hb2⟩ := h.vl.get (j := i) (by omega)
    obtain ⟨b2, o2, rfl, hcell2, hbs2⟩ := h.v.cellv h2
    obtain ⟨p2, c2, rfl, -⟩ := hb2.open
    have hk2 := hs.v i
    have hg2 : x.vals.getD i [] = x.vals[i]'(by omega) := by simp [hi, hlen]
    obtain ⟨n2, hn2⟩ : ∃ n2, n2 = (x.vals[i]'(by omega)).length := ⟨_, rfl⟩
    rw [hg2, ← hn2] at hk2
    rw [← hn2] at hcell2
    have hres : esz x i = 3 + n1 + n2 := by unfold esz; rw [hl, hg1, hg2, hn1, hn2]; rfl
    have hvn : x.vals.length ≤ 4000 := hs.vn
    have hi2 : i < x.vals.length := by omega
    have HR := Lib.hid hres
    clear hres hn1 hn2 h1 h2 hb1 hb2 hg1 hg2 hlen
    clear h hs
    unfold nodeV
    rw [hl]
    go_enter Tryz.func102, Tryz.ntmps102
    go_wp2
    go_quiet (fail)
    go_wp2
    go_ret
    rw [HR.out]
    exact ⟨by congr 2, ((Upd.refl _ w).alloc _).drewN _⟩
  | false =>
    have hres : esz x i = 5 + n1 := by unfold esz; rw [hl, hg1, hn1]; rfl
    have HR := Lib.hid hres
    clear hres hn1 h1 hb1 hg1
    clear h hs
    unfold nodeV
    rw [hl]
    go_enter Tryz.func102, Tryz.ntmps102
    go_wp2
    go_ret
    rw [HR.out]
    exact ⟨by congr 2, ((Upd.refl _ w).alloc _)⟩

set_option maxRecDepth 100000 in
theorem size_any (x : Nd) (ak av ac : Option Addr) (ck cv cc : Nat) (kvs vvs : List Value) (w : World) (h : NodeAt w x ak ck av cv ac cc kvs vvs) (hs : Small x) (hlv : x.leaf = true → x.vals.length = x.keys.length) :
    Calls Tryz.prog 74 #[nodeV x ak ck av cv ac cc] w fun e w' => e = .returned (.int .i64 (nsize x : Nat)) ∧ Ext w w' := by
  have hcall : ∀ (i : Nat) (wr : World), Ext w wr → i < x.keys.length → Calls Tryz.prog 102 #[nodeV x ak ck av cv ac cc, .int .i64 i] wr fun e w' => e = .returned (.int .i64 (esz x i : Nat)) ∧ Ext wr w' := fun i wr hU hi =>
    entry_any x i ak av ac ck cv cc kvs vvs wr (h.ext hU) hs hi hlv
  have hb0 : ∀ k, k ≤ x.keys.length → szTo x k ≤ 100000000 := fun k hk => by have := hs.szTo_le k; have := hs.n; omega
  have he0 : ∀ k, esz x k ≤ 10000 := hs.esz_le
  have hn : x.keys.length ≤ 4000 := hs.n
  have HC := Lib.hid hcall
  have HB := Lib.hid hb0
  have HE := Lib.hid he0
  clear hcall hb0 he0 h hs
  unfold nodeV
  obtain ⟨W0, hW0⟩ : ∃ W0, W0 = w.alloc (.cells #[.bool x.leaf, .slice ak x.keys.length ck, .slice av x.vals.length cv, .slice ac x.kids.length cc] 144) := ⟨_, rfl⟩
  have hU0 : Ext w W0 := by rw [hW0]; exact (Upd.refl _ w).alloc _
  have hsz : w.heap.size < W0.heap.size := by rw [hW0]; simp
  have c0 : W0.cell? ⟨w.heap.size, 0, none⟩ = some (.bool x.leaf) := by rw [hW0, World.cell?_alloc_new]; rfl
  have c1 : W0.cell? ⟨w.heap.size, 1, none⟩ = some (.slice ak x.keys.length ck) := by rw [hW0, World.cell?_alloc_new]; rfl
  have c2 : W0.cell? ⟨w.heap.size, 2, none⟩ = some (.slice av x.vals.length cv) := by rw [hW0, World.cell?_alloc_new]; rfl
  have c3 : W0.cell? ⟨w.heap.size, 3, none⟩ = some (.slice ac x.kids.length cc) := by rw [hW0, World.cell?_alloc_new]; rfl
  have HW := Lib.hid hW0
  have hsz0 : szTo x 0 = if x.leaf then 3 else 7 := rfl
  have HZ := Lib.hid hsz0
  clear hW0 hsz0
  cases hl : x.leaf
  all_goals
    rw [hl] at c0
    have HL := Lib.hid hl
    go_enter Tryz.func74, Tryz.ntmps74
    have hW := HW.out
    rw [hl] at hW
    clear hl
    go_wp2_with fail
    rw [← hW]
    clear hW
    have hz := HZ.out
    rw [HL.out] at hz
    simp only [Bool.false_eq_true, if_false, if_true] at hz
    have HZ2 := Lib.hid hz
    clear hz
    go_loopw [3, 11] (fun t i wr => ∃ k : Nat, k ≤ x.keys.length ∧ i = .int .i64 k ∧ t = .int .i64 (szTo x k : Nat) ∧ Ext W0 wr) (fun _ i _ => x.keys.length - (intOf i).toNat)
    case atStart => exact ⟨0, Nat.zero_le _, rfl, by rw [HZ2.out]; rfl, Upd.refl _ _⟩
    case round =>
      obtain ⟨k, hk, rfl, rfl, hU⟩ := hrel
      have hb := HB.out k hk
      by_cases hlt : k < x.keys.length
      · have r0 := hU.cell c0 (fun h => h)
        have r1 := hU.cell c1 (fun h => h)
        have r2 := hU.cell c2 (fun h => h)
        have r3 := hU.cell c3 (fun h => h)
        have hcl := HC.out k wr (hU0.trans hU (fun _ h => h.elim)) hlt
        unfold nodeV at hcl
        rw [HL.out] at hcl
        have he := HE.out k
        have HCC := Lib.hid hcl
        have HU := Lib.hid hU
        clear hcl hU
        have hst : szTo x (k + 1) = szTo x k + esz x k := rfl
        have HST := Lib.hid hst
        clear hst
        obtain ⟨m, hm⟩ : ∃ m, m = szTo x k := ⟨_, rfl⟩
        obtain ⟨q, hq⟩ : ∃ q, q = esz x k := ⟨_, rfl⟩
        rw [← hm] at hb HST ⊢
        rw [← hq] at he HCC HST
        have HM := Lib.hid hm
        clear hm hq
        go_wp2_with (go_at_call 102; refine HCC.out.mono ?_; rintro e w2 ⟨rfl, hU2⟩)
        go_roundw
        case rel => exact ⟨k + 1, by omega, by go_num, by rw [HST.out]; go_num, HU.out.trans hU2 (fun _ h => h.elim)⟩
        case measure => simp [intOf]; omega
      · obtain rfl : k = x.keys.length := by omega
        have HU := Lib.hid hU
        clear hU
        obtain ⟨m, hm⟩ : ∃ m, m = szTo x x.keys.length := ⟨_, rfl⟩
        rw [← hm] at hb ⊢
        have HM := Lib.hid hm
        clear hm
        go_wp2
        go_ret
        exact ⟨by rw [HM.out]; rfl, hU0.trans HU.out (fun _ h => h.elim)⟩
end Go.Proofs.YtecfhfddgolpfaaGreat
