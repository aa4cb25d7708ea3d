/- A node that was read: what it owns; the bytes of a page from an entry on. -/
import Derived.Test.YtecfhfddgolpfaaGreatNodeE
namespace Go.Proofs.YtecfhfddgolpfaaGreat
open Go.RowKit

/-- A node of the call's own memory: blocks from B on. -/
structure NOwn (w : World) (B : Nat) (sk sv sc : Value) (kvs vvs : List Value) (x : Nd) : Prop where
  k : Own w 23 sk kvs
  kl : BtsL w kvs x.keys
  v : Own w 23 sv vvs
  vl : BtsL w vvs x.vals
  c : Own w 3 sc (intv x.kids)
  kb : ∀ k, sk.ownBlock = some k → B ≤ k ∧ sv.ownBlock ≠ some k
  vb : ∀ k, sv.ownBlock = some k → B ≤ k
  cb : ∀ k, sc.ownBlock = some k → B ≤ k
theorem own_slice {w : World} {E : TypeId} {v : Value} {xs : List Value} (h : Own w E v xs) : ∃ a cap, v = .slice a xs.length cap ∧ xs.length ≤ cap ∧ cap ≤ maxLen ∧ (a = none → cap = 0) ∧ RdAt w E a xs := own_rd h
theorem NOwn.node {w : World} {B : Nat} {sk sv sc : Value} {kvs vvs : List Value} {x : Nd} (h : NOwn w B sk sv sc kvs vvs x) :
    ∃ ak ck av cv ac cc, sk = .slice ak x.keys.length ck ∧ sv = .slice av x.vals.length cv ∧ sc = .slice ac x.kids.length cc ∧ NodeAt w x ak ck av cv ac cc kvs vvs := by
  obtain ⟨ak, ck, e1, a1, a2, a3, a4⟩ := own_slice h.k
  obtain ⟨av, cv, e2, b1, b2, b3, b4⟩ := own_slice h.v
  obtain ⟨ac, cc, e3, d1, d2, d3, d4⟩ := own_slice h.c
  have hk := h.kl.1
  have hv := h.vl.1
  rw [hk] at e1 a1
  rw [hv] at e2 b1
  rw [intv_length] at e3 d1
  exact ⟨ak, ck, av, cv, ac, cc, e1, e2, e3, ⟨a4, h.kl, a1, a2, a3, b4, h.vl, b1, b2, b3, d4, d1, d2, d3⟩⟩
/-- Calls that write no block from B on keep it. -/
theorem NOwn.upd {F : Nat → Prop} {w w' : World} {B : Nat} {sk sv sc : Value} {kvs vvs : List Value} {x : Nd} (h : NOwn w B sk sv sc kvs vvs x) (hU : Upd F w w') (h1 : ∀ k, sk.ownBlock = some k → ¬ F k) (h2 : ∀ k, sv.ownBlock = some k → ¬ F k) (h3 : ∀ k, sc.ownBlock = some k → ¬ F k)
    (hF : ∀ b cs fr, F b → w.heap[b]? ≠ some (.cells cs 5 fr)) : NOwn w' B sk sv sc kvs vvs x :=
  ⟨own_ext h.k hU h1, ⟨h.kl.1, fun j v k a b => (h.kl.2 j v k a b).upd hU hF⟩, own_ext h.v hU h2, ⟨h.vl.1, fun j v k a b => (h.vl.2 j v k a b).upd hU hF⟩, own_ext h.c hU h3, h.kb, h.vb, h.cb⟩
theorem NOwn.ext {w w' : World} {B : Nat} {sk sv sc : Value} {kvs vvs : List Value} {x : Nd} (h : NOwn w B sk sv sc kvs vvs x) (hU : Ext w w') : NOwn w' B sk sv sc kvs vvs x :=
  h.upd hU (fun _ _ f => f) (fun _ _ f => f) (fun _ _ f => f) (fun _ _ _ f => f.elim)
theorem NOwn.mono {w : World} {B B' : Nat} {sk sv sc : Value} {kvs vvs : List Value} {x : Nd} (h : NOwn w B sk sv sc kvs vvs x) (hB : B' ≤ B) : NOwn w B' sk sv sc kvs vvs x :=
  ⟨h.k, h.kl, h.v, h.vl, h.c, fun k hk => ⟨Nat.le_trans hB (h.kb k hk).1, (h.kb k hk).2⟩, fun k hk => Nat.le_trans hB (h.vb k hk), fun k hk => Nat.le_trans hB (h.cb k hk)⟩

/-! ### the bytes of a page -/
def restAt (x : Nd) (k : Nat) : Bytes := (page x).drop (szTo x k)
theorem encTo_le (x : Nd) : ∀ d k, k + d = x.keys.length → ∃ r, encTo x x.keys.length = encTo x k ++ r := by
  intro d
  induction d with
  | zero => intro k h; exact ⟨[], by rw [← h]; simp⟩
  | succ d ih =>
    intro k h
    obtain ⟨r, hr⟩ := ih (k + 1) (by omega)
    exact ⟨encE x k ++ r, by rw [hr, encTo]; simp⟩
theorem page_split (x : Nd) (k : Nat) (hk : k ≤ x.keys.length) : page x = encTo x k ++ restAt x k := by
  obtain ⟨r, hr⟩ := encTo_le x (x.keys.length - k) k (by omega)
  unfold restAt page pad
  rw [hr]
  conv => lhs; rw [List.append_assoc]
  rw [List.append_assoc, List.drop_append]
  rw [encTo_length]
  simp [← encTo_length]
theorem rest_split (x : Nd) (k : Nat) (hk : k < x.keys.length) : restAt x k = encE x k ++ restAt x (k + 1) := by
  have h1 := page_split x k (by omega)
  have h2 := page_split x (k + 1) (by omega)
  rw [h1, encTo, List.append_assoc] at h2
  exact List.append_cancel_left h2
theorem beNum_one (n : Nat) (h : n < 256) : beNum [UInt8.ofNat n] = n := by simp [beNum]; omega
theorem beNum_16 (n : Nat) (h : n < 65536) : beNum (e16 n) = n := by simp [beNum, e16]; omega
theorem beNum_32 (n : Nat) (h : n < 4294967296) : beNum (e32 n) = n := by simp [beNum, e32]; omega
theorem take_left {α : Type} (a b : List α) (n : Nat) (h : a.length = n) : (a ++ b).take n = a := by subst h; exact List.take_left
theorem drop_left {α : Type} (a b : List α) (n : Nat) (h : a.length = n) : (a ++ b).drop n = b := by subst h; exact List.drop_left
end Go.Proofs.YtecfhfddgolpfaaGreat
