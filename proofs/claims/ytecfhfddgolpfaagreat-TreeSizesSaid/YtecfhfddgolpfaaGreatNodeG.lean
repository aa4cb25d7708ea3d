/- node.Read of a page that node.Write made. -/
import Derived.Test.YtecfhfddgolpfaaGreatNodeF
namespace Go.Proofs.YtecfhfddgolpfaaGreat
open Go.RowKit

theorem one_cells {w : World} {b : Nat} {cs : Array Value} {T : TypeId} (h : w.heap[b]? = some (.cells cs T (0, 0))) (i : Nat) (v : Value) (hv : cs[i]? = some v) : w.cell? ⟨b, i, none⟩ = some v := by rw [cell_heap h, hv]
theorem BtsL.snoc {w : World} {vs : List Value} {ks : List Bytes} {v : Value} {k : Bytes} (h : BtsL w vs ks) (hv : Bts w v k) : BtsL w (vs ++ [v]) (ks ++ [k]) := by
  refine ⟨by simp [h.1], fun j u q h1 h2 => ?_⟩
  by_cases hj : j < vs.length
  · rw [List.getElem?_append_left hj] at h1
    rw [List.getElem?_append_left (by rw [← h.1]; exact hj)] at h2
    exact h.2 j u q h1 h2
  · have hjl : j = vs.length := by
      have := (List.getElem?_eq_some_iff.1 h1).1
      simp at this; omega
    subst hjl
    have e1 : (vs ++ [v])[vs.length]? = some v := by simp
    have e2 : (ks ++ [k])[vs.length]? = some k := by rw [h.1]; simp
    rw [e1] at h1
    rw [e2] at h2
    cases h1; cases h2
    exact hv
theorem bts_one {w : World} {vs : List Value} {ks : List Bytes} (h : BtsL w vs ks) : ∀ y ∈ vs, y.oneCell' = true := by
  intro y hy
  obtain ⟨j, hj, rfl⟩ := List.getElem_of_mem hy
  obtain ⟨a, cap, he, _⟩ := (h.2 j vs[j] (ks[j]'(by rw [← h.1]; exact hj)) (by simp) (by simp)).open
  rw [he]; rfl

/-- node.Read's loop: the node so far, in the block N; the reader, in the block R. -/
structure RdInv (x : Nd) (N R : Nat) (w4 wr : World) (keys vals : List Bytes) (kids : List Int) (rest : Bytes) (sk sv sc : Value) (kvs vvs : List Value) : Prop where
  n : wr.heap[N]? = some (.cells #[.bool x.leaf, sk, sv, sc] 144 (0, 0))
  cur : Cur wr R rest
  k : Own wr 23 sk kvs
  kl : BtsL wr kvs keys
  v : Own wr 23 sv vvs
  vl : BtsL wr vvs vals
  c : Own wr 3 sc (intv kids)
  kb : ∀ j, sk.ownBlock = some j → w4.heap.size ≤ j ∧ sv.ownBlock ≠ some j ∧ sc.ownBlock ≠ some j
  vb : ∀ j, sv.ownBlock = some j → w4.heap.size ≤ j ∧ sc.ownBlock ≠ some j
  cb : ∀ j, sc.ownBlock = some j → w4.heap.size ≤ j
  nr : N ≠ R
  nl : N < w4.heap.size
  rl : R < w4.heap.size
  upd : Upd (fun j => j = R ∨ j = N) w4 wr
section
variable {x : Nd} {N R : Nat} {w4 wr : World} {keys vals : List Bytes} {kids : List Int} {rest : Bytes} {sk sv sc : Value} {kvs vvs : List Value}
theorem BtsL.upd {w w' : World} {vs : List Value} {ks : List Bytes} {F : Nat → Prop} (h : BtsL w vs ks) (hU : Upd F w w') (hF : ∀ b cs fr, F b → w.heap[b]? ≠ some (.cells cs 5 fr)) : BtsL w' vs ks :=
  ⟨h.1, fun j v k a b => (h.2 j v k a b).upd hU hF⟩
theorem RdInv.num {w' : World} {rest' : Bytes} (h : RdInv x N R w4 wr keys vals kids rest sk sv sc kvs vvs) (hc : Cur w' R rest') (hU : Upd (fun k => k = R) wr w') : RdInv x N R w4 w' keys vals kids rest' sk sv sc kvs vvs := by
  have hnb := h.cur.notByte
  have rl := h.rl
  exact ⟨hU.heap h.n h.nr, hc, own_ext h.k hU (fun k hk e => by have := (h.kb k hk).1; omega), h.kl.upd hU hnb, own_ext h.v hU (fun k hk e => by have := (h.vb k hk).1; omega), h.vl.upd hU hnb,
    own_ext h.c hU (fun k hk e => by have := h.cb k hk; omega), h.kb, h.vb, h.cb, h.nr, h.nl, h.rl, h.upd.trans hU (fun i hi => .inl (.inl hi))⟩
theorem own_type {w : World} {E : TypeId} {v : Value} {n : Nat} {xs : List Value} (h : w.ownsRow 0 E 1 v n xs) {k : Nat} (hk : v.ownBlock = some k) : ∃ cur, w.heap[k]? = some (.cells cur E (0, 0)) := by
  rcases h.2 with ⟨rfl, _⟩ | ⟨g, cap, cur, rfl, _, hg, _⟩
  · simp [Value.ownBlock] at hk
  · simp [Value.ownBlock] at hk; subst hk; exact ⟨cur, hg⟩
theorem own_notByte {w : World} {E : TypeId} {v : Value} {n : Nat} {xs : List Value} (h : w.ownsRow 0 E 1 v n xs) (hE : E ≠ 5) : ∀ b cs fr, v.ownBlock = some b → w.heap[b]? ≠ some (.cells cs 5 fr) := by
  intro b cs fr hb h3
  obtain ⟨cur, h4⟩ := own_type h hb
  rw [h4] at h3
  simp at h3
  exact hE h3.2.1
theorem Cur.upd {w w' : World} {R : Nat} {l : Bytes} {F : Nat → Prop} (h : Cur w R l) (hU : Upd F w w') (hR : ¬ F R) (hF : ∀ b cs fr, F b → w.heap[b]? ≠ some (.cells cs 5 fr)) : Cur w' R l := by
  obtain ⟨v, h1, h2⟩ := h
  exact ⟨v, hU.heap h1 hR, h2.upd hU hF⟩
theorem RdInv.nAny {w' : World} {o : Obj} {v : Value} (h : RdInv x N R w4 wr keys vals kids rest sk sv sc kvs vvs) (hv : ∀ j, v.ownBlock = some j → w4.heap.size ≤ j) (hU : Upd (fun k => v.ownBlock = some k) (wr.alloc o) w') : w'.heap[N]? = some (.cells #[.bool x.leaf, sk, sv, sc] 144 (0, 0)) := by
  have hU0 : Ext wr (wr.alloc o) := (Upd.refl _ wr).alloc _
  have nl := h.nl
  exact hU.heap (hU0.heap h.n (fun f => f)) (fun e => by have := hv N e; omega)
/-- A key is appended. -/
theorem RdInv.key {w' : World} {K : Bytes} {kv sk' : Value} (h : RdInv x N R w4 wr keys vals kids rest sk sv sc kvs vvs) (hk : Bts wr kv K) (ho : Own w' 23 sk' (kvs ++ [kv])) (hnw : Nw (wr.alloc (.cells #[kv] 23)) sk sk') (hU : Upd (fun k => sk.ownBlock = some k) (wr.alloc (.cells #[kv] 23)) w') :
    RdInv x N R w4 (w'.setCell ⟨N, 1, none⟩ sk') (keys ++ [K]) vals kids rest sk' sv sc (kvs ++ [kv]) vvs := by
  have hU0 : Ext wr (wr.alloc (.cells #[kv] 23)) := (Upd.refl _ wr).alloc _
  have nl := h.nl
  have rl := h.rl
  have hsz := h.upd.size
  have hsz1 : wr.heap.size < (wr.alloc (.cells #[kv] 23)).heap.size := by simp
  have hnb := own_notByte (own_ext h.k hU0 (fun _ _ f => f)) (by decide)
  have hNs : sk.ownBlock ≠ some N := fun e => by have := (h.kb N e).1; omega
  have hRs : sk.ownBlock ≠ some R := fun e => by have := (h.kb R e).1; omega
  have n1 : w'.heap[N]? = _ := hU.heap (hU0.heap h.n (fun f => f)) hNs
  have hU2 : Upd (fun k => k = N) w' (w'.setCell ⟨N, 1, none⟩ sk') := (Upd.refl _ w').setCell _ (.inl rfl)
  have hnb2 : ∀ b cs fr, b = N → w'.heap[b]? ≠ some (.cells cs 5 fr) := by rintro b cs fr rfl e; rw [n1] at e; simp at e
  have nw : ∀ j, sk'.ownBlock = some j → sk.ownBlock = some j ∨ wr.heap.size + 1 ≤ j := fun j hj => (hnw j hj).imp id (fun e => by simpa using e)
  have fr : ∀ j, sk'.ownBlock = some j → w4.heap.size ≤ j := fun j hj => (nw j hj).elim (fun e => (h.kb j e).1) (fun e => by omega)
  refine ⟨?_, ((h.cur.upd hU0 (fun f => f) (fun _ _ _ f => f.elim)).upd hU hRs hnb).upd hU2 (fun e => h.nr e.symm) hnb2, own_ext ho hU2 (fun k hk e => by have := fr k hk; omega), ?_, ?_, ?_, ?_, ?_, ?_, h.cb, h.nr, h.nl, h.rl, ?_⟩
  · rw [heap_setCell_same w' N 1 _ _ _ n1]; rfl
  · exact BtsL.snoc (((h.kl.ext hU0).upd hU hnb).upd hU2 hnb2) (((hk.ext hU0).upd hU hnb).upd hU2 hnb2)
  · exact own_ext (own_ext (own_ext h.v hU0 (fun _ _ f => f)) hU (fun k hk e => (h.kb k e).2.1 hk)) hU2 (fun k hk e => by have := (h.vb k hk).1; omega)
  · exact ((h.vl.ext hU0).upd hU hnb).upd hU2 hnb2
  · exact own_ext (own_ext (own_ext h.c hU0 (fun _ _ f => f)) hU (fun k hk e => (h.kb k e).2.2 hk)) hU2 (fun k hk e => by have := h.cb k hk; omega)
  · intro j hj
    refine ⟨fr j hj, fun e => ?_, fun e => ?_⟩
    · exact (nw j hj).elim (fun e2 => (h.kb j e2).2.1 e) (fun e2 => by have := own_lt h.v e; omega)
    · exact (nw j hj).elim (fun e2 => (h.kb j e2).2.2 e) (fun e2 => by have := own_lt h.c e; omega)
  · exact h.vb
  · refine ((h.upd.andExt hU0).trans hU (fun i hi => .inr (h.kb i hi).1)).trans hU2 (fun i hi => .inl (.inr hi))
/-- A value is appended. -/
theorem RdInv.val {w' : World} {K : Bytes} {kv sv' : Value} (h : RdInv x N R w4 wr keys vals kids rest sk sv sc kvs vvs) (hk : Bts wr kv K) (ho : Own w' 23 sv' (vvs ++ [kv])) (hnw : Nw (wr.alloc (.cells #[kv] 23)) sv sv') (hU : Upd (fun k => sv.ownBlock = some k) (wr.alloc (.cells #[kv] 23)) w') :
    RdInv x N R w4 (w'.setCell ⟨N, 2, none⟩ sv') keys (vals ++ [K]) kids rest sk sv' sc kvs (vvs ++ [kv]) := by
  have hU0 : Ext wr (wr.alloc (.cells #[kv] 23)) := (Upd.refl _ wr).alloc _
  have nl := h.nl
  have rl := h.rl
  have hsz := h.upd.size
  have hnb := own_notByte (own_ext h.v hU0 (fun _ _ f => f)) (by decide)
  have hNs : sv.ownBlock ≠ some N := fun e => by have := (h.vb N e).1; omega
  have hRs : sv.ownBlock ≠ some R := fun e => by have := (h.vb R e).1; omega
  have n1 : w'.heap[N]? = _ := hU.heap (hU0.heap h.n (fun f => f)) hNs
  have hU2 : Upd (fun k => k = N) w' (w'.setCell ⟨N, 2, none⟩ sv') := (Upd.refl _ w').setCell _ (.inl rfl)
  have hnb2 : ∀ b cs fr, b = N → w'.heap[b]? ≠ some (.cells cs 5 fr) := by rintro b cs fr rfl e; rw [n1] at e; simp at e
  have nw : ∀ j, sv'.ownBlock = some j → sv.ownBlock = some j ∨ wr.heap.size + 1 ≤ j := fun j hj => (hnw j hj).imp id (fun e => by simpa using e)
  have fr : ∀ j, sv'.ownBlock = some j → w4.heap.size ≤ j := fun j hj => (nw j hj).elim (fun e => (h.vb j e).1) (fun e => by omega)
  refine ⟨?_, ((h.cur.upd hU0 (fun f => f) (fun _ _ _ f => f.elim)).upd hU hRs hnb).upd hU2 (fun e => h.nr e.symm) hnb2, ?_, ?_, own_ext ho hU2 (fun k hk e => by have := fr k hk; omega), ?_, ?_, ?_, ?_, h.cb, h.nr, h.nl, h.rl, ?_⟩
  · rw [heap_setCell_same w' N 2 _ _ _ n1]; rfl
  · exact own_ext (own_ext (own_ext h.k hU0 (fun _ _ f => f)) hU (fun k hk e => (h.kb k hk).2.1 e)) hU2 (fun k hk e => by have := (h.kb k hk).1; omega)
  · exact ((h.kl.ext hU0).upd hU hnb).upd hU2 hnb2
  · exact BtsL.snoc (((h.vl.ext hU0).upd hU hnb).upd hU2 hnb2) (((hk.ext hU0).upd hU hnb).upd hU2 hnb2)
  · exact own_ext (own_ext (own_ext h.c hU0 (fun _ _ f => f)) hU (fun k hk e => (h.vb k e).2 hk)) hU2 (fun k hk e => by have := h.cb k hk; omega)
  · intro j hj
    refine ⟨(h.kb j hj).1, fun e => ?_, (h.kb j hj).2.2⟩
    exact (nw j e).elim (fun e2 => (h.kb j hj).2.1 e2) (fun e2 => by have := own_lt h.k hj; omega)
  · intro j hj
    refine ⟨fr j hj, fun e => ?_⟩
    exact (nw j hj).elim (fun e2 => (h.vb j e2).2 e) (fun e2 => by have := own_lt h.c e; omega)
  · refine ((h.upd.andExt hU0).trans hU (fun i hi => .inr (h.vb i hi).1)).trans hU2 (fun i hi => .inl (.inr hi))
/-- A kid is appended. -/
theorem RdInv.kid {w' : World} {n : Int} {sc' : Value} (h : RdInv x N R w4 wr keys vals kids rest sk sv sc kvs vvs) (ho : Own w' 3 sc' (intv kids ++ [.int .i64 n])) (hnw : Nw (wr.alloc (.cells #[.int .i64 n] 3)) sc sc') (hU : Upd (fun k => sc.ownBlock = some k) (wr.alloc (.cells #[.int .i64 n] 3)) w') :
    RdInv x N R w4 (w'.setCell ⟨N, 3, none⟩ sc') keys vals (kids ++ [n]) rest sk sv sc' kvs vvs := by
  have hU0 : Ext wr (wr.alloc (.cells #[.int .i64 n] 3)) := (Upd.refl _ wr).alloc _
  have nl := h.nl
  have rl := h.rl
  have hsz := h.upd.size
  have hnb := own_notByte (own_ext h.c hU0 (fun _ _ f => f)) (by decide)
  have hNs : sc.ownBlock ≠ some N := fun e => by have := h.cb N e; omega
  have hRs : sc.ownBlock ≠ some R := fun e => by have := h.cb R e; omega
  have n1 : w'.heap[N]? = _ := hU.heap (hU0.heap h.n (fun f => f)) hNs
  have hU2 : Upd (fun k => k = N) w' (w'.setCell ⟨N, 3, none⟩ sc') := (Upd.refl _ w').setCell _ (.inl rfl)
  have hnb2 : ∀ b cs fr, b = N → w'.heap[b]? ≠ some (.cells cs 5 fr) := by rintro b cs fr rfl e; rw [n1] at e; simp at e
  have nw : ∀ j, sc'.ownBlock = some j → sc.ownBlock = some j ∨ wr.heap.size + 1 ≤ j := fun j hj => (hnw j hj).imp id (fun e => by simpa using e)
  have fr : ∀ j, sc'.ownBlock = some j → w4.heap.size ≤ j := fun j hj => (nw j hj).elim (fun e => h.cb j e) (fun e => by omega)
  refine ⟨?_, ((h.cur.upd hU0 (fun f => f) (fun _ _ _ f => f.elim)).upd hU hRs hnb).upd hU2 (fun e => h.nr e.symm) hnb2, ?_, ?_, ?_, ?_, ?_, ?_, ?_, ?_, h.nr, h.nl, h.rl, ?_⟩
  · rw [heap_setCell_same w' N 3 _ _ _ n1]; rfl
  · exact own_ext (own_ext (own_ext h.k hU0 (fun _ _ f => f)) hU (fun k hk e => (h.kb k hk).2.2 e)) hU2 (fun k hk e => by have := (h.kb k hk).1; omega)
  · exact ((h.kl.ext hU0).upd hU hnb).upd hU2 hnb2
  · exact own_ext (own_ext (own_ext h.v hU0 (fun _ _ f => f)) hU (fun k hk e => (h.vb k hk).2 e)) hU2 (fun k hk e => by have := (h.vb k hk).1; omega)
  · exact ((h.vl.ext hU0).upd hU hnb).upd hU2 hnb2
  · have e : intv (kids ++ [n]) = intv kids ++ [.int .i64 n] := by simp [intv]
    rw [e]
    exact own_ext ho hU2 (fun k hk e => by have := fr k hk; omega)
  · intro j hj
    refine ⟨(h.kb j hj).1, (h.kb j hj).2.1, fun e => ?_⟩
    exact (nw j e).elim (fun e2 => (h.kb j hj).2.2 e2) (fun e2 => by have := own_lt h.k hj; omega)
  · intro j hj
    refine ⟨(h.vb j hj).1, fun e => ?_⟩
    exact (nw j e).elim (fun e2 => (h.vb j hj).2 e2) (fun e2 => by have := own_lt h.v hj; omega)
  · exact fr
  · refine ((h.upd.andExt hU0).trans hU (fun i hi => .inr (h.cb i hi))).trans hU2 (fun i hi => .inl (.inr hi))
end

end Go.Proofs.YtecfhfddgolpfaaGreat
