/- The tree's walks: kid, write. -/
import Derived.Test.YtecfhfddgolpfaaGreatTreeA
namespace Go.Proofs.YtecfhfddgolpfaaGreat
open Go.RowKit
variable {w w' : World} {F G : Nat → Prop} {p nf pool dn N t : Nat} {σ : List Int} {C : Int → Bytes}

set_option maxRecDepth 100000 in
set_option maxHeartbeats 1000000 in
theorem kid_any (lf sv sc : Value) (sk : Value) (vs : List Value) (kv : Value) (ks : List Bytes) (key : Bytes) (w : World) (hsk : Rd w 23 sk vs) (hL : BtsL w vs ks) (hkey : Bts w kv key) (hS : Srt ks) (hn : ks.length ≤ 1000000) :
    Calls Tryz.prog 57 #[.agg #[lf, sk, sv, sc], kv] w fun e w' => e = .returned (.int .i64 (kidx ks key : Nat)) ∧ Ext w w' := by
  obtain ⟨W0, hW0⟩ : ∃ W0, W0 = w.alloc (.cells #[lf, sk, sv, sc] 144) := ⟨_, rfl⟩
  have hx0 : Ext w W0 := by rw [hW0]; exact (Upd.refl _ w).alloc _
  have hr0 : W0.heap[w.heap.size]? = some (.cells #[lf, sk, sv, sc] 144 (0, 0)) := by rw [hW0]; exact heap_alloc_new w _
  have y0 := one_cells hr0 0 _ rfl
  have y1 := one_cells hr0 1 _ rfl
  have y2 := one_cells hr0 2 _ rfl
  have y3 := one_cells hr0 3 _ rfl
  have hf := find_any lf sv sc sk vs kv ks key W0 (hsk.ext hx0) (hL.ext hx0) (hkey.ext hx0) hS (by omega)
  obtain ⟨a, b, rfl, -⟩ := hsk
  obtain ⟨a', b', rfl, -⟩ := hkey.open
  have hk : kidx ks key = if (∃ h : fk ks key < ks.length, ks[fk ks key] = key) then fk ks key + 1 else fk ks key := rfl
  have hle := fk_le ks key
  have HW0 := Lib.hid hW0
  have HX0 := Lib.hid hx0
  by_cases hd : ∃ h : fk ks key < ks.length, ks[fk ks key] = key
  · rw [if_pos hd] at hk
    rw [decide_eq_true hd] at hf
    have HK := Lib.hid hk
    have HF := Lib.hid hf
    clear hk hf hx0 hr0 hL hkey hW0
    obtain ⟨q, hq⟩ : ∃ q, q = fk ks key := ⟨_, rfl⟩
    rw [← hq] at HK HF hle
    clear hq hd
    go_enter Tryz.func57, Tryz.ntmps57
    rw [HW0.out] at HF y0 y1 y2 y3
    go_wp2_with (go_at_call 56; refine HF.out.mono ?_; rintro e w2 ⟨rfl, hU2⟩)
    go_ret
    rw [HK.out]
    exact ⟨rfl, by have := HX0.out.trans (G := fun _ => False) (by rw [HW0.out]; exact hU2) (fun _ f => f.elim); exact this⟩
  · rw [if_neg hd] at hk
    rw [decide_eq_false hd] at hf
    have HK := Lib.hid hk
    have HF := Lib.hid hf
    clear hk hf hx0 hr0 hL hkey hW0
    obtain ⟨q, hq⟩ : ∃ q, q = fk ks key := ⟨_, rfl⟩
    rw [← hq] at HK HF hle
    clear hq hd
    go_enter Tryz.func57, Tryz.ntmps57
    rw [HW0.out] at HF y0 y1 y2 y3
    go_wp2_with (go_at_call 56; refine HF.out.mono ?_; rintro e w2 ⟨rfl, hU2⟩)
    go_ret
    rw [HK.out]
    exact ⟨rfl, by have := HX0.out.trans (G := fun _ => False) (by rw [HW0.out]; exact hU2) (fun _ f => f.elim); exact this⟩
theorem Pgs.slen (h : Pgs w F p nf pool dn σ C N) : σ.length ≤ 20000 := by
  obtain ⟨S, d, FD, isv, mf, fr, usv, us, h⟩ := h
  exact h.len
set_option maxRecDepth 100000 in
set_option maxHeartbeats 1000000 in
theorem write_old {root : Int} (ht : TrRow w t p root) (h : Pgs w F p nf pool dn σ C N) (hN : N + 4 ≤ 1000000000) (old : Int) (ho : stOf σ old = 2)
    (x : Nd) (ak av ac : Option Addr) (ck cv cc : Nat) (kvs vvs : List Value) (hn : NodeAt w x ak ck av cv ac cc kvs vvs) (hx : Shaped x) (hsz : nsize x ≤ 1024) :
    Calls Tryz.prog 54 #[.pointer (some ⟨t, 0, none⟩), nodeV x ak ck av cv ac cc, .int .i64 old] w fun e w' => e = .returned (.tuple #[.int .i64 old, .int .i64 0]) ∧ ∃ F', Pgs w' F' p nf pool dn σ (fun j => if j = old then page x else C j) (N + 4) ∧ (∀ i, F' i → F i ∨ w.heap.size ≤ i) ∧ Upd F w w' := by
  unfold nodeV
  obtain ⟨W0, hW0⟩ : ∃ W0, W0 = w.alloc (.cells #[.bool x.leaf, .slice ak x.keys.length ck, .slice av x.vals.length cv, .slice ac x.kids.length cc] 144) := ⟨_, rfl⟩
  have hx0 : Ext w W0 := by rw [hW0]; exact (Upd.refl _ w).alloc _
  have hr0 : W0.heap[w.heap.size]? = some (.cells #[.bool x.leaf, .slice ak x.keys.length ck, .slice av x.vals.length cv, .slice ac x.kids.length cc] 144 (0, 0)) := by rw [hW0]; exact heap_alloc_new w _
  have y0 := one_cells hr0 0 _ rfl
  have y1 := one_cells hr0 1 _ rfl
  have y2 := one_cells hr0 2 _ rfl
  have y3 := one_cells hr0 3 _ rfl
  have HWR := Lib.hid (write_any x ak av ac ck cv cc kvs vvs W0 (hn.ext hx0) (hx.small (by omega)) hx hsz)
  unfold nodeV at HWR
  have HT := Lib.hid ht
  have HH := Lib.hid h
  have HX0 := Lib.hid hx0
  have HW0 := Lib.hid hW0
  have HPL := Lib.hid (page_length x hsz)
  have HO := Lib.hid ho
  clear ht h hn hx0 hr0 hW0 ho
  go_enter Tryz.func54, Tryz.ntmps54
  rw [HW0.out] at HWR y0 y1 y2 y3
  go_wp2_with fail
  refine HWR.out.mono ?_
  rintro e w1 ⟨v, rfl, hv, hvn, hU1⟩
  have hx1 : Ext w w1 := by have hx0 := HX0.out; rw [HW0.out] at hx0; exact hx0.trans hU1 (fun _ f => f.elim)
  have h1 := HH.out.ext hx1
  have ht1 : TrRow w1 t p root := hx1.heap HT.out (fun f => f)
  have q0 : w1.cell? ⟨t, 0, none⟩ = some (.pointer (some ⟨p, 0, none⟩)) := by rw [cell_heap ht1]; rfl
  have hfr := fresh_pgs h1 old
  rw [HO.out] at hfr
  have HFR := Lib.hid hfr
  have HP := Lib.hid (put_pgs h1 hN old HO.out v (page x) (own_rd hv) HPL.out)
  have HX1 := Lib.hid hx1
  clear hv hvn hU1 hx1 h1 ht1 hfr y0 y1 y2 y3
  go_wp2_with (first
    | (go_at_call 79; refine HFR.out.mono ?_; rintro e w1 ⟨rfl, rfl⟩)
    | (go_at_call 81
       refine HP.out.mono ?_
       rintro e w2 ⟨rfl, F2, h2, hF2, hU2⟩)
    | fail)
  go_ret2
  exact ⟨rfl, F2, h2, fun i hi => (hF2 i hi).imp id (fun e => by have := HX1.out.size; omega), (HX1.out.ext).trans hU2 (fun i e => .inl e)⟩
set_option maxRecDepth 100000 in
set_option maxHeartbeats 1000000 in
theorem write_new {root : Int} (ht : TrRow w t p root) (h : Pgs w F p nf pool dn σ C N) (hN : N + 8 ≤ 1000000000) (n : Nat) (hid : idxI σ 0 = n)
    (x : Nd) (ak av ac : Option Addr) (ck cv cc : Nat) (kvs vvs : List Value) (hn : NodeAt w x ak ck av cv ac cc kvs vvs) (hx : Shaped x) (hsz : nsize x ≤ 1024) :
    Calls Tryz.prog 54 #[.pointer (some ⟨t, 0, none⟩), nodeV x ak ck av cv ac cc, .int .i64 (-1)] w fun e w' => e = .returned (.tuple #[.int .i64 n, .int .i64 0]) ∧ ∃ F', Pgs w' F' p nf pool dn (σ.set n 2) (fun j => if j = n then page x else C j) (N + 8) ∧ (∀ i, F' i → F i ∨ w.heap.size ≤ i) ∧ Upd F w w' := by
  unfold nodeV
  obtain ⟨W0, hW0⟩ : ∃ W0, W0 = w.alloc (.cells #[.bool x.leaf, .slice ak x.keys.length ck, .slice av x.vals.length cv, .slice ac x.kids.length cc] 144) := ⟨_, rfl⟩
  have hx0 : Ext w W0 := by rw [hW0]; exact (Upd.refl _ w).alloc _
  have hr0 : W0.heap[w.heap.size]? = some (.cells #[.bool x.leaf, .slice ak x.keys.length ck, .slice av x.vals.length cv, .slice ac x.kids.length cc] 144 (0, 0)) := by rw [hW0]; exact heap_alloc_new w _
  have y0 := one_cells hr0 0 _ rfl
  have y1 := one_cells hr0 1 _ rfl
  have y2 := one_cells hr0 2 _ rfl
  have y3 := one_cells hr0 3 _ rfl
  have HWR := Lib.hid (write_any x ak av ac ck cv cc kvs vvs W0 (hn.ext hx0) (hx.small (by omega)) hx hsz)
  unfold nodeV at HWR
  have HT := Lib.hid ht
  have HH := Lib.hid h
  have HX0 := Lib.hid hx0
  have HW0 := Lib.hid hW0
  have HPL := Lib.hid (page_length x hsz)
  have HID := Lib.hid hid
  clear ht h hn hx0 hr0 hW0 hid
  go_enter Tryz.func54, Tryz.ntmps54
  rw [HW0.out] at HWR y0 y1 y2 y3
  go_wp2_with fail
  refine HWR.out.mono ?_
  rintro e w1 ⟨v, rfl, hv, hvn, hU1⟩
  have hx1 : Ext w w1 := by have hx0 := HX0.out; rw [HW0.out] at hx0; exact hx0.trans hU1 (fun _ f => f.elim)
  have h1 := HH.out.ext hx1
  have ht1 : TrRow w1 t p root := hx1.heap HT.out (fun f => f)
  have q0 : w1.cell? ⟨t, 0, none⟩ = some (.pointer (some ⟨p, 0, none⟩)) := by rw [cell_heap ht1]; rfl
  have hfr := fresh_pgs h1 (-1)
  rw [show stOf σ (-1) = 0 from rfl] at hfr
  have HFR := Lib.hid hfr
  have HAL := Lib.hid (alloc_pgs h1 (by omega) n HID.out)
  have HX1 := Lib.hid hx1
  have HT1 := Lib.hid (And.intro ht1 (And.intro h1 (own_rd hv)))
  clear hv hvn hU1 hx1 h1 ht1 hfr y0 y1 y2 y3
  go_wp2_with (first
    | (go_at_call 79; refine HFR.out.mono ?_; rintro e w1 ⟨rfl, rfl⟩)
    | (go_at_call 80
       refine HAL.out.mono ?_
       rintro e w2 ⟨rfl, F2, h2, hF2, hU2⟩
       have ht2 : TrRow w2 t p root := hU2.heap HT1.out.1 (HT1.out.1.not HT1.out.2.1)
       have q02 : w2.cell? ⟨t, 0, none⟩ = some (.pointer (some ⟨p, 0, none⟩)) := by rw [cell_heap ht2]; rfl
       have hst : stOf (σ.set n 2) n = 2 := by rw [stOf_set (idx_spec HID.out).1, if_pos rfl]
       have HP := Lib.hid (put_pgs h2 (by omega) n hst v (page x) (HT1.out.2.2.upd hU2 (fun b cs fr hb => HT1.out.2.1.notByte b cs fr hb)) HPL.out)
       have H2 := Lib.hid (And.intro hF2 hU2)
       clear h2 hF2 hU2 ht2 hst)
    | (go_at_call 81
       refine HP.out.mono ?_
       rintro e w3 ⟨rfl, F3, h3, hF3, hU3⟩)
    | fail)
  go_ret2
  obtain ⟨hF2, hU2⟩ := H2.out
  have hs1 := HX1.out.size
  have hs2 := hU2.size
  refine ⟨rfl, F3, ?_, fun i hi => ?_, ((HX1.out.ext).trans hU2 (fun i e => .inl e)).trans hU3 (fun i e => (hF2 i e).imp id (fun e => by omega))⟩
  · obtain ⟨S, d, FD, isv, mf, fr, usv, us, h3⟩ := h3
    refine ⟨S, d, FD, isv, mf, fr, usv, us, h3.cong ?_⟩
    funext j
    by_cases e : j = n <;> simp [e]
  · rcases hF3 i hi with e | e
    · exact (hF2 i e).imp id (fun e => by omega)
    · exact .inr (by omega)
/-- write, whichever way. -/
theorem write_tree {root : Int} (ht : TrRow w t p root) (h : Pgs w F p nf pool dn σ C N) (hN : N + 8 ≤ 1000000000) (old : Int) (ps : List Int) (ho : (old = -1 ∧ ps = [] ∧ 1 ≤ roomOf σ) ∨ (stOf σ old = 2 ∧ ps = [old]))
    (x : Nd) (ak av ac : Option Addr) (ck cv cc : Nat) (kvs vvs : List Value) (hn : NodeAt w x ak ck av cv ac cc kvs vvs) (hx : Shaped x) (hsz : nsize x ≤ 1024) :
    Calls Tryz.prog 54 #[.pointer (some ⟨t, 0, none⟩), nodeV x ak ck av cv ac cc, .int .i64 old] w fun e w' => ∃ (n : Int) (σ' : List Int) (C' : Int → Bytes) (F' : Nat → Prop), e = .returned (.tuple #[.int .i64 n, .int .i64 0]) ∧ Pgs w' F' p nf pool dn σ' C' (N + 8) ∧ C' n = page x ∧ Chg σ C ps σ' C' [n] ∧ (ps = [old] → n = old) ∧
      (∀ i, F' i → F i ∨ w.heap.size ≤ i) ∧ Upd F w w' := by
  rcases ho with ⟨rfl, rfl, hr⟩ | ⟨ho, rfl⟩
  · obtain ⟨n, hid⟩ := room_idx hr
    refine (write_new ht h hN n hid x ak av ac ck cv cc kvs vvs hn hx hsz).mono ?_
    rintro e w' ⟨rfl, F', h1, h2, h3⟩
    exact ⟨n, _, _, F', rfl, h1, by simp, chg_alloc hid (fun m hm => if_neg hm), fun e => by simp at e, h2, h3⟩
  · refine (write_old ht h (by omega) old ho x ak av ac ck cv cc kvs vvs hn hx hsz).mono ?_
    rintro e w' ⟨rfl, F', h1, h2, h3⟩
    exact ⟨old, _, _, F', rfl, h1.mono (by omega), by simp, chg_put _ ho, fun _ => rfl, h2, h3⟩
end Go.Proofs.YtecfhfddgolpfaaGreat
