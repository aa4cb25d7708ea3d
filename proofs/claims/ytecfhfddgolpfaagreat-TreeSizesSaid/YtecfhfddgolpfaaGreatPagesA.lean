/- Pages: the pool's own part; lost, of, Fresh, drop. -/
import Derived.Test.YtecfhfddgolpfaaGreatDiskD
namespace Go.Proofs.YtecfhfddgolpfaaGreat
open Go.RowKit

abbrev PageT : TypeId := 123
abbrev FrameT : TypeId := 206
/-- The record of pages that are not lost. -/
def PgRow (w : World) (p d nf pool : Nat) (isv : Value) (mf : Nat) (usv : Value) : Prop :=
  w.heap[p]? = some (.cells #[.pointer (some ⟨d, 0, none⟩), .int .i64 nf, .int .i64 pool, isv, .map (some mf), usv, .bool false] 123 (0, 0))
/-- The pool: the frames, by number, and the numbers in order. -/
structure PoolAt (w : World) (p d nf pool : Nat) (isv : Value) (mf : Nat) (fr : Int → Option Value) (usv : Value) (us : List Int) : Prop where
  row : PgRow w p d nf pool isv mf usv
  frm : MapF w mf fr us.length
  used : Own w 3 usv (intv us)
  nodup : us.Nodup
  usd : ∀ n, (fr n).isSome = true ↔ n ∈ us
  len : us.length ≤ 100000
variable {w w' : World} {F G : Nat → Prop} {p d nf pool mf n N : Nat} {isv usv : Value} {fr : Int → Option Value} {us : List Int}
theorem PoolAt.upd (h : PoolAt w p d nf pool isv mf fr usv us) (hU : Upd G w w') (hp : ¬ G p) (hm : ¬ G mf) (hu : ∀ k, usv.ownBlock = some k → ¬ G k) : PoolAt w' p d nf pool isv mf fr usv us :=
  ⟨hU.heap h.row hp, h.frm.upd hU hm, own_ext h.used hU hu, h.nodup, h.usd, h.len⟩
theorem PgRow.cells (h : PgRow w p d nf pool isv mf usv) : w.cell? ⟨p, 0, none⟩ = some (.pointer (some ⟨d, 0, none⟩)) ∧ w.cell? ⟨p, 1, none⟩ = some (.int .i64 nf) ∧ w.cell? ⟨p, 2, none⟩ = some (.int .i64 pool) ∧ w.cell? ⟨p, 3, none⟩ = some isv ∧ w.cell? ⟨p, 4, none⟩ = some (.map (some mf)) ∧ w.cell? ⟨p, 5, none⟩ = some usv ∧ w.cell? ⟨p, 6, none⟩ = some (.bool false) := by
  refine ⟨?_, ?_, ?_, ?_, ?_, ?_, ?_⟩ <;> rw [cell_heap h] <;> rfl

set_option maxRecDepth 100000 in
theorem lost_any (h : PgRow w p d nf pool isv mf usv) :
    Calls Tryz.prog 95 #[.pointer (some ⟨p, 0, none⟩)] w fun e w' => e = .returned (.bool false) ∧ w' = w := by
  have c6 := h.cells.2.2.2.2.2.2
  clear h
  go_enter Tryz.func95, Tryz.ntmps95
  go_wp2
  go_ret
  exact ⟨rfl, rfl⟩

/-- What a page is. -/
def stOf (σ : List Int) (n : Int) : Int := if n < 0 then 0 else σ[n.toNat]?.getD 0
theorem stOf_nat (σ : List Int) (n : Nat) (h : n < σ.length) : stOf σ n = σ[n] := by simp [stOf, h]; omega
set_option maxRecDepth 100000 in
theorem of_in (h : PgRow w p d nf pool isv mf usv) (σ : List Int) (hs : Own w 124 isv (intv σ)) (n : Nat) (hn : n < σ.length) :
    Calls Tryz.prog 96 #[.pointer (some ⟨p, 0, none⟩), .int .i64 n] w fun e w' => e = .returned (.int .i64 (stOf σ n)) ∧ w' = w := by
  have c3 := h.cells.2.2.2.1
  rw [stOf_nat σ n hn]
  obtain ⟨g, cap, cur, rfl, hg, h1, h2, h3, h4⟩ := own_open hs (by simp; omega)
  have cn : w.cell? ⟨g, n, none⟩ = some (.int .i64 σ[n]) := row_cell hg h4 (intv_get σ n hn)
  rw [intv_length] at c3 h1
  have hn0 : ¬ ((n : Int) < 0) := by omega
  have hge : ¬ ((n : Int) ≥ (σ.length : Int)) := by omega
  have hnn : n < σ.length := hn
  have hml : σ.length ≤ 9223372036854775807 := by unfold maxLen at h2; omega
  clear h hs hg h4 h3
  go_enter Tryz.func96, Tryz.ntmps96
  go_wp2
  go_ret
  exact ⟨rfl, rfl⟩
set_option maxRecDepth 100000 in
theorem of_neg (n : Int) (hn : n < 0) :
    Calls Tryz.prog 96 #[.pointer (some ⟨p, 0, none⟩), .int .i64 n] w fun e w' => e = .returned (.int .i64 0) ∧ w' = w := by
  go_enter Tryz.func96, Tryz.ntmps96
  go_wp2
  go_ret
  exact ⟨rfl, rfl⟩
set_option maxRecDepth 100000 in
theorem of_out (h : PgRow w p d nf pool isv mf usv) (σ : List Int) (hs : Own w 124 isv (intv σ)) (n : Int) (h0 : 0 ≤ n) (hn : (σ.length : Int) ≤ n) :
    Calls Tryz.prog 96 #[.pointer (some ⟨p, 0, none⟩), .int .i64 n] w fun e w' => e = .returned (.int .i64 0) ∧ w' = w := by
  have c3 := h.cells.2.2.2.1
  obtain ⟨a, cap, rfl, h1, h2, h3, h4⟩ := own_slice hs
  rw [intv_length] at c3 h1
  have hn0 : ¬ (n < 0) := by omega
  have hml : σ.length ≤ 9223372036854775807 := by unfold maxLen at h2; omega
  clear h hs h4 h3
  go_enter Tryz.func96, Tryz.ntmps96
  go_wp2
  go_ret
  exact ⟨rfl, rfl⟩
theorem of_any (h : PgRow w p d nf pool isv mf usv) (σ : List Int) (hs : Own w 124 isv (intv σ)) (n : Int) :
    Calls Tryz.prog 96 #[.pointer (some ⟨p, 0, none⟩), .int .i64 n] w fun e w' => e = .returned (.int .i64 (stOf σ n)) ∧ w' = w := by
  by_cases h0 : n < 0
  · rw [show stOf σ n = 0 by simp [stOf, h0]]; exact of_neg n h0
  · by_cases hn : n < σ.length
    · obtain ⟨k, rfl⟩ : ∃ k : Nat, n = k := ⟨n.toNat, by omega⟩
      exact of_in h σ hs k (by omega)
    · rw [show stOf σ n = 0 by rw [stOf, if_neg h0, List.getElem?_eq_none (by omega)]; rfl]
      exact of_out h σ hs n (by omega) (by omega)
set_option maxRecDepth 100000 in
theorem fresh_any (h : PgRow w p d nf pool isv mf usv) (σ : List Int) (hs : Own w 124 isv (intv σ)) (n : Int) (b : Bool) (hb : (stOf σ n == 2) = b) :
    Calls Tryz.prog 79 #[.pointer (some ⟨p, 0, none⟩), .int .i64 n] w fun e w' => e = .returned (.bool b) ∧ w' = w := by
  have HO := Lib.hid (of_any h σ hs n)
  clear h hs
  cases b
  all_goals
    go_enter Tryz.func79, Tryz.ntmps79
    go_wp2_with (go_at_call 96; refine HO.out.mono ?_; rintro e w' ⟨rfl, rfl⟩)
    go_ret
    exact ⟨rfl, rfl⟩

theorem zero_frame (w : World) : (zeroValue 204).run Tryz.prog w = .ok (.pointer none) w := by
  have hi : Tryz.prog.info? 204 = some Tryz.t204 := by kernel_rfl
  simp [zeroValue, typeInfo, hi, Result.andThen, Tryz.t204]
set_option maxRecDepth 100000 in
/-- drop of a page that isn't in memory. -/
theorem drop_no (h : PoolAt w p d nf pool isv mf fr usv us) (n : Int) (hn : fr n = none) :
    Calls Tryz.prog 97 #[.pointer (some ⟨p, 0, none⟩), .int .i64 n] w fun e w' => e = .returned (.tuple #[]) ∧ w' = w := by
  have c4 := h.row.cells.2.2.2.2.1
  have HM := Lib.hid h.frm
  have HZ := Lib.hid (zero_frame w)
  have HN := Lib.hid hn
  clear h hn
  go_enter Tryz.func97, Tryz.ntmps97
  go_wp2_with (first | (at_lookup; refine wpList_lookF rfl _ _ 121 3 204 true rfl (by kernel_rfl) (by kernel_rfl) mf us.length fr HM.out rfl n rfl _ HZ.out ?_; rw [HN.out]) | fail)
  go_end0
  exact ⟨rfl, rfl⟩
end Go.Proofs.YtecfhfddgolpfaaGreat
