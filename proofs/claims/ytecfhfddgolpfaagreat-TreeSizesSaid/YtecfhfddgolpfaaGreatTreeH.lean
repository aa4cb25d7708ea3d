/- The tree's walks: Need, room, Put. -/
import Derived.Test.YtecfhfddgolpfaaGreatTreeG
namespace Go.Proofs.YtecfhfddgolpfaaGreat
open Go.RowKit
variable {w w' : World} {F G : Nat → Prop} {p nf pool dn N t : Nat} {σ : List Int} {C : Int → Bytes} {h : Nat} {x : Nd} {es : List Ent} {ps : List Int}

set_option maxRecDepth 100000 in
theorem need_tree {root : Int} {H : Nat} (ht : TrRow w t p root) (hP : Pgs w F p nf pool dn σ C N) (hN : N + 4 * H + 4 ≤ 1000000000) (hH : H ≤ 20) (hT : WTree C H root es ps) (ho : ∀ m ∈ ps, stOf σ m = 2) :
    Calls Tryz.prog 72 #[.pointer (some ⟨t, 0, none⟩)] w fun e w' => e = .returned (.tuple #[.int .i64 (2 * H + 3 : Nat), .int .i64 0]) ∧ ∃ F', Pgs w' F' p nf pool dn σ C (N + 4 * H) ∧ (∀ i, F' i → F i ∨ w.heap.size ≤ i) ∧ Upd F w w' := by
  have HH := Lib.hid (height_tree ht hP hN hH hT ho)
  have hc : ((2 * H + 3 : Nat) : Int) = 2 * (H : Int) + 3 := by omega
  have HC := Lib.hid hc
  clear ht hP hT ho hc
  go_enter Tryz.func72, Tryz.ntmps72
  go_wp2_with (go_at_call 101; refine HH.out.mono ?_; rintro e w1 ⟨rfl, F1, h1⟩)
  go_ret2
  rw [HC.out]
  exact ⟨rfl, F1, h1⟩
set_option maxRecDepth 100000 in
set_option maxHeartbeats 1000000 in
theorem room_tree {root : Int} {H : Nat} (ht : TrRow w t p root) (hP : Pgs w F p nf pool dn σ C N) (hN : N + 4 * H + 4 ≤ 1000000000) (hH : H ≤ 20) (hT : WTree C H root es ps) (ho : ∀ m ∈ ps, stOf σ m = 2) (hr : 2 * H + 3 ≤ roomOf σ) :
    Calls Tryz.prog 50 #[.pointer (some ⟨t, 0, none⟩)] w fun e w' => e = .returned (.int .i64 0) ∧ ∃ F', Pgs w' F' p nf pool dn σ C (N + 4 * H) ∧ (∀ i, F' i → F i ∨ w.heap.size ≤ i) ∧ Upd F w w' := by
  have HNE := Lib.hid (need_tree ht hP hN hH hT ho)
  have hsl : 0 < σ.length := by have := roomOf_le σ; omega
  have HT := Lib.hid ht
  have HTF := Lib.hid (ht.not hP)
  have hrl : roomOf σ ≤ 20000 := by have := roomOf_le σ; have := hP.slen; omega
  have HP := Lib.hid hP
  obtain ⟨r, hr0⟩ : ∃ r, r = roomOf σ := ⟨_, rfl⟩
  obtain ⟨q, hq0⟩ : ∃ q, q = 2 * H + 3 := ⟨_, rfl⟩
  rw [← hr0, ← hq0] at hr
  rw [← hr0] at hrl
  rw [← hq0] at HNE
  have HR := Lib.hid hr0
  have hlt : ¬ ((r : Int) < (q : Int)) := by omega
  have hdl : decide ((r : Int) < (q : Int)) = false := by simpa using hlt
  have hdl2 : decide (r < q) = false := by simp; omega
  clear ht hP hT ho hr0 hq0
  go_enter Tryz.func50, Tryz.ntmps50
  go_wp2_with (first
    | (go_at_call 72
       refine HNE.out.mono ?_
       rintro e w1 ⟨rfl, F1, h1, hF1, hU1⟩
       have ht1 : TrRow w1 t p root := hU1.heap HT.out HTF.out
       have q0 : w1.cell? ⟨t, 0, none⟩ = some (.pointer (some ⟨p, 0, none⟩)) := by rw [cell_heap ht1]; rfl
       have hrm := room_pgs h1 hsl
       rw [← HR.out] at hrm
       have HRM := Lib.hid hrm
       have H1 := Lib.hid (And.intro h1 (And.intro hF1 hU1))
       clear h1 hF1 hU1 ht1 hrm)
    | (go_at_call 73; refine HRM.out.mono ?_; rintro e w2 ⟨rfl, rfl⟩)
    | fail)
  go_ret
  exact ⟨rfl, F1, H1.out⟩
end Go.Proofs.YtecfhfddgolpfaaGreat
