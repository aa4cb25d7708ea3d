/- disk.Read. -/
import Derived.Test.YtecfhfddgolpfaaGreatDiskA
import Derived.Test.YtecfhfddgolpfaaGreatAtomA
import Derived.Test.YtecfhfddgolpfaaGreatNodeF
namespace Go.Proofs.YtecfhfddgolpfaaGreat
open Go.RowKit

/-- The sectors that a map holds: S. -/
def Secs (w : World) (f : Int → Option Value) (S : Int → Bytes) : Prop :=
  ∀ k, (S k).length = 256 ∧ (match f k with | some v => Bts w v (S k) | none => S k = List.replicate 256 0)
theorem Secs.upd {w w' : World} {f : Int → Option Value} {S : Int → Bytes} {F : Nat → Prop} (h : Secs w f S) (hU : Upd F w w') (hF : ∀ b cs fr, F b → w.heap[b]? ≠ some (.cells cs 5 fr)) : Secs w' f S := by
  intro k
  refine ⟨(h k).1, ?_⟩
  have := (h k).2
  cases hk : f k with
  | none => rw [hk] at this; exact this
  | some v => rw [hk] at this; exact Bts.upd this hU hF
theorem zero_bs (w : World) : (zeroValue 23).run Tryz.prog w = .ok (.slice none 0 0) w := by
  have hi : Tryz.prog.info? 23 = some Tryz.t23 := by kernel_rfl
  simp [zeroValue, typeInfo, hi, Result.andThen, Tryz.t23]
theorem zeros_byv (n : Nat) : byv (List.replicate n 0) = List.replicate n (.int .u8 0) := by simp [byv]
theorem make_zeros (n : Nat) (hn : n ≤ 100000) (w : World) : (Instr.makeSlice 23 (.int .i64 (n : Nat)) (.int .i64 (n : Nat))).run Tryz.prog w = .ok (.slice (some ⟨w.heap.size, 0, none⟩) n n) (w.alloc (.cells (byv (List.replicate n 0)).toArray 5)) := by
  obtain ⟨i, hi, hz0, hz1, hz2⟩ := info_parts info_u8
  have := run_make (P := Tryz.prog) w 23 5 i _ (by kernel_rfl) hi hz0 .i64 .i64 (n : Nat) (n : Nat) (by omega) (by omega) (by rw [hz2]; omega) (by omega)
  rw [this, hz1]
  have e : madeCells (Value.cells (.int .u8 0)) (Int.toNat (n : Nat) * 1) = (byv (List.replicate n 0)).toArray := by
    apply Array.ext'
    show (madeCells #[.int .u8 0] (Int.toNat (n : Nat) * 1)).toList = _
    rw [toList_madeCells_one, zeros_byv]
    simp
  rw [e]
  simp
set_option maxRecDepth 100000 in
set_option maxHeartbeats 1000000 in
theorem read_disk {w : World} {d mn ml c : Nat} {n : Nat} {a0 a1 a2 : Int} {pv : Value} {f : Int → Option Value} {S : Int → Bytes} (h : DiskRow w d n mn ml pv a0 a1 a2) (hm : MapF w mn f c) (hS : Secs w f S) (k : Nat) (hk : k < n) :
    Calls Tryz.prog 115 #[.pointer (some ⟨d, 0, none⟩), .int .i64 k] w fun e w' => ∃ v r, e = .returned (.tuple #[v, .int .i64 0]) ∧ Bts w' v (S k) ∧ DiskRow w' d n mn ml pv r a1 a2 ∧ Upd (fun b => b = d) w w' := by
  have hmd : mn ≠ d := fun e => by subst e; exact hm.notCells _ _ _ h
  have c0 : w.cell? ⟨d, 0, none⟩ = some (.int .i64 n) := by rw [cell_heap h]; rfl
  have c1 : w.cell? ⟨d, 1, none⟩ = some (.map (some mn)) := by rw [cell_heap h]; rfl
  have c6 : w.cell? ⟨d, 6, none⟩ = some (.int .i64 a0) := by rw [cell_heap h]; rfl
  have f6 : w.frozen? ⟨d, 6, none⟩ = false := frozen_heap h
  have hkn : ¬ ((k : Int) ≥ (n : Int)) := by omega
  have hkn2 : (k : Int) < (n : Int) := by omega
  have hk0 : ¬ ((k : Int) < 0) := by omega
  have hdown := down_disk h
  have hadd := add_any d 6 a0 1 w c6 f6
  have HD := Lib.hid hdown
  have HA := Lib.hid hadd
  have HH := Lib.hid h
  have HM := Lib.hid hm
  have HS := Lib.hid hS
  clear hdown hadd h hm hS c6 f6
  go_enter Tryz.func115, Tryz.ntmps115
  go_wp2_with (go_at_call 132; refine HD.out.mono ?_; rintro e w1 ⟨rfl, rfl⟩)
  refine HA.out.mono ?_
  rintro e w2 ⟨r, rfl, hw2⟩
  have hU2 : Upd (fun b => b = d) w1 w2 := by rw [hw2]; exact (Upd.refl _ w1).setCell _ (.inl rfl)
  have hr2 : DiskRow w2 d n mn ml pv r a1 a2 := by
    unfold DiskRow
    rw [hw2, heap_setCell_same w1 d 6 _ _ _ HH.out]
    rfl
  have hm2 := HM.out.upd hU2 hmd
  have hS2 : Secs w2 f S := HS.out.upd hU2 (by rintro b cs fr rfl e; rw [HH.out] at e; simp at e)
  have c1' : w2.cell? ⟨d, 1, none⟩ = some (.map (some mn)) := by rw [cell_heap hr2]; rfl
  have hz := zero_bs w2
  have HR2 := Lib.hid hr2
  have HM2 := Lib.hid hm2
  have HS2 := Lib.hid hS2
  have HU2 := Lib.hid hU2
  have HZ := Lib.hid hz
  clear hU2 hr2 hm2 hS2 hz hw2 c0 c1
  cases hfk : f (k : Int) with
  | some v =>
    have hb : Bts w2 v (S (k : Int)) := by have := (HS2.out (k : Int)).2; rw [hfk] at this; exact this
    have hl := (HS2.out (k : Int)).1
    have HCL := Lib.hid (cloneb_any v (S (k : Int)) w2 hb (by omega))
    clear hb hl
    go_wp2_with (first | (at_lookup; refine wpList_lookF rfl _ _ 125 3 23 true rfl (by kernel_rfl) (by kernel_rfl) mn c f HM2.out rfl (k : Int) rfl _ HZ.out ?_) | fail)
    refine HCL.out.mono ?_
    rintro e w3 ⟨v3, rfl, ho, hn, hU3⟩
    have HF := Lib.hid (And.intro ho hU3)
    clear ho hn hU3
    go_wp2
    go_ret2
    refine ⟨_, r, rfl, own_rd HF.out.1, HF.out.2.heap HR2.out (fun f => f), HU2.out.andExt HF.out.2⟩
  | none =>
    have hb : S (k : Int) = List.replicate 256 0 := by have := (HS2.out (k : Int)).2; rw [hfk] at this; exact this
    have hmk : ∀ wz, (Instr.makeSlice 23 (.int .i64 256) (.int .i64 256)).run Tryz.prog wz = .ok (.slice (some ⟨wz.heap.size, 0, none⟩) 256 256) (wz.alloc (.cells (byv (List.replicate 256 0)).toArray 5)) := make_zeros 256 (by omega)
    have HB := Lib.hid hb
    clear hb
    go_wp2_with (first | (at_lookup; refine wpList_lookF rfl _ _ 125 3 23 true rfl (by kernel_rfl) (by kernel_rfl) mn c f HM2.out rfl (k : Int) rfl _ HZ.out ?_) | fail)
    go_ret2
    refine ⟨_, r, rfl, ?_, ((Upd.refl (fun _ => False) w2).alloc _).heap HR2.out (fun f => f), HU2.out.andExt ((Upd.refl (fun _ => False) w2).alloc _)⟩
    rw [HB.out]
    have := Rd.lit w2 5 (byv (List.replicate 256 0)).toArray (by simp)
    simpa [Bts] using this
end Go.Proofs.YtecfhfddgolpfaaGreat
