/- The disk: how it lies in memory; Size, Down, burn. -/
import Derived.Test.YtecfhfddgolpfaaGreatLibD
import Derived.Test.YtecfhfddgolpfaaGreatMapA
namespace Go.Proofs.YtecfhfddgolpfaaGreat
open Go.RowKit

/-- The record of a disk that doesn't fail: size n, maps mn and ml, pending writes pv, counters a0 a1 a2. -/
def DiskRow (w : World) (d : Nat) (n : Int) (mn ml : Nat) (pv : Value) (a0 a1 a2 : Int) : Prop :=
  w.heap[d]? = some (.cells #[.int .i64 n, .map (some mn), .map (some ml), pv, .int .i64 (-1), .bool false, .int .i64 a0, .int .i64 a1, .int .i64 a2] 134 (0, 0))

set_option maxRecDepth 100000 in
theorem size_disk {w : World} {d mn ml : Nat} {n a0 a1 a2 : Int} {pv : Value} (h : DiskRow w d n mn ml pv a0 a1 a2) :
    Calls Tryz.prog 49 #[.pointer (some ⟨d, 0, none⟩)] w fun e w' => e = .returned (.int .i64 n) ∧ w' = w := by
  have c0 : w.cell? ⟨d, 0, none⟩ = some (.int .i64 n) := by rw [cell_heap h]; rfl
  clear h
  go_enter Tryz.func49, Tryz.ntmps49
  go_wp2
  go_ret
  exact ⟨rfl, rfl⟩
set_option maxRecDepth 100000 in
theorem down_disk {w : World} {d mn ml : Nat} {n a0 a1 a2 : Int} {pv : Value} (h : DiskRow w d n mn ml pv a0 a1 a2) :
    Calls Tryz.prog 132 #[.pointer (some ⟨d, 0, none⟩)] w fun e w' => e = .returned (.bool false) ∧ w' = w := by
  have c0 : w.cell? ⟨d, 5, none⟩ = some (.bool false) := by rw [cell_heap h]; rfl
  clear h
  go_enter Tryz.func132, Tryz.ntmps132
  go_wp2
  go_ret
  exact ⟨rfl, rfl⟩
set_option maxRecDepth 100000 in
theorem burn_disk {w : World} {d mn ml : Nat} {n a0 a1 a2 : Int} {pv : Value} (h : DiskRow w d n mn ml pv a0 a1 a2) :
    Calls Tryz.prog 162 #[.pointer (some ⟨d, 0, none⟩)] w fun e w' => e = .returned (.bool true) ∧ w' = w := by
  have c0 : w.cell? ⟨d, 4, none⟩ = some (.int .i64 (-1)) := by rw [cell_heap h]; rfl
  clear h
  go_enter Tryz.func162, Tryz.ntmps162
  go_wp2
  go_ret
  exact ⟨rfl, rfl⟩

theorem run_mkmap {P : Program} (t : TypeId) (w : World) : (Instr.makeMap t none).run P w = .ok (.map (some w.heap.size)) (w.alloc (.map #[] 0)) := by
  simp [Instr.makeMap, Result.andThen]
set_option maxRecDepth 100000 in
/-- disk.New. -/
theorem new_disk (n : Nat) (hn : n ≤ 65536) (w : World) :
    Calls Tryz.prog 27 #[.int .i64 n] w fun e w' => ∃ d mn ml, e = .returned (.pointer (some ⟨d, 0, none⟩)) ∧ DiskRow w' d n mn ml (.slice none 0 0) 0 0 0 ∧ MapF w' mn (fun _ => none) 0 ∧ MapF w' ml (fun _ => none) 0 ∧ w.heap.size ≤ d ∧ w.heap.size ≤ mn ∧ w.heap.size ≤ ml ∧ d ≠ mn ∧ d ≠ ml ∧ mn ≠ ml ∧ Ext w w' := by
  have h0 : ¬ (65536 : Int) < (n : Int) := by omega
  have h1 : ¬ ((n : Int) < 0) := by omega
  have hmk : ∀ wz, (Instr.makeMap 125 none).run Tryz.prog wz = .ok (.map (some wz.heap.size)) (wz.alloc (.map #[] 0)) := fun wz => run_mkmap _ wz
  go_enter Tryz.func27, Tryz.ntmps27
  go_wp2
  go_ret
  refine ⟨w.heap.size + 1 + 1, rfl, w.heap.size, w.heap.size + 1, ?_, ?_, ?_, by omega, by omega, by omega, by omega, by omega, by omega, (((Upd.refl _ w).alloc _).alloc _).alloc _⟩
  · have := heap_alloc_new ((w.alloc (.map #[] 0)).alloc (.map #[] 0)) (.cells #[.int .i64 n, .map (some w.heap.size), .map (some (w.heap.size + 1)), .slice none 0 0, .int .i64 (-1), .bool false, .int .i64 0, .int .i64 0, .int .i64 0] 134)
    simpa [DiskRow] using this
  · exact (MapF.made w).upd (((Upd.refl (fun _ => False) (w.alloc (.map #[] 0))).alloc (.map #[] 0)).alloc _) (fun f => f)
  · have := (MapF.made (w.alloc (.map #[] 0))).upd ((Upd.refl (fun _ => False) (((w.alloc (.map #[] 0))).alloc (.map #[] 0))).alloc (.cells #[.int .i64 n, .map (some w.heap.size), .map (some (w.heap.size + 1)), .slice none 0 0, .int .i64 (-1), .bool false, .int .i64 0, .int .i64 0, .int .i64 0] 134)) (fun f => f)
    simpa using this
end Go.Proofs.YtecfhfddgolpfaaGreat
