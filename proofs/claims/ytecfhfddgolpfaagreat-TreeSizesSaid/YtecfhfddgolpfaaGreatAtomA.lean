/- (*sync/atomic.Int64).Add. -/
import Derived.Test.YtecfhfddgolpfaaGreatMem
import Derived.Laws.Externs
namespace Go.Proofs.YtecfhfddgolpfaaGreat
open Go.RowKit

theorem find_add : Extern.find Tryz.f153 = some (Extern.Atomic.update (Op.intArith .add) .i64 true) := by kernel_rfl
theorem run_add (p : Addr) (v k : Int) (w : World) (h : w.cell? p = some (.int .i64 v)) (hf : w.frozen? p = false) :
    ∃ r, (callFunc 153 #[.pointer (some p), .int .i64 k]).run Tryz.prog w = .ok (.value (.int .i64 r)) (w.setCell p (.int .i64 r)) := by
  rw [run_callFunc_extern (f := 153) (fn := Tryz.f153) Tryz.func153 (by kernel_rfl) (by kernel_rfl) (by kernel_rfl) find_add]
  have e : Extern.Atomic.update (Op.intArith .add) .i64 true #[.pointer (some p), .int .i64 k] = (do
      let a ← asAddr (.pointer (some p))
      let old ← Extern.Atomic.read (.int .i64) a
      let new ← Op.intArith .add .i64 (← asInt old) (← asInt (.int .i64 k))
      store a new .atomic
      pure new) := rfl
  rw [e]
  simp [Extern.Atomic.read, Op.intArith, asAddr, asInt, asIntOf, h, hf, Result.andThen, go_sem]
set_option maxRecDepth 100000 in
theorem add_any (d o : Nat) (v k : Int) (w : World) (h : w.cell? ⟨d, o, none⟩ = some (.int .i64 v)) (hf : w.frozen? ⟨d, o, none⟩ = false) :
    Calls Tryz.prog 133 #[.pointer (some ⟨d, o, none⟩), .int .i64 k] w fun e w' => ∃ r, e = .returned (.int .i64 r) ∧ w' = w.setCell ⟨d, o, none⟩ (.int .i64 r) := by
  obtain ⟨r, hr⟩ := run_add ⟨d, o, none⟩ v k w h hf
  go_enter Tryz.func133, Tryz.ntmps133
  go_wp2
  go_ret
  exact ⟨r, rfl, rfl⟩
end Go.Proofs.YtecfhfddgolpfaaGreat
