/- chars.Names: what it makes, by a run. -/
import Derived.Test.YtjhednolknlpiaaT3
import Derived.Test.YtjhednolknlpiaaM2
import Derived.Test.YtjhednolknlpiaaDmRi
namespace Go.Proofs.Ytjhednolknlpiaa
namespace Code
open Go.Dm
noncomputable def r1 : Option (DV × Heap) := closed D 400 5 [] false Heap.start
theorem head_run : okR r1 (.bool true) = true := by decide +kernel
noncomputable def r2 : Option (DV × Heap) := closed D 3000 6 [] true (heapOf r1)
theorem names_run : okR r2 (.lst 1 3 (Md.names.map encE)) = true := by decide +kernel
theorem head_both : ClC D 5 [] false Heap.start (.bool true) (heapOf r1) ∧ Nat.ble 2 (heapOf r1).next = true := by
  have h := head_run
  unfold r1 at h ⊢
  exact closed_ok h
theorem names_both : ClC D 6 [] true (heapOf r1) (.lst 1 3 (Md.names.map encE)) (heapOf r2) ∧ Nat.ble 2 (heapOf r2).next = true := by
  have h := names_run
  unfold r2 at h ⊢
  exact closed_ok h
/-- The heaps that are known, by name. -/
theorem heaps : ∃ h1 h2 : Heap, (ClC D 5 [] false Heap.start (.bool true) h1 ∧ Nat.ble 2 h1.next = true) ∧ (ClC D 6 [] true h1 (.lst 1 3 (Md.names.map encE)) h2 ∧ Nat.ble 2 h2.next = true) :=
  ⟨_, _, head_both, names_both⟩
end Code
end Go.Proofs.Ytjhednolknlpiaa
