/- The slave's Do: what the deferred literal does. -/
import Derived.Test.YteecgdbicokgoaaS0
import Derived.Recover
namespace Go.Proofs.Yteecgdbicokgoaa
open Go.RowKit
set_option linter.unusedVariables false
set_option linter.unusedSimpArgs false
set_option maxRecDepth 100000
theorem catch_flt (g : Nat) (v0 : Value) (f : Int) (hf : 0 ≤ f ∧ f ≤ 255) (w : World) (hB : Blk w g 78 #[v0]) :
    CallsD Try.prog 54 #[.pointer (some ⟨g, 0, none⟩)] (.panicking (faultE f)) w fun e u' w' =>
      e = .returned (.tuple #[]) ∧ u' = .panicking [{ v := .iface 147 (.int .i64 f), recovered := true }] ∧ w' = (w.alloc (.cells #[.int .u8 2, .int .u8 f, .slice none 0 0] 82)).setCell ⟨g, 0, none⟩ (.slice (some ⟨w.heap.size, 0, none⟩) 1 1) := by
  have CD := Lib.hid (fun w => code_any f hf w)
  have hta : ∀ w, (Instr.typeAssert (.iface 147 (.int .i64 f)) 20 147 true).run Try.prog w = .ok (.tuple #[.int .i64 f, .bool true]) w := fun w => by first | rfl | kernel_rfl
  refine callsD_of_wpS Try.func54 rfl fun c₀ cs hu => ?_
  apply wpS_seq
  apply wpS_region
  simp [wpOpsS, go_sem, recoverD, hu, Try.ntmps54, Exit.thenS]
  refine wpS_of_wp ?_
  simp only [Array.replicate_succ, Array.replicate_zero, List.push_toArray, List.setIfInBounds_toArray, List.append_toArray, List.nil_append, List.cons_append, List.set_cons_succ, List.set_cons_zero, Nat.reduceAdd]
  have hz2 := fun o => (hB.alloc o).frozen
  have hc2 := fun o => (hB.alloc o).cell
  go_wp2_with fail
  refine (CD.out _).mono ?_
  rintro e w1 ⟨rfl, rfl⟩
  go_wp2_with fail
  simp [bodyPostS, results, Try.results54]
theorem catch_idle (p : Addr) (w : World) :
    CallsD Try.prog 54 #[.pointer (some p)] .returning w fun e u' w' => e = .returned (.tuple #[]) ∧ u' = .returning ∧ w' = w := by
  refine callsD_of_wpS Try.func54 rfl fun c₀ cs hu => ?_
  apply wpS_seq
  apply wpS_region
  simp [wpOpsS, go_sem, recoverD, hu, Try.ntmps54, Exit.thenS]
  refine wpS_of_wp ?_
  simp only [Array.replicate_succ, Array.replicate_zero, List.push_toArray, List.setIfInBounds_toArray, List.append_toArray, List.nil_append, List.cons_append, List.set_cons_succ, List.set_cons_zero, Nat.reduceAdd]
  go_wp2_with fail
  cases c₀
  simp_all [bodyPostS, results, Try.results54]
end Go.Proofs.Yteecgdbicokgoaa
