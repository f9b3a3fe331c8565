/- A row of bools that came in. -/
import Derived.Test.YtbmkfjgodgmjnaaCO
namespace Go.Proofs.Ytbmkfjgodgmjnaa
open Go.RowKit Go.ChangeShapes Go.WideShapes Go.ChangeAt
set_option linter.unusedVariables false
set_option linter.unusedSimpArgs false
theorem flatC_bool : ∀ l : List Bool, flatC (fun b => [Value.bool b]) l = l.map Value.bool
  | [] => rfl
  | f :: l => by rw [flatC, List.map_cons, flatC_bool l]; rfl
theorem open_bools {H : Type} {enc : TypeId × Value → H} {w : World} {base : Nat} {spare : Nat → Bool} {held : Bool} {fuel : Nat} {cs : List Value} {x : DataW H × List MemPlace} (h : DataW.trod enc Try.prog w base spare held fuel 43 cs = some x) :
    ∃ (A : Option Addr) (n c : Nat) (l : List Bool), cs = [.slice A n c] ∧ n ≤ c ∧ c ≤ maxLen ∧ (A = none → n = 0 ∧ c = 0) ∧ l.length = n ∧ (∀ t ∈ l, True) ∧ Rd w w.heap.size A (l.map Value.bool) := by
  obtain ⟨A, n, c, l, h1, h2, h3, h4, h5, h6, h7⟩ := rowN (fun b : Bool => [Value.bool b]) (fun _ => True) 1 (by decide) Try.underlying43 cells4 (fun m cs y hy => by
    obtain ⟨b, e, -⟩ := DataW.trod_bool Try.underlying4 hy
    exact ⟨b, e, trivial⟩) (fun a => rfl) h
  exact ⟨A, n, c, l, h1, h2, h3, h4, h5, h6, by rw [← flatC_bool]; exact h7⟩
end Go.Proofs.Ytbmkfjgodgmjnaa
