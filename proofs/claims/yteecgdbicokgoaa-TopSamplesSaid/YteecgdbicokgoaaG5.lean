/- Daq: lists that are the same. -/
import Derived.Test.YteecgdbicokgoaaG4
import Derived.Test.YteecgdbicokgoaaConf
namespace Go.Proofs.Yteecgdbicokgoaa
open Go.RowKit
set_option linter.unusedVariables false
set_option linter.unusedSimpArgs false
set_option maxRecDepth 100000
theorem eq43 (e : En) (w : World) : (Op.equalIn 10000 76 (.agg #[.int .u8 e.size, .int .u8 e.area, .int .u32 e.pl]) (.agg #[.int .u8 e.size, .int .u8 e.area, .int .u32 e.pl])).run Try.prog w = .ok true w := by
  have hS : Try.prog.underlying 76 = some (.struct (Try.prog.fieldsOf 76)) := by kernel_rfl
  have hp : Try.prog.stoodInHeld 76 = false := by kernel_rfl
  have u5 := Try.underlying5
  have u30 := Try.underlying33
  rw [show (10000 : Nat) = 9999 + 1 from rfl, run_equalIn_agg w 9999 76 _ _ hS hp]
  simp only [Program.fieldsOf, Try.underlying76]
  go_simp
/-- What reads, reads in every world that has come by growth. -/
theorem Rd.rule {w : World} {g o : Nat} {vs : List Value} (h : Rd w w.heap.size (some ⟨g, o, none⟩) vs) {i : Nat} {u : Value} (hu : vs[i]? = some u) : ∀ w', Below w.heap.size w w' → w'.cell? ⟨g, o + i, none⟩ = some u := fun w' hb => by
  obtain ⟨b, o', e, -, hc⟩ := h.bel hb (fun e => by rw [e] at hu; simp at hu)
  simp only [Option.some.injEq, Addr.mk.injEq, and_true] at e
  obtain ⟨rfl, rfl⟩ := e
  exact hc i u hu
theorem Rd.some_ {w : World} {B : Nat} {A : Option Addr} {vs : List Value} (h : Rd w B A vs) (hn : vs ≠ []) : ∃ g o, A = some ⟨g, o, none⟩ := by
  obtain ⟨b, o, e, -⟩ := h hn
  exact ⟨b, o, e⟩
theorem ne_nil_of_get {α : Type} {l : List α} {i : Nat} {x : α} (h : l[i]? = some x) : l ≠ [] := fun e => by rw [e] at h; simp at h
theorem map_eq_get {α β : Type} {f : α → β} {l l' : List α} (h : l.map f = l'.map f) {i : Nat} {x : α} (hx : l[i]? = some x) : ∃ y, l'[i]? = some y ∧ f x = f y := by
  have h1 : (l'.map f)[i]? = some (f x) := by rw [← h, List.getElem?_map, hx]; rfl
  rw [List.getElem?_map] at h1
  cases h2 : l'[i]? with
  | none => rw [h2] at h1; cases h1
  | some y => rw [h2] at h1; exact ⟨y, rfl, by simpa using h1.symm⟩
theorem map_eq_len {α β : Type} {f : α → β} {l l' : List α} (h : l.map f = l'.map f) : l.length = l'.length := by simpa using congrArg List.length h
end Go.Proofs.Yteecgdbicokgoaa
