/- A region inside a round, by the law for the unfenced one. -/
import Derived.OrdersIn
import Derived.OrdersHeld
import Derived.RangeFuncCalls
import Derived.TacticsIn
import Derived.RangeFuncKeeps
namespace Go.Proofs.Yteecgdbicokgoaa
open Go
set_option linter.unusedVariables false
set_option linter.unusedSimpArgs false
section
variable {P : Program} {ops : Array Oper} {Q : Exit → Act → World → Prop} {S : World → Prop}
theorem rows_round (l n : Nat) {row : String} {args : Array Value} {w : World} {R : Value → World → Prop} (h : Rows P row args w R) : RowsIn (Fence.wide.inRound l) n P row args w R :=
  fun c cs _ => let ⟨v, w', r, s⟩ := h c cs; ⟨v, w', r, stepsIn_wide.2 s⟩
theorem op_round (l n : Nat) {o : Oper} (hd : ∀ c, o.op ≠ .defer c) {a : Act} {w : World} {K : Act → World → Prop} (h : o.wp P a w K Q) : o.wpIn (Fence.wide.inRound l) n P a w K Q := by
  refine ⟨fun _ _ => trivial, ?_⟩
  rw [Oper.semAt_eq _ _ _ hd]
  unfold Oper.wp at h
  generalize (execOp a.eval o).run P w = r at *
  cases r with
  | ok x w' =>
    cases x <;> simp only [Oper.upon, Oper.uponIn] at h ⊢ <;>
      first
        | exact h
        | exact ⟨fun hx => (by cases hx), CallsIn.inRound l (callsIn_wide.2 h)⟩
        | exact ⟨fun hx => (by cases hx), rows_round l _ h⟩
  | halt x w' => cases x <;> simp only [Oper.upon, Oper.uponIn] at h ⊢ <;> exact h
theorem any_round (l n : Nat) (md : Region.Mode) (hd : ∀ (i : Nat) (o : Oper), ops[i]? = some o → ∀ c, o.op ≠ .defer c) (hL : ¬ LetsOut Q) : ∀ (fuel : Nat) (listed : Array Bool) (a : Act) (w : World), wpAny P md ops Q fuel listed a w → wpAnyIn (Fence.wide.inRound l) n P md ops Q fuel listed a w
  | 0, _, _, _, h => h
  | fuel + 1, listed, a, w, h => ⟨h.1, fun i hi => by
      have h2 := h.2 i hi
      unfold wpOp at h2
      unfold wpOpIn
      split
      · rename_i ho
        simp only [ho] at h2
        exact any_round l n md hd hL fuel _ _ _ h2
      · rename_i o ho
        simp only [ho] at h2
        split
        · rename_i hw
          simp only [hw, if_true] at h2
          rcases h2 with h2 | h2
          · exact Oper.wpIn_mono (fun a w hk => any_round l n md hd hL fuel _ a w hk) (op_round l n (hd i o ho) h2)
          · exact absurd h2.2 hL
        · rename_i hw
          simp only [hw] at h2
          exact ⟨fun _ _ => trivial, any_round l n md hd hL fuel _ _ _ h2⟩⟩
/-- No operation of it is a defer statement. -/
def noDefer (ops : Array Oper) : Bool := ops.toList.all fun o => match o.op with | .defer _ => false | _ => true
theorem noDefer_spec (h : noDefer ops = true) : ∀ (i : Nat) (o : Oper), ops[i]? = some o → ∀ c, o.op ≠ .defer c := fun i o ho c hc => by
  have hm : o ∈ ops.toList := by
    rw [Array.mem_toList_iff]
    exact Array.mem_of_getElem? ho
  have := List.all_eq_true.1 h o hm
  rw [hc] at this
  cases this
theorem region_round {l n : Nat} {id : Nat} {a : Act} {w : World} (hm : P.follows .mixedOrders = true) (hd : noDefer ops = true) (hL : ¬ LetsOut Q)
    (h : wpAnyH P .any ops Q S ops.size (Array.replicate ops.size false) a w.drew) : (Code.region id ops true).wpIn (Fence.wide.inRound l) n P Q a w :=
  wpIn_region_any hm (any_round l n .any (noDefer_spec hd) hL _ _ _ _ (wpAny_of_held _ _ _ _ h))
theorem list_round (l n : Nat) (hL : ¬ LetsOut Q) : ∀ (os : List Oper), (∀ o ∈ os, ∀ c, o.op ≠ .defer c) → ∀ (a : Act) (w : World), wpList P ops Q os a w → wpListIn (Fence.wide.inRound l) n P ops Q os a w
  | [], _, _, _, h => h
  | o :: os, hd, a, w, h => by
    simp only [wpList] at h
    simp only [wpListIn]
    split
    · rename_i hw
      simp only [hw, if_true] at h
      rcases h with h | h
      · exact Oper.wpIn_mono (fun a w hk => list_round l n hL os (fun o ho => hd o (by simp [ho])) a w hk) (op_round l n (hd o (by simp)) h)
      · exact absurd h.2 hL
    · rename_i hw
      simp only [hw] at h
      exact ⟨fun _ _ => trivial, list_round l n hL os (fun o ho => hd o (by simp [ho])) _ _ h⟩
theorem lit_round {l n : Nat} {id : Nat} {os : List Oper} {a : Act} {w : World} (hd : noDefer os.toArray = true) (hL : ¬ LetsOut Q) (h : wpList P os.toArray Q os a w) : (Code.region id os.toArray false).wpIn (Fence.wide.inRound l) n P Q a w :=
  wpIn_region_lit (list_round l n hL os (fun o ho => by
    obtain ⟨i, hi⟩ := List.getElem?_of_mem ho
    exact noDefer_spec hd i o (by simpa using hi)) a w h)
end
end Go.Proofs.Yteecgdbicokgoaa
