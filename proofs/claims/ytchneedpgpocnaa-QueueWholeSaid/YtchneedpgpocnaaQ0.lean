/- The queue: what it holds in memory; New, Len, ContainsFunc. -/
import Derived.Test.YtchneedpgpocnaaChg
namespace Go.Proofs.Ytchneedpgpocnaa
open Go.RowKit
set_option linter.unusedVariables false
set_option linter.unusedSimpArgs false
/-- A packet: its kind, its code, its bytes, and the slice that holds these. -/
structure It where
  kind : Int
  code : Int
  A : Option Addr
  n : Nat
  c : Nat
  b : List Int
abbrev It.val (t : It) : Value := .agg #[.int .u8 t.kind, .int .u8 t.code, .slice t.A t.n t.c]
def It.cells (t : It) : List Value := [.int .u8 t.kind, .int .u8 t.code, .slice t.A t.n t.c]
def cellsL : List It → List Value
  | [] => []
  | t :: l => .int .u8 t.kind :: .int .u8 t.code :: .slice t.A t.n t.c :: cellsL l
theorem cellsL_len : ∀ l : List It, (cellsL l).length = l.length * 3
  | [] => rfl
  | t :: l => by simp only [cellsL, List.length_cons, cellsL_len l]; omega
theorem cellsL_app : ∀ l m : List It, cellsL (l ++ m) = cellsL l ++ cellsL m
  | [], m => rfl
  | t :: l, m => by simp [cellsL, cellsL_app l m]
theorem cellsL_drop : ∀ (l : List It) (k : Nat), (cellsL l).drop (k * 3) = cellsL (l.drop k)
  | l, 0 => by simp
  | [], k + 1 => by simp [cellsL]
  | t :: l, k + 1 => by
    rw [show (k + 1) * 3 = k * 3 + 1 + 1 + 1 by omega]
    simp only [cellsL, List.drop_succ_cons]
    exact cellsL_drop l k
theorem cellsL_get (l : List It) (k : Nat) (t : It) (h : l[k]? = some t) : (cellsL l)[k * 3]? = some (.int .u8 t.kind) ∧ (cellsL l)[k * 3 + 1]? = some (.int .u8 t.code) ∧ (cellsL l)[k * 3 + 2]? = some (.slice t.A t.n t.c) := by
  have hd := cellsL_drop l k
  obtain ⟨m, hm⟩ : ∃ m, l.drop k = t :: m := by
    obtain ⟨hk, e⟩ := List.getElem?_eq_some_iff.1 h
    exact ⟨l.drop (k + 1), by rw [List.drop_eq_getElem_cons hk, e]⟩
  rw [hm] at hd
  have g : ∀ j, (cellsL l)[k * 3 + j]? = (cellsL (t :: m))[j]? := fun j => by rw [← hd, List.getElem?_drop]
  exact ⟨(g 0).trans rfl, (g 1).trans rfl, (g 2).trans rfl⟩
theorem cellsL_one (l : List It) : ∀ u ∈ cellsL l, u.oneCell' = true := by
  induction l with
  | nil => intro u h; cases h
  | cons t l ih =>
    intro u h
    simp only [cellsL, List.mem_cons] at h
    rcases h with rfl | rfl | rfl | h
    · rfl
    · rfl
    · rfl
    · exact ih u h
/-- What a packet says. -/
def It.key (t : It) : Int × Int × List Int := (t.kind, t.code, t.b)
/-- Packets that can be read. -/
def ItRd (w : World) (l : List It) : Prop := ∀ t ∈ l, t.b.length = t.n ∧ t.n ≤ 1000000 ∧ (t.A = none → t.n = 0 ∧ t.c = 0) ∧ Rd w w.heap.size t.A (u8s t.b) ∧ t.n ≤ t.c ∧ t.c ≤ maxLen
/-- Packets whose bytes are the call's own. -/
def ItOk (w : World) (base : Nat) (l : List It) : Prop := ∀ t ∈ l, t.b.length = t.n ∧ t.n ≤ 1000000 ∧ Own w base 5 1 t.A t.n t.c (u8s t.b)
theorem ItOk.nil (w : World) (base : Nat) : ItOk w base [] := fun t h => by cases h
theorem ItOk.chg {F : Nat → Prop} {w w' : World} {base : Nat} {l : List It} (h : ItOk w base l) (hc : Chg F w w') (hF : ∀ g, F g → g < w.heap.size → ∃ t cs, Blk w g t cs ∧ t ≠ 5) : ItOk w' base l := fun t ht => by
  obtain ⟨h1, h2, h3⟩ := h t ht
  refine ⟨h1, h2, h3.chg hc fun g hg hf => ?_⟩
  obtain ⟨t', cs, hB, hne⟩ := hF g hf (h3.lt hg).2
  exact h3.ne_blk hg hB (fun e => hne e.symm) rfl
theorem ItOk.below {w w' : World} {base : Nat} {l : List It} (h : ItOk w base l) (hb : Below w.heap.size w w') : ItOk w' base l := fun t ht => by
  obtain ⟨h1, h2, h3⟩ := h t ht
  exact ⟨h1, h2, h3.below hb⟩
theorem ItRd.below {w w' : World} {l : List It} (h : ItRd w l) (hb : Below w.heap.size w w') : ItRd w' l := fun t ht => by
  obtain ⟨h1, h2, h3, h4, h5⟩ := h t ht
  exact ⟨h1, h2, h3, (h4.below hb).more hb.size, h5⟩
/-- The queue's own block. -/
def qcs (most : Int) (A : Option Addr) (n c : Nat) (lost : List Bool) : Array Value := (.int .i64 most :: .slice A n c :: lost.map Value.bool).toArray
structure Qs where
  most : Int
  l : List It
  lost : List Bool
/-- A queue in memory. -/
structure Qat (w : World) (base q : Nat) (A : Option Addr) (c : Nat) (s : Qs) : Prop where
  blk : Blk w q 54 (qcs s.most A s.l.length c s.lost)
  own : Own w base 31 3 A s.l.length c (cellsL s.l)
  its : ItOk w base s.l
  four : s.lost.length = 4
/-- What a call on a queue may write. -/
def qF (q : Nat) (A : Option Addr) (g : Nat) : Prop := g = q ∨ blkOf A = some g
theorem Qat.chg {F : Nat → Prop} {w w' : World} {base q : Nat} {A : Option Addr} {c : Nat} {s : Qs} (h : Qat w base q A c s) (hc : Chg F w w') (hq : ¬ F q) (hA : ∀ g, blkOf A = some g → ¬ F g) (hF : ∀ g, F g → g < w.heap.size → ∃ t cs, Blk w g t cs ∧ t ≠ 5) : Qat w' base q A c s :=
  ⟨h.blk.chg hc hq, h.own.chg hc hA, h.its.chg hc hF, h.four⟩
theorem Qat.below {w w' : World} {base q : Nat} {A : Option Addr} {c : Nat} {s : Qs} (h : Qat w base q A c s) (hb : Below w.heap.size w w') : Qat w' base q A c s :=
  ⟨h.blk.below hb, h.own.below hb, h.its.below hb, h.four⟩
theorem Qat.c0 {w : World} {base q : Nat} {A : Option Addr} {c : Nat} {s : Qs} (h : Qat w base q A c s) : w.cell? ⟨q, 0, none⟩ = some (.int .i64 s.most) ∧ w.cell? ⟨q, 1, none⟩ = some (.slice A s.l.length c) :=
  ⟨(h.blk.cell 0).trans rfl, (h.blk.cell 1).trans rfl⟩

theorem new_no (n : Int) (w : World) (h : n < 1 ∨ 64 < n) : Calls Try.prog 9 #[.int .i64 n] w fun e w' => e = .returned (.tuple #[.pointer none, .int .i64 1]) ∧ w = w' := by
  rcases h with h | h
  · go_enter Try.func9, Try.ntmps9
    go_wp2
    go_ret2
    exact ⟨rfl, rfl⟩
  · have h' : 1 ≤ n := by omega
    go_enter Try.func9, Try.ntmps9
    go_wp2
    go_ret2
    exact ⟨rfl, rfl⟩
theorem new_yes (n : Int) (w : World) (h1 : 1 ≤ n) (h2 : n ≤ 64) : Calls Try.prog 9 #[.int .i64 n] w fun e w' => ∃ q, e = .returned (.tuple #[.pointer (some ⟨q, 0, none⟩), .int .i64 0]) ∧ w.heap.size ≤ q ∧ (∀ base, Qat w' base q none 0 ⟨n, [], [false, false, false, false]⟩) ∧ Below w.heap.size w w' := by
  go_enter Try.func9, Try.ntmps9
  go_wp2
  go_ret2
  exact ⟨w.heap.size, rfl, Nat.le_refl _, fun base => ⟨Blk.new _ _ _, Own.nil _ _ _ _, ItOk.nil _ _, rfl⟩, (Below.refl _ _).alloc (Nat.le_refl _) _⟩
theorem len_nil (w : World) : Calls Try.prog 13 #[.pointer none] w fun e w' => e = .returned (.int .i64 0) ∧ w = w' := by
  go_enter Try.func13, Try.ntmps13
  go_wp2
  go_ret
  exact ⟨rfl, rfl⟩
theorem len_any {w : World} {base q : Nat} {A : Option Addr} {c : Nat} {s : Qs} (h : Qat w base q A c s) : Calls Try.prog 13 #[.pointer (some ⟨q, 0, none⟩)] w fun e w' => e = .returned (.int .i64 s.l.length) ∧ w = w' := by
  obtain ⟨h0, h1⟩ := h.c0
  go_enter Try.func13, Try.ntmps13
  go_wp2
  go_ret
  exact ⟨rfl, rfl⟩
/-- Has some packet a code that is too great? -/
def bad (l : List It) : Bool := l.any fun t => decide (64 ≤ t.code)
theorem big_any (t : It) (w : World) : Calls Try.prog 21 #[t.val] w fun e w' => e = .returned (.bool (decide (64 ≤ t.code))) ∧ Below w.heap.size w w' := by
  obtain ⟨kind, code, A, n, c, b⟩ := t
  go_enter Try.func21, Try.ntmps21
  go_wp2
  go_ret
  exact ⟨rfl, (Below.refl _ _).alloc (Nat.le_refl _) _⟩
end Go.Proofs.Ytchneedpgpocnaa
