/- What a lock says; the program's lock. -/
import Derived.Test.YteecgdbicokgoaaL0
import Derived.Deep.QuietTactic
import Derived.BigQuiet
namespace Go.Proofs.Yteecgdbicokgoaa
open Go.RowKit
set_option linter.unusedVariables false
set_option linter.unusedSimpArgs false
set_option maxRecDepth 100000
/-- Is it a resource? -/
def isRes (r : Int) : Bool := decide (r = 1) || (decide (r = 4) || decide (r = 8))
theorem isRes_iff (r : Int) : isRes r = true ↔ (r = 1 ∨ r = 4 ∨ r = 8) := by simp [isRes]
theorem fin256 {P : Int → Prop} (h : ∀ k : Fin 256, P (k.val : Int)) (r : Int) (h0 : 0 ≤ r) (h1 : r < 256) : P r := by
  have := h ⟨r.toNat, by omega⟩
  have e : ((r.toNat : Nat) : Int) = r := by omega
  simpa [e] using this
theorem res_yes (r : Int) (h : isRes r = true) : bits .and .u8 r 13 = r ∧ (r == 0) = false ∧ bits .and .u8 r (r - 1) = 0 ∧ 1 ≤ r ∧ r ≤ 8 := by
  rcases (isRes_iff r).1 h with rfl | rfl | rfl <;> decide
theorem res_no (r : Int) (h0 : 0 ≤ r) (h1 : r < 256) (h : isRes r = false) : bits .and .u8 r 13 ≠ r ∨ r = 0 ∨ bits .and .u8 r (r - 1) ≠ 0 := by
  have key : ∀ k : Fin 256, isRes (k.val : Int) = true ∨ (bits .and .u8 k.val 13 ≠ k.val ∨ (k.val : Int) = 0 ∨ bits .and .u8 k.val ((k.val : Int) - 1) ≠ 0) := by decide +kernel
  rcases fin256 (P := fun r => isRes r = true ∨ (bits .and .u8 r 13 ≠ r ∨ r = 0 ∨ bits .and .u8 r (r - 1) ≠ 0)) key r h0 h1 with h2 | h2
  · rw [h] at h2; cases h2
  · exact h2
theorem clr_res (x r : Int) (h0 : 0 ≤ x) (h1 : x < 256) (h : isRes r = true) : bits .andNot .u8 x r = x - bits .and .u8 x r ∧ 0 ≤ x - bits .and .u8 x r ∧ x - bits .and .u8 x r < 256 ∧ 0 ≤ bits .and .u8 x r := by
  have key : ∀ k : Fin 256, ∀ r : Int, r = 1 ∨ r = 4 ∨ r = 8 → (bits .andNot .u8 k.val r = k.val - bits .and .u8 k.val r ∧ 0 ≤ (k.val : Int) - bits .and .u8 k.val r ∧ (k.val : Int) - bits .and .u8 k.val r < 256 ∧ 0 ≤ bits .and .u8 k.val r) := by
    have k2 : ∀ k : Fin 256, (bits .andNot .u8 k.val 1 = k.val - bits .and .u8 k.val 1 ∧ 0 ≤ (k.val : Int) - bits .and .u8 k.val 1 ∧ (k.val : Int) - bits .and .u8 k.val 1 < 256 ∧ 0 ≤ bits .and .u8 k.val 1) ∧ (bits .andNot .u8 k.val 4 = k.val - bits .and .u8 k.val 4 ∧ 0 ≤ (k.val : Int) - bits .and .u8 k.val 4 ∧ (k.val : Int) - bits .and .u8 k.val 4 < 256 ∧ 0 ≤ bits .and .u8 k.val 4) ∧ (bits .andNot .u8 k.val 8 = k.val - bits .and .u8 k.val 8 ∧ 0 ≤ (k.val : Int) - bits .and .u8 k.val 8 ∧ (k.val : Int) - bits .and .u8 k.val 8 < 256 ∧ 0 ≤ bits .and .u8 k.val 8) := by decide +kernel
    intro k r hr
    rcases hr with rfl | rfl | rfl
    · exact (k2 k).1
    · exact (k2 k).2.1
    · exact (k2 k).2.2
  exact fin256 (P := fun x => ∀ r : Int, r = 1 ∨ r = 4 ∨ r = 8 → (bits .andNot .u8 x r = x - bits .and .u8 x r ∧ 0 ≤ x - bits .and .u8 x r ∧ x - bits .and .u8 x r < 256 ∧ 0 ≤ bits .and .u8 x r)) key x h0 h1 r ((isRes_iff r).1 h)
/-- All resources of a mask. -/
def m13 (r : Int) : Int := bits .and .u8 r 13
theorem m13_bd (r : Int) (h0 : 0 ≤ r) (h1 : r < 256) : 0 ≤ m13 r ∧ m13 r < 256 := by
  have key : ∀ k : Fin 256, 0 ≤ m13 k.val ∧ m13 k.val < 256 := by decide +kernel
  exact fin256 (P := fun r => 0 ≤ m13 r ∧ m13 r < 256) key r h0 h1
abbrev by8 (xs : List Int) : Prop := ∀ x ∈ xs, 0 ≤ x ∧ x < 256
theorem xor_bd (a b : Int) (ha : 0 ≤ a ∧ a < 256) (hb : 0 ≤ b ∧ b < 256) : 0 ≤ bits .xor .u8 a b ∧ bits .xor .u8 a b < 256 := by
  have key : ∀ k l : Fin 256, 0 ≤ bits .xor .u8 k.val l.val ∧ bits .xor .u8 k.val l.val < 256 := by decide +kernel
  have := key ⟨a.toNat, by omega⟩ ⟨b.toNat, by omega⟩
  have e1 : ((a.toNat : Nat) : Int) = a := by omega
  have e2 : ((b.toNat : Nat) : Int) = b := by omega
  simpa [e1, e2] using this
theorem keyL_by (s : List Int) (r : Int) (hs : by8 s) : by8 (keyL s r) := by
  intro x hx
  obtain ⟨k, hk, rfl⟩ := List.mem_map.1 hx
  refine xor_bd _ _ ?_ ⟨Int.emod_nonneg _ (by decide), Int.emod_lt_of_pos _ (by decide)⟩
  have hk := List.mem_range.1 hk
  have hlt := Nat.mod_lt (k + 1) (show s.length > 0 by omega)
  rw [List.getD_eq_getElem?_getD, List.getElem?_eq_getElem hlt]
  exact hs _ (List.getElem_mem _)
/-- A seed that is out: the seed, of which resource, how much of it was told, what came of its key. -/
structure Sd where
  s : List Int
  of : Int
  told : Nat
  came : List Int
structure LX where
  all : Int
  shut : Int
  out : Option Sd
structure Sd.ok (d : Sd) : Prop where
  s1 : 1 ≤ d.s.length
  s2 : d.s.length ≤ 20
  t : d.told ≤ d.s.length
  c : d.came.length < d.s.length
  o : isRes d.of = true
  b : by8 d.s
  cb : by8 d.came
structure LX.ok (a : LX) : Prop where
  a0 : 0 ≤ a.all
  a1 : a.all < 256
  s0 : 0 ≤ a.shut
  s1 : a.shut < 256
  out : ∀ d, a.out = some d → d.ok
def partD (d : Sd) : List Int := (d.s.drop d.told).take 6
def tellD (d : Sd) : Sd := { d with told := d.told + (partD d).length }
theorem partD_len (d : Sd) : (partD d).length = min 6 (d.s.length - d.told) := by simp [partD]
/-- What Seed answers, and leaves. -/
def seedX (a : LX) (mode res : Int) (draw : List Int) : LX × Int × List Int × Int :=
  if mode = 0 then
    if isRes res = false ∨ draw.length < 1 ∨ 20 < draw.length then (a, 0, [], 1)
    else if bits .and .u8 a.shut res = 0 then ({ a with out := none }, 0, [], 0)
    else ({ a with out := some (tellD ⟨draw, res, 0, []⟩) }, draw.length, partD ⟨draw, res, 0, []⟩, 0)
  else if mode = 1 then
    match a.out with
    | none => (a, 0, [], 90)
    | some d => if d.told = d.s.length then (a, 0, [], 90) else ({ a with out := some (tellD d) }, ((d.s.length - d.told : Nat) : Int), partD d, 0)
  else (a, 0, [], 1)
/-- What Unlock answers, and leaves. -/
def unlockX (a : LX) (left : Int) (b : List Int) : LX × Int :=
  match a.out with
  | none => ({ a with out := none }, 90)
  | some d =>
    if d.told = d.s.length ∧ left = ((d.s.length - d.came.length : Nat) : Int) ∧ (b.length : Int) = min left 6 then
      if (d.came ++ b).length < d.s.length then ({ a with out := some { d with came := d.came ++ b } }, 0)
      else if d.came ++ b = keyL d.s d.of then (⟨a.all, a.shut - bits .and .u8 a.shut d.of, none⟩, 0)
      else ({ a with out := none }, 91)
    else ({ a with out := none }, 90)
def wrongD (d : Sd) : Bool := decide (d.came ≠ (keyL d.s d.of).take d.came.length)
/-- A seed that is out, in the program's memory. -/
def TrAt (w : World) (B : Nat) (Φ : Nat → Prop) (g : Nat) (d : Sd) : Prop := ∃ A1 c1 A2 n2 c2 A3 c3, B ≤ g ∧ Blk w g 221 #[.int .u8 d.of, .slice A1 (d.s.length - d.told) c1, .slice A2 n2 c2, .slice A3 (d.s.length - d.came.length) c3, .bool (wrongD d)] ∧
  Own w 0 5 1 A1 (d.s.length - d.told) c1 (u8s (d.s.drop d.told)) ∧ Own w 0 5 1 A3 (d.s.length - d.came.length) c3 (u8s ((keyL d.s d.of).drop d.came.length)) ∧ (∀ i, blkOf A1 = some i → Φ i) ∧ (∀ i, blkOf A3 = some i → Φ i)
theorem TrAt.chT {w w' : World} {B B' g : Nat} {Φ : Nat → Prop} {d : Sd} {ts : List TypeId} (h : TrAt w B Φ g d) (hc : ChT B' ts w w') (h5 : (5 : TypeId) ∉ ts) (h51 : (221 : TypeId) ∉ ts) : TrAt w' B Φ g d := by
  obtain ⟨A1, c1, A2, n2, c2, A3, c3, h1, h2, h3, h4, h6⟩ := h
  exact ⟨A1, c1, A2, n2, c2, A3, c3, h1, h2.chT hc h51, h3.chT hc h5, h4.chT hc h5, h6⟩
theorem TrAt.imp {w : World} {B g : Nat} {Φ Ψ : Nat → Prop} {d : Sd} (h : TrAt w B Φ g d) (hi : ∀ i, Φ i → Ψ i) : TrAt w B Ψ g d := by
  obtain ⟨A1, c1, A2, n2, c2, A3, c3, h1, h2, h3, h4, h6, h7⟩ := h
  exact ⟨A1, c1, A2, n2, c2, A3, c3, h1, h2, h3, h4, fun i hx => hi i (h6 i hx), fun i hx => hi i (h7 i hx)⟩
theorem TrAt.grown {w w' : World} {B g : Nat} {Φ : Nat → Prop} {d : Sd} {row : Option Nat} (h : TrAt w B Φ g d) (hg : w.grownBy w' row) (hn : ∀ i, row = some i → ¬ Φ i ∧ ∃ cs, Blk w i 5 cs) : TrAt w' B Φ g d := by
  obtain ⟨A1, c1, A2, n2, c2, A3, c3, h1, h2, h3, h4, h6, h7⟩ := h
  have hd : ∀ {A : Option Addr}, (∀ i, blkOf A = some i → Φ i) → blkOf A = none ∨ blkOf A ≠ row := fun {A} hA => by
    cases hb : blkOf A with
    | none => exact .inl rfl
    | some i => exact .inr fun e => (hn i e.symm).1 (hA i hb)
  refine ⟨A1, c1, A2, n2, c2, A3, c3, h1, h2.grown hg (fun e => ?_), h3.grown hg (hd h6), h4.grown hg (hd h7), h6, h7⟩
  obtain ⟨cs, hcs⟩ := (hn g e.symm).2
  have := blk_ty h2 hcs
  cases this
/-- The program's lock; its bytes lie in blocks of Φ. -/
def LAt (w : World) (B : Nat) (Φ : Nat → Prop) (l : Nat) (a : LX) : Prop := B ≤ l ∧ a.ok ∧ ∃ p, Blk w l 109 #[.int .u8 a.all, .int .u8 a.shut, .pointer p] ∧ match a.out with
  | none => p = none
  | some d => ∃ g, p = some ⟨g, 0, none⟩ ∧ TrAt w B Φ g d
theorem LAt.chT {w w' : World} {B B' l : Nat} {Φ : Nat → Prop} {a : LX} {ts : List TypeId} (h : LAt w B Φ l a) (hc : ChT B' ts w w') (h5 : (5 : TypeId) ∉ ts) (h49 : (109 : TypeId) ∉ ts) (h51 : (221 : TypeId) ∉ ts) : LAt w' B Φ l a := by
  obtain ⟨h1, h2, p, h3, h4⟩ := h
  refine ⟨h1, h2, p, h3.chT hc h49, ?_⟩
  cases ho : a.out with
  | none => rw [ho] at h4; exact h4
  | some d =>
    rw [ho] at h4
    obtain ⟨g, hg, ht⟩ := h4
    exact ⟨g, hg, ht.chT hc h5 h51⟩
theorem LAt.imp {w : World} {B l : Nat} {Φ Ψ : Nat → Prop} {a : LX} (h : LAt w B Φ l a) (hi : ∀ i, Φ i → Ψ i) : LAt w B Ψ l a := by
  obtain ⟨h1, h2, p, h3, h4⟩ := h
  refine ⟨h1, h2, p, h3, ?_⟩
  cases ho : a.out with
  | none => rw [ho] at h4; exact h4
  | some d =>
    rw [ho] at h4
    obtain ⟨g, hg, ht⟩ := h4
    exact ⟨g, hg, ht.imp hi⟩
theorem LAt.grown {w w' : World} {B l : Nat} {Φ : Nat → Prop} {a : LX} {row : Option Nat} (h : LAt w B Φ l a) (hg : w.grownBy w' row) (hn : ∀ i, row = some i → ¬ Φ i ∧ ∃ cs, Blk w i 5 cs) : LAt w' B Φ l a := by
  obtain ⟨h1, h2, p, h3, h4⟩ := h
  refine ⟨h1, h2, p, h3.grown hg (fun e => ?_), ?_⟩
  · obtain ⟨cs, hcs⟩ := (hn l e.symm).2
    have := blk_ty h3 hcs
    cases this
  cases ho : a.out with
  | none => rw [ho] at h4; exact h4
  | some d =>
    rw [ho] at h4
    obtain ⟨g, hgg, ht⟩ := h4
    exact ⟨g, hgg, ht.grown hg hn⟩
theorem LAt.below {w w' : World} {B l : Nat} {Φ : Nat → Prop} {a : LX} (h : LAt w B Φ l a) (hb : Below w.heap.size w w') : LAt w' B Φ l a := h.chT (ChT.of_below hb 0 []) (by simp) (by simp) (by simp)
theorem lnew_any (r : Int) (w : World) (B : Nat) (Φ : Nat → Prop) (hB : B ≤ w.heap.size) (h0 : 0 ≤ r) (h1 : r < 256) : Calls Try.prog 30 #[.int .u8 r] w fun e w' => e = .returned (.pointer (some ⟨w.heap.size, 0, none⟩)) ∧ LAt w' B Φ w.heap.size ⟨m13 r, m13 r, none⟩ ∧ Below w.heap.size w w' := by
  obtain ⟨m0, m1⟩ := m13_bd r h0 h1
  have hm : bits .and .u8 r 13 = m13 r := rfl
  generalize m13 r = m at *
  go_enter Try.func30, Try.ntmps30
  go_wp2_with fail
  go_ret
  exact ⟨rfl, ⟨hB, ⟨m0, m1, m0, m1, fun d h => by cases h⟩, none, Blk.new _ _ _, rfl⟩, bl1 _ _⟩
theorem locked_nil (w : World) : Calls Try.prog 13 #[.pointer none] w fun e w' => e = .returned (.int .u8 0) ∧ w = w' := by
  go_enter Try.func13, Try.ntmps13
  go_wp2_with fail
  go_ret
  exact ⟨rfl, rfl⟩
theorem locked_any {w : World} {B l : Nat} {Φ : Nat → Prop} {a : LX} (h : LAt w B Φ l a) : Calls Try.prog 13 #[.pointer (some ⟨l, 0, none⟩)] w fun e w' => e = .returned (.int .u8 a.shut) ∧ w = w' := by
  obtain ⟨-, -, p, h3, -⟩ := h
  have c1 : w.cell? ⟨l, 1, none⟩ = some (.int .u8 a.shut) := (h3.cell 1).trans rfl
  go_enter Try.func13, Try.ntmps13
  go_wp2_with fail
  go_ret
  exact ⟨rfl, rfl⟩
theorem relock_nil (w : World) : Calls Try.prog 114 #[.pointer none] w fun e w' => e = .returned (.tuple #[]) ∧ w = w' := by
  go_enter Try.func114, Try.ntmps114
  go_wp2_with fail
  go_end0
  exact ⟨rfl, rfl⟩
theorem relock_any {w : World} {B l : Nat} {Φ : Nat → Prop} {a : LX} (h : LAt w B Φ l a) : Calls Try.prog 114 #[.pointer (some ⟨l, 0, none⟩)] w fun e w' => e = .returned (.tuple #[]) ∧ LAt w' B Φ l ⟨a.all, a.all, none⟩ ∧ ChT B [109, 221] w w' := by
  obtain ⟨h1, h2, p, h3, -⟩ := h
  have c0 : w.cell? ⟨l, 0, none⟩ = some (.int .u8 a.all) := (h3.cell 0).trans rfl
  have c1 : w.cell? ⟨l, 1, none⟩ = some (.int .u8 a.shut) := (h3.cell 1).trans rfl
  have c2 : w.cell? ⟨l, 2, none⟩ = some (.pointer p) := (h3.cell 2).trans rfl
  have cf := h3.frozen
  have b1 := h3.set_ 1 (.int .u8 a.all)
  have b2 := b1.set_ 2 (.pointer none)
  have hc := ((ChT.refl B [109, 221] w).set_ (o := 1) h3 (by simp) h1 (.int .u8 a.all)).set_ (o := 2) b1 (by simp) h1 (.pointer none)
  have HB := Lib.hid b2
  have HC := Lib.hid hc
  clear b1 b2 hc
  go_enter Try.func114, Try.ntmps114
  go_wp2_with fail
  go_end0
  exact ⟨rfl, ⟨h1, ⟨h2.a0, h2.a1, h2.a0, h2.a1, fun d h => by cases h⟩, none, HB.out, rfl⟩, HC.out⟩
end Go.Proofs.Yteecgdbicokgoaa
