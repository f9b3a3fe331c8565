/- TopUnlock: what its rounds leave. -/
import Derived.Test.YteecgdbicokgoaaD1
import Derived.Test.YteecgdbicokgoaaDK
namespace Go.Proofs.Yteecgdbicokgoaa
open Go.RowKit Go.Shelf
set_option linter.unusedVariables false
set_option linter.unusedSimpArgs false
set_option maxRecDepth 100000
/-- The slave's state while a seed is told. -/
def Xu (o : Option Sd) : St := { X00 13 with a := ⟨13, 13, o⟩ }
theorem X00_eq : X00 13 = Xu none := by
  have h : m13 13 = 13 := by decide
  unfold Xu X00
  rw [h]
def sdx (x : List Int) (t : Nat) : Option Sd := some ⟨x, 1, t, []⟩
theorem seed_at0 {x : List Int} (h1 : 1 ≤ x.length) (h2 : x.length ≤ 20) : seedX (Xu none).a 0 1 x = ((Xu (sdx x (0 + min 6 (x.length - 0)))).a, ((x.length - 0 : Nat) : Int), (x.drop 0).take 6, 0) := by
  have hi : isRes 1 = true := by decide
  have hb : bits .and .u8 13 1 ≠ 0 := by decide
  unfold seedX
  rw [if_pos rfl, if_neg (by rw [hi]; simp only [Bool.true_eq_false, false_or]; omega), if_neg (show ¬ bits .and .u8 (Xu none).a.shut 1 = 0 from hb)]
  have hp : (partD ⟨x, 1, 0, []⟩).length = min 6 (x.length - 0) := partD_len _
  simp only [tellD, hp, Xu, sdx, X00]
  rfl
theorem seed_at1 {x : List Int} {t : Nat} (ht : t < x.length) : seedX (Xu (sdx x t)).a 1 1 [] = ((Xu (sdx x (t + min 6 (x.length - t)))).a, ((x.length - t : Nat) : Int), (x.drop t).take 6, 0) := by
  unfold seedX
  rw [if_neg (by decide), if_pos rfl]
  have hp : (partD ⟨x, 1, t, []⟩).length = min 6 (x.length - t) := partD_len _
  simp only [Xu, sdx, X00]
  rw [if_neg (by omega)]
  simp only [tellD, hp]
  rfl
theorem rows_one {w : World} {base : Nat} {vs : List Value} {b : List Int} (h : RowsB w base vs [b]) : ∃ B bc, vs = [.slice B b.length bc] ∧ Own w base 5 1 B b.length bc (u8s b) := by
  obtain ⟨h1, h2⟩ := h
  obtain ⟨A, c, h3, h4⟩ := h2 0 b rfl
  match vs, h1, h3 with
  | [v], _, h3 =>
    simp at h3
    exact ⟨A, c, by rw [h3], h4⟩
theorem seed_round {w : World} {L T N s m l i t : Nat} {x : List Int} {dA : Option Addr} {dn dc : Nat} {A' : Option Addr} {c' : Nat} (h1 : 1 ≤ x.length) (h2 : x.length ≤ 20) (ht : t < x.length) {o : Option Sd} (ho : (i = 0 ∧ t = 0 ∧ o = none ∧ A' = none ∧ c' = 0) ∨ (1 ≤ i ∧ o = sdx x t)) (h : TA w L T N s m l (Xu o)) (hT : T ≤ N) (hO : Own w N 5 1 A' t c' (u8s (x.take t)))
    (hx : x.length = dn) (hb : ∀ w1, ChS L T w w1 → By T 5 w1 dA (u8s x)) (hu : by8 x) {A : Option Addr} {c base : Nat} (hbase : T ≤ base) (hR : Own w base 35 8 A 1 c (cmcells [cm 12 (if i = 0 then 0 else 1) 1 0 0 0 0])) :
    Calls Try.prog 8 #[.pointer (some ⟨s, 0, none⟩), .slice A 1 c, .slice dA dn dc] w fun e w' => ∃ R rc B bc N', e = .returned (.tuple #[.slice R 1 rc, .int .u8 0]) ∧ Own w' w.heap.size 22 1 R 1 rc [.slice B (1 + min 6 (x.length - t)) bc] ∧ Own w' w.heap.size 5 1 B (1 + min 6 (x.length - t)) bc (u8s (((x.length - t : Nat) : Int) :: (x.drop t).take 6)) ∧ T ≤ N' ∧ N ≤ N' ∧
      TA w' L T N' s m l (Xu (sdx x (t + min 6 (x.length - t)))) ∧ Own w' N' 5 1 A' t c' (u8s (x.take t)) ∧ ChS L T w w' := by
  have hk : (0 : Int) ≤ ((x.length - t : Nat) : Int) ∧ ((x.length - t : Nat) : Int) < 256 := by omega
  have hbl : ((x.drop t).take 6).length ≤ 6 := by simp; omega
  have hlen : ((((x.length - t : Nat) : Int) :: (x.drop t).take 6)).length = 1 + min 6 (x.length - t) := by simp; omega
  rcases ho with ⟨rfl, rfl, rfl, rfl, rfl⟩ | ⟨hi, rfl⟩
  · refine (does_ok (cl := [cm 12 0 1 0 0 0 0]) (bl := [((x.length - 0 : Nat) : Int) :: (x.drop 0).take 6]) (xs := fun j => if j = 0 then Xu none else Xu (sdx x (0 + min 6 (x.length - 0)))) rfl (by decide) hbase hR (.slice dA dn dc) h ?_ ⟨_, _, _, rfl⟩).mono ?_
    · intro j c0 b hc hb' wr Nr hTA hch
      match j, hc, hb' with
      | 0, hc, hb' =>
        simp at hc hb'
        subst hc
        subst hb'
        exact do_seed hTA rfl (by decide) (by decide) hx (fun w1 hw1 => hb w1 (hch.trans hw1)) hu (seed_at0 h1 h2) hk hbl
    · rintro e w' ⟨R, rc, vs, rfl, hTA, hch, hOR, hRB⟩
      obtain ⟨B, bc, rfl, hOB⟩ := rows_one hRB
      rw [hlen] at hOR hOB
      exact ⟨R, rc, B, bc, w'.heap.size, rfl, hOR, hOB, Nat.le_trans hTA.tz (Nat.le_refl _), Nat.le_trans h.n hch.size, hTA, Own.nil _ _ _ _, hch⟩
  · refine (does_okK (cl := [cm 12 1 1 0 0 0 0]) (bl := [((x.length - t : Nat) : Int) :: (x.drop t).take 6]) (xs := fun j => if j = 0 then Xu (sdx x t) else Xu (sdx x (t + min 6 (x.length - t)))) rfl (by decide) hbase (by rw [if_neg (by omega)] at hR; exact hR) (.slice dA dn dc) h ?_ ⟨_, _, _, rfl⟩).mono ?_
    · intro j c0 b hc hb' wr hTA hch
      match j, hc, hb' with
      | 0, hc, hb' =>
        simp at hc hb'
        subst hc
        subst hb'
        exact do_seedK hTA rfl (by decide) _ (seed_at1 ht) hk hbl
    · rintro e w' ⟨R, rc, vs, rfl, hTA, hch, hOR, hRB⟩
      obtain ⟨B, bc, rfl, hOB⟩ := rows_one hRB
      rw [hlen] at hOR hOB
      exact ⟨R, rc, B, bc, N, rfl, hOR, hOB, hT, Nat.le_refl _, hTA, hO.chR' hch (by decide) hT, hch⟩
end Go.Proofs.Yteecgdbicokgoaa
