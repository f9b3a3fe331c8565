import Derived.Test.YtegbffcimldjnaaPad
import Derived.Test.YtegbffcimldjnaaShown
import Derived.Test.YtegbffcimldjnaaConv
import Derived.Test.YtegbffcimldjnaaLawMakes
namespace Go.Proofs.Ytegbffcimldjnaa
open Go.RowKit
set_option linter.unusedVariables false
set_option linter.unusedSimpArgs false

theorem mkF_wf (id : Int) (ext : Bool) (xs : List Int) (h0 : 0 ≤ id) (h1 : id < 4294967296) (hx : ∀ x ∈ xs, 0 ≤ x ∧ x < 256) : (mkF id ext xs).wf := by
  unfold mkF
  split
  · refine ⟨h0, h1, by dsimp only; omega, by dsimp only; omega, fun i => ?_⟩
    simp only [Fr.g]
    rcases Nat.lt_or_ge i xs.length with h | h
    · rw [List.getD_eq_getElem?_getD, List.getElem?_eq_getElem h]; exact hx _ (List.getElem_mem h)
    · simp [List.getElem?_eq_none h]
  · exact ⟨by decide, by decide, by decide, by decide, fun i => by simp [Fr.none_, Fr.g]⟩
theorem mkF_may (id : Int) (ext : Bool) (xs : List Int) (h : mkE id ext xs = 0) : (mkF id ext xs).may = true ∧ (mkF id ext xs).bytes = xs ∧ (mkF id ext xs).id = id ∧ (mkF id ext xs).ext = ext := by
  have hk : kn id ext = true := by
    cases hk : kn id ext
    · simp [mkE, hk] at h
    · rfl
  have h8 : xs.length ≤ 8 := by
    simp only [mkE, hk] at h
    split at h
    · simp_all
    · split at h
      · assumption
      · simp at h
  have e : mkF id ext xs = ⟨id, ext, xs.length, xs⟩ := by simp [mkF, hk, h8]
  have hm : (mkF id ext xs).may = true := by
    rw [e]
    simp only [Fr.may, hk, Fr.zeros, Bool.true_and, Bool.and_eq_true, decide_eq_true_eq, List.all_eq_true, List.mem_range]
    refine ⟨⟨by omega, by omega⟩, fun i hi => ?_⟩
    rcases Nat.lt_or_ge i xs.length with h | h
    · simp [h]
    · simp [Fr.g, List.getElem?_eq_none h]
  refine ⟨hm, ?_, by rw [e], by rw [e]⟩
  rw [e] at hm ⊢
  simp only [Fr.bytes, hm, if_true, Int.toNat_natCast, Fr.g]
  apply List.ext_getElem?
  intro i
  rcases Nat.lt_or_ge i xs.length with h | h
  · simp [h, Fr.g]
  · simp [h]
theorem Fr.bytes_u8 (f : Fr) (hf : f.wf) : ∀ x ∈ f.bytes, 0 ≤ x ∧ x < 256 := by
  intro x hx
  unfold Fr.bytes at hx
  split at hx
  · obtain ⟨i, _, rfl⟩ := List.mem_map.1 hx
    exact hf.2.2.2.2 i
  · cases hx
/-- A frame is made of its bytes just if it may be. -/
theorem back_law (g : Fr) (hg : g.wf) : (decide (mkE g.id g.ext g.bytes = 0) && Fr.eqb (mkF g.id g.ext g.bytes) g) = g.may := by
  cases hm : g.may
  · have hb : g.bytes = [] := by simp [Fr.bytes, hm]
    rw [hb]
    cases hk : kn g.id g.ext
    · simp [mkE, hk]
    · have e1 : mkF g.id g.ext [] = ⟨g.id, g.ext, 0, []⟩ := by simp [mkF, hk]
      rw [e1]
      rw [Bool.eq_false_iff]
      intro h
      simp only [Bool.and_eq_true, Fr.eqb, beq_iff_eq, decide_eq_true_eq] at h
      obtain ⟨-, -, -, hl, h0⟩ := h
      have hg0 : ∀ i, (Fr.mk g.id g.ext 0 []).g i = 0 := fun i => by simp [Fr.g]
      simp only [hg0] at h0
      have : g.may = true := by
        simp only [Fr.may, hk, Fr.zeros, Bool.true_and, Bool.and_eq_true, decide_eq_true_eq, List.all_eq_true, List.mem_range]
        refine ⟨⟨by omega, by omega⟩, fun i hi => ?_⟩
        obtain ⟨⟨⟨⟨⟨⟨⟨h1, h2⟩, h3⟩, h4⟩, h5⟩, h6⟩, h7⟩, h8⟩ := h0
        match i, hi with
        | 0, _ => simp [← h1]
        | 1, _ => simp [← h2]
        | 2, _ => simp [← h3]
        | 3, _ => simp [← h4]
        | 4, _ => simp [← h5]
        | 5, _ => simp [← h6]
        | 6, _ => simp [← h7]
        | 7, _ => simp [← h8]
      rw [hm] at this
      cases this
  · have hm' := hm
    simp only [Fr.may, Bool.and_eq_true, decide_eq_true_eq, Fr.zeros, List.all_eq_true, List.mem_range] at hm'
    obtain ⟨⟨⟨hk, hl0⟩, hl8⟩, hz⟩ := hm'
    obtain ⟨n, hn⟩ : ∃ n : Nat, g.len = n := ⟨g.len.toNat, by omega⟩
    have hb : g.bytes = (List.range n).map g.g := by simp [Fr.bytes, hm, hn]
    have hlen : g.bytes.length = n := by rw [hb]; simp
    have e1 : mkF g.id g.ext g.bytes = ⟨g.id, g.ext, n, g.bytes⟩ := by
      simp only [mkF, hk, hlen, true_and]
      rw [if_pos (by omega)]
    have e2 : mkE g.id g.ext g.bytes = 0 := by simp [mkE, hk, hlen]; omega
    have hgi : ∀ i, i < 8 → (Fr.mk g.id g.ext n g.bytes).g i = g.g i := fun i hi => by
      show g.bytes.getD i 0 = g.g i
      rw [hb]
      rcases Nat.lt_or_ge i n with h | h
      · simp [h]
      · have := hz i hi
        simp only [Bool.or_eq_true, decide_eq_true_eq, beq_iff_eq] at this
        have h0 : g.g i = 0 := by
          rcases this with h' | h'
          · omega
          · exact h'
        rw [h0]
        simp [h]
    rw [e1, e2]
    simp only [Fr.eqb, hgi 0 (by omega), hgi 1 (by omega), hgi 2 (by omega), hgi 3 (by omega), hgi 4 (by omega), hgi 5 (by omega), hgi 6 (by omega), hgi 7 (by omega), hn]
    simp
theorem eq26_any (f g : Fr) (w : World) : (Op.equalIn 10000 26 f.val g.val).run Try.prog w = .ok (f.eqb g) w := by
  rw [eq26]; simp [Fr.eqb, Fr.g]

end Go.Proofs.Ytegbffcimldjnaa
