/- Memory: what part tells. -/
import Derived.Test.YteecgdbicokgoaaM0
namespace Go.Proofs.Yteecgdbicokgoaa
open Go.RowKit
set_option linter.unusedVariables false
set_option linter.unusedSimpArgs false
set_option maxRecDepth 100000
/-- The row k of the memory lies in g. -/
structure RowG (w : World) (L T m : Nat) (M : Mx) (k g : Nat) : Prop where
  i : L ≤ g ∧ g < T
  b : Blk w g 5 (u8s (rowL M k)).toArray
  set_ : ∀ (w' : World) (l : List Int), l.length = (rowL M k).length → w.grownBy w' (some g) → Blk w' g 5 (u8s l).toArray → MAt w' L T m (setR M k l)
def PartP (w : World) (g k pt n len : Nat) (e : Ending) (w' : World) : Prop := (∃ o, e = .returned (.tuple #[.slice (some ⟨g, o, none⟩) n (len - pt), .bool (k == 1), .int .i64 0]) ∧ (o = pt ∨ n = 0)) ∧ w = w'
theorem part_ram {w : World} {L T m : Nat} {M : Mx} (h : MAt w L T m M) (who : Int) (hw : who = 1 ∨ who = 2) (pt n : Nat) (hf : pt + n ≤ 64) :
    ∃ g, RowG w L T m M 0 g ∧ Calls Try.prog 39 #[.pointer (some ⟨m, 0, none⟩), .int .u8 who, .int .u8 0, .int .u32 pt, .int .i64 n] w (PartP w g 0 pt n 64) := by
  obtain ⟨gr, As, ns, cs, h⟩ := h
  refine ⟨gr, ⟨h.r, h.ram, fun w' l hl hg hB => ?_⟩, ?_⟩
  · have hne : ∀ {g : Nat} {t : TypeId} {cs : Array Value}, Blk w g t cs → g ≠ gr → Blk w' g t cs := fun hb hn => (hg.block _ hb.lt (by intro e; injection e with e; exact hn e)).trans hb
    refine ⟨gr, As, ns, cs, ⟨by rw [← h.ok.lr]; exact hl, h.ok.sg⟩, Nat.le_trans h.tz hg.size, h.mb, hne h.b (fun e => ?_), h.r, hB, ?_⟩
    · have h1 := h.b
      rw [e] at h1
      exact absurd (blk_ty h1 h.ram) (by decide)
    · show SgAt w' L T As ns cs gr M.seg
      have hs := h.sg
      cases hS : M.seg with
      | none => rw [hS] at hs; exact hs
      | some S =>
        rw [hS] at hs
        obtain ⟨h0, gs, Ap, cp, g0, g1, q1, q2, q3, q4, q5, q6, q7, q8, q9, q10, q11, q12, q13⟩ := hs
        have ko : ∀ {e : TypeId} {size n c : Nat} {A : Option Addr} {xs : List Value}, Own w L e size A n c xs → e ≠ 5 → Own w' L e size A n c xs := fun ho hn => ho.kept fun g hg' => hg.block g (ho.lt hg').2 (by
          intro e
          injection e with e
          subst e
          obtain ⟨cs', hcs⟩ := ho.row hg'
          exact hn (blk_ty hcs h.ram))
        refine ⟨h0, gs, Ap, cp, g0, g1, ko q1 (by decide), q2, q3, hne q4 (fun e => ?_), ko q5 (by decide), q6, q7, hne q8 (fun e => q11 e.symm), q9, hne q10 (fun e => q12 e.symm), q11, q12, q13⟩
        rw [e] at q4
        exact absurd (blk_ty q4 h.ram) (by decide)
  · have hc := h.b.cell
    have h1 : (n : Int) ≤ 64 := by omega
    have h2 : IntKind.i64.wrap (64 - (n : Int)) = ((64 - n : Nat) : Int) := by rw [IntWalk.i64_in _ (by omega)]; omega
    have h3 : (pt : Int) ≤ ((64 - n : Nat) : Int) := by omega
    have h4 : IntKind.i64.wrap (pt : Int) = pt := IntWalk.i64_in _ (by omega)
    have h5 : IntKind.i64.wrap ((pt : Int) + n) = ((pt + n : Nat) : Int) := by rw [IntWalk.i64_in _ (by omega)]; omega
    have h6 : pt ≤ pt + n ∧ pt + n ≤ 64 := by omega
    have h7 : pt + n - pt = n := by omega
    have h8 : pt ≤ 64 := by omega
    obtain ⟨r, hr⟩ : ∃ r, 64 - n = r := ⟨_, rfl⟩
    rw [hr] at h2 h3
    obtain ⟨q, hq⟩ : ∃ q, pt + n = q := ⟨_, rfl⟩
    rw [hq] at h5 h6 h7
    clear h hf
    go_enter Try.func39, Try.ntmps39
    rcases (by omega : pt = 64 ∨ pt < 64) with rfl | hlt
    case' inl => obtain ⟨rfl, rfl⟩ : n = 0 ∧ r = 64 := by omega
    all_goals
      rcases hw with rfl | rfl
      all_goals
        go_wp2_with fail
        go_ret3
        first
          | exact ⟨⟨0, rfl, .inr rfl⟩, rfl⟩
          | (refine ⟨⟨pt, ?_, .inl rfl⟩, rfl⟩
             first | rfl | (simp only [h7]; rfl) | (have h7' := h7; simp only [← h7']; rfl))
set_option maxHeartbeats 2000000 in
theorem part_seg {w : World} {L T m : Nat} {M : Mx} (h : MAt w L T m M) {S : Sg} (hS : M.seg = some S) (who : Int) (hw : who = 1 ∨ who = 2) (pt n : Nat) (hf : pt + n ≤ 16) {p : Nat} (hp : p = if who = 1 then S.a else S.x) :
    ∃ g, RowG w L T m M (p + 1) g ∧ Calls Try.prog 39 #[.pointer (some ⟨m, 0, none⟩), .int .u8 who, .int .u8 1, .int .u32 pt, .int .i64 n] w (PartP w g (p + 1) pt n 16) := by
  obtain ⟨gr, As, ns, cs, h⟩ := h
  have hs := h.sg
  rw [hS] at hs
  obtain ⟨rfl, gs, Ap, cp, g0, g1, q1, q2, q3, q4, q5, q6, q7, q8, q9, q10, q11, q12, q13⟩ := hs
  have hSo := h.ok.sg S hS
  have hp1 : p ≤ 1 := by rw [hp]; split; exact hSo.a1; exact hSo.x1
  have hne : ∀ {w' : World} {gx : Nat} {t : TypeId} {cs : Array Value} {g : Nat}, w.grownBy w' (some gx) → Blk w g t cs → g ≠ gx → Blk w' g t cs := fun hg hb hn => (hg.block _ hb.lt (by intro e; injection e with e; exact hn e)).trans hb
  have ko : ∀ {w' : World} {gx : Nat} {cx : Array Value} {e : TypeId} {size n c : Nat} {A : Option Addr} {xs : List Value}, Blk w gx 5 cx → w.grownBy w' (some gx) → Own w L e size A n c xs → e ≠ 5 → Own w' L e size A n c xs := fun hB hg ho hn => ho.kept fun g hg' => hg.block g (ho.lt hg').2 (by
    intro e
    injection e with e
    subst e
    obtain ⟨cs', hcs⟩ := ho.row hg'
    exact hn (blk_ty hcs hB))
  have nt : ∀ {g gx : Nat} {t : TypeId} {c1 c2 : Array Value}, Blk w g t c1 → Blk w gx 5 c2 → t ≠ 5 → g ≠ gx := fun h1 h2 hn e => by rw [e] at h1; exact hn (blk_ty h1 h2)
  have F : ∃ g, RowG w L T m M (p + 1) g ∧ (g = if p = 0 then g0 else g1) := by
    rcases (by omega : p = 0 ∨ p = 1) with h0 | h0
    · refine ⟨g0, ⟨q7, ?_, fun w' l hl hg hB => ?_⟩, by rw [h0, if_pos rfl]⟩
      · rw [h0]
        show Blk w g0 5 (u8s (rowL M 1)).toArray
        unfold rowL
        rw [hS]
        exact q8
      · rw [h0] at hl ⊢
        have hl' : l.length = 16 := by rw [hl]; unfold rowL; rw [hS]; exact hSo.l0
        have hSt : (setR M 1 l).seg = some { S with p0 := l } := by unfold setR; rw [hS]; rfl
        refine ⟨gr, As, 1, cs, ⟨h.ok.lr, fun S' hS' => ?_⟩, Nat.le_trans h.tz hg.size, h.mb, hne hg h.b (nt h.b q8 (by decide)), h.r, hne hg h.ram q11, ?_⟩
        · rw [hSt] at hS'
          injection hS' with hS'
          subst hS'
          exact ⟨hl', hSo.l1, hSo.a1, hSo.x1⟩
        · rw [hSt]
          exact ⟨rfl, gs, Ap, cp, g0, g1, ko q8 hg q1 (by decide), q2, q3, hne hg q4 (nt q4 q8 (by decide)), ko q8 hg q5 (by decide), q6, q7, hB, q9, hne hg q10 (fun e => q13 e.symm), q11, q12, q13⟩
    · refine ⟨g1, ⟨q9, ?_, fun w' l hl hg hB => ?_⟩, by rw [h0, if_neg (by decide)]⟩
      · rw [h0]
        show Blk w g1 5 (u8s (rowL M 2)).toArray
        unfold rowL
        rw [hS]
        exact q10
      · rw [h0] at hl ⊢
        have hl' : l.length = 16 := by rw [hl]; unfold rowL; rw [hS]; exact hSo.l1
        have hSt : (setR M 2 l).seg = some { S with p1 := l } := by unfold setR; rw [hS]; rfl
        refine ⟨gr, As, 1, cs, ⟨h.ok.lr, fun S' hS' => ?_⟩, Nat.le_trans h.tz hg.size, h.mb, hne hg h.b (nt h.b q10 (by decide)), h.r, hne hg h.ram q12, ?_⟩
        · rw [hSt] at hS'
          injection hS' with hS'
          subst hS'
          exact ⟨hSo.l0, hl', hSo.a1, hSo.x1⟩
        · rw [hSt]
          exact ⟨rfl, gs, Ap, cp, g0, g1, ko q10 hg q1 (by decide), q2, q3, hne hg q4 (nt q4 q10 (by decide)), ko q10 hg q5 (by decide), q6, q7, hne hg q8 q13, q9, hB, q11, q12, q13⟩
  obtain ⟨g, hG, hg⟩ := F
  refine ⟨g, hG, ?_⟩
  have hc := h.b.cell
  obtain ⟨ga, oa, rfl⟩ := q1.at_ (by decide)
  have ra := q1.cells 0 _ rfl
  rw [Nat.add_zero] at ra
  have hs4 := q4.cell
  obtain ⟨gp, op, rfl⟩ := q5.at_ (by decide)
  have rp0 := q5.cells 0 _ rfl
  have rp1 := q5.cells 1 _ rfl
  rw [Nat.add_zero] at rp0
  have h1 : (n : Int) ≤ 16 := by omega
  have h2 : IntKind.i64.wrap (16 - (n : Int)) = ((16 - n : Nat) : Int) := by rw [IntWalk.i64_in _ (by omega)]; omega
  have h3 : (pt : Int) ≤ ((16 - n : Nat) : Int) := by omega
  have h4 : IntKind.i64.wrap (pt : Int) = pt := IntWalk.i64_in _ (by omega)
  have h5 : IntKind.i64.wrap ((pt : Int) + n) = ((pt + n : Nat) : Int) := by rw [IntWalk.i64_in _ (by omega)]; omega
  have h6 : pt ≤ pt + n ∧ pt + n ≤ 16 := by omega
  have h7 : pt + n - pt = n := by omega
  have h8 : pt ≤ 16 := by omega
  obtain ⟨r, hr⟩ : ∃ r, 16 - n = r := ⟨_, rfl⟩
  rw [hr] at h2 h3
  obtain ⟨q, hq⟩ : ∃ q, pt + n = q := ⟨_, rfl⟩
  rw [hq] at h5 h6 h7
  clear h hf hG q1 q2 q3 q4 q5 q6 q7 q8 q9 q10 q11 q12 q13 hS
  obtain ⟨Sa, hSa⟩ : ∃ Sa, S.a = Sa := ⟨_, rfl⟩
  obtain ⟨Sx, hSx⟩ : ∃ Sx, S.x = Sx := ⟨_, rfl⟩
  rw [hSa, hSx] at hp hs4
  clear hSa hSx hSo
  have HP : Hid (∀ g' p' : Nat, (g' = if p' = 0 then g0 else g1) → p' = p → ∀ o, (o = pt ∨ n = 0) → PartP w g (p + 1) pt n 16 (.returned (.tuple #[.slice (some ⟨g', o, none⟩) n (16 - pt), .bool (p' == 0), .int .i64 0])) w) := Lib.hid fun g' p' hg' hpp o ho => by
    subst hpp
    rw [← hg] at hg'
    subst hg'
    refine ⟨⟨o, ?_, ho⟩, rfl⟩
    cases p' <;> rfl
  clear hne ko nt hg
  have hcs : (who = 1 ∧ Sa = 0 ∧ p = 0) ∨ (who = 1 ∧ Sa = 1 ∧ p = 1) ∨ (who = 2 ∧ Sx = 0 ∧ p = 0) ∨ (who = 2 ∧ Sx = 1 ∧ p = 1) := by
    rcases hw with h | h
    · rw [if_pos h] at hp
      omega
    · rw [if_neg (by omega)] at hp
      omega
  clear hp hw hp1
  go_enter Try.func39, Try.ntmps39
  rcases (by omega : 16 = pt ∨ pt < 16) with h16 | hlt
  case' inl =>
    obtain ⟨rfl, rfl⟩ : n = 0 ∧ r = 16 := by omega
    obtain rfl : pt = 16 := h16.symm
  all_goals
    rcases hcs with ⟨rfl, rfl, rfl⟩ | ⟨rfl, rfl, rfl⟩ | ⟨rfl, rfl, rfl⟩ | ⟨rfl, rfl, rfl⟩
    all_goals
      go_wp2_with fail
      go_ret3
      first
        | exact HP.out g0 0 rfl rfl 0 (by first | exact .inr rfl | exact .inr trivial)
        | exact HP.out g1 1 rfl rfl 0 (by first | exact .inr rfl | exact .inr trivial)
        | (have z := HP.out g0 0 rfl rfl pt (.inl rfl); simp only [← h7] at z ⊢; exact z)
        | (have z := HP.out g1 1 rfl rfl pt (.inl rfl); simp only [← h7] at z ⊢; exact z)
        | exact HP.out g0 0 rfl rfl pt (.inl rfl)
        | exact HP.out g1 1 rfl rfl pt (.inl rfl)
end Go.Proofs.Yteecgdbicokgoaa
