/- TopSlave: what a write by commands leaves. -/
import Derived.Test.YteecgdbicokgoaaV0
namespace Go.Proofs.Yteecgdbicokgoaa
open Go.RowKit Go.Shelf
set_option linter.unusedVariables false
set_option linter.unusedSimpArgs false
set_option maxRecDepth 100000
/-- Memory behind i parts; whether the i-th part is refused. -/
def wrM (M : Mx) (area : Int) (pt : Nat) (y : List Int) : Nat → Mx
  | 0 => M
  | i + 1 => (writeX (wrM M area pt y i) 2 area (pt + 6 * i) (pixB y i)).1
def wrF (M : Mx) (area : Int) (pt : Nat) (y : List Int) (i : Nat) : Int := (writeX (wrM M area pt y i) 2 area (pt + 6 * i) (pixB y i)).2
theorem write_code (M : Mx) (who area : Int) (pt : Nat) (b : List Int) : (writeX M who area pt b).2 = 0 ∨ (writeX M who area pt b).2 = 80 ∨ (writeX M who area pt b).2 = 81 := by
  unfold writeX
  split
  · exact .inr (.inl rfl)
  · split
    · split
      · exact .inr (.inr rfl)
      · exact .inl rfl
    · exact .inr (.inl rfl)
theorem rowI_setR (M : Mx) (k : Nat) (l : List Int) (who area : Int) : rowI (setR M k l) who area = rowI M who area := by
  unfold rowI
  match k with
  | 0 => rfl
  | 1 => simp only [setR]; cases M.seg <;> rfl
  | k + 2 => simp only [setR]; cases M.seg <;> rfl
theorem rowL_setR {M : Mx} {k : Nat} (h : k = 0 ∨ M.seg ≠ none) (l : List Int) : rowL (setR M k l) k = l := by
  match k, h with
  | 0, _ => rfl
  | 1, h =>
    rcases hs : M.seg with _ | S
    · rcases h with h | h
      · cases h
      · exact absurd hs h
    · simp [rowL, setR, hs]
  | k + 2, h =>
    rcases hs : M.seg with _ | S
    · rcases h with h | h
      · cases h
      · exact absurd hs h
    · simp [rowL, setR, hs]
theorem setR_setR (M : Mx) (k : Nat) (a b : List Int) : setR (setR M k a) k b = setR M k b := by
  match k with
  | 0 => rfl
  | 1 => simp only [setR]; cases M.seg <;> rfl
  | k + 2 => simp only [setR]; cases M.seg <;> rfl
theorem setR_self (M : Mx) (k : Nat) : setR M k (rowL M k) = M := by
  obtain ⟨r, sg⟩ := M
  match k with
  | 0 => rfl
  | 1 => cases sg <;> rfl
  | k + 2 => cases sg <;> rfl
theorem rowI_seg {M : Mx} {who area : Int} {k : Nat} (h : rowI M who area = some k) : k = 0 ∨ M.seg ≠ none := by
  rcases rowI_some h with ⟨_, h⟩ | ⟨S, h, _⟩
  · exact .inl h
  · exact .inr (by rw [h]; simp)
theorem putX_nil (l : List Int) (pt : Nat) : putX l pt [] = l := by simp [putX]
theorem putX_putX {l a b : List Int} {pt : Nat} (h : pt + a.length + b.length ≤ l.length) : putX (putX l pt a) (pt + a.length) b = putX l pt (a ++ b) := by
  unfold putX
  have h1 : (l.take pt).length = pt := by rw [List.length_take]; omega
  have h2 : (l.take pt ++ a).length = pt + a.length := by rw [List.length_append, h1]
  rw [List.take_append_of_le_length (by rw [h2]; exact Nat.le_refl _), List.take_of_length_le (by rw [h2]; exact Nat.le_refl _), List.drop_append, h2, List.drop_of_length_le (by rw [h2]; omega)]
  simp only [List.nil_append, List.append_assoc, List.length_append, List.drop_drop]
  congr 4
  omega
theorem pix_ne {y : List Int} {i : Nat} (h : 6 * i < y.length) : pixB y i ≠ [] := fun e => by
  have := congrArg List.length e
  rw [pixB_len] at this
  simp at this
  omega
/-- Nothing of an area that is seen is changed but its bytes. -/
theorem wr_keep (M : Mx) (area : Int) (pt : Nat) (y : List Int) {k : Nat} (h : rowI M 2 area = some k) : ∀ i, rowI (wrM M area pt y i) 2 area = some k ∧ (rowL (wrM M area pt y i) k).length = (rowL M k).length
  | 0 => ⟨h, rfl⟩
  | i + 1 => by
    obtain ⟨h1, h2⟩ := wr_keep M area pt y h i
    unfold wrM
    rw [writeX_eq h1]
    split
    · rename_i hf
      split
      · exact ⟨h1, h2⟩
      · refine ⟨(rowI_setR _ _ _ _ _).trans h1, ?_⟩
        show (rowL (setR _ k _) k).length = _
        rw [rowL_setR (rowI_seg h1), putX_len hf, h2]
    · exact ⟨h1, h2⟩
theorem wr_ok {M : Mx} {area : Int} {pt : Nat} {y : List Int} (hy : y ≠ []) (hf : (writeX M 2 area pt y).2 = 0) :
    (∀ i, i < parN 6 y.length → wrF M area pt y i = 0) ∧ wrM M area pt y (parN 6 y.length) = (writeX M 2 area pt y).1 := by
  rcases hk : rowI M 2 area with _ | k
  · exfalso
    unfold writeX at hf
    rw [hk] at hf
    cases hf
  · rw [writeX_eq hk] at hf ⊢
    by_cases hfit : pt + y.length ≤ (rowL M k).length
    · rw [if_pos hfit] at hf ⊢
      by_cases h1 : k = 1
      · rw [if_pos ⟨h1, hy⟩] at hf
        cases hf
      · rw [if_neg (fun h => h1 h.1)]
        have key : ∀ i, i ≤ parN 6 y.length → wrM M area pt y i = setR M k (putX (rowL M k) pt (y.take (6 * i))) ∧ (i < parN 6 y.length → wrF M area pt y i = 0) := by
          intro i
          induction i with
          | zero =>
            intro _
            refine ⟨by rw [Nat.mul_zero, List.take_zero, putX_nil, setR_self]; rfl, fun hi => ?_⟩
            have hi6 := parN_lt.1 hi
            unfold wrF wrM
            rw [writeX_eq hk, if_pos (by rw [pixB_len]; omega), if_neg (fun h => h1 h.1)]
          | succ i ih =>
            intro hi
            obtain ⟨e1, -⟩ := ih (by omega)
            have hi6 := parN_lt.1 (show i < parN 6 y.length by omega)
            have hlen : (y.take (6 * i)).length = 6 * i := by rw [List.length_take]; omega
            have hrow : rowL (setR M k (putX (rowL M k) pt (y.take (6 * i)))) k = putX (rowL M k) pt (y.take (6 * i)) := rowL_setR (rowI_seg hk) _
            have e2 : wrM M area pt y (i + 1) = setR M k (putX (rowL M k) pt (y.take (6 * (i + 1)))) := by
              show (writeX (wrM M area pt y i) 2 area (pt + 6 * i) (pixB y i)).1 = _
              rw [e1, writeX_eq (k := k) ((rowI_setR _ _ _ _ _).trans hk), hrow, if_pos (by rw [putX_len (by rw [hlen]; omega), pixB_len]; omega), if_neg (fun h => h1 h.1)]
              show setR (setR M k _) k _ = _
              rw [setR_setR]
              have := putX_putX (l := rowL M k) (a := y.take (6 * i)) (b := pixB y i) (pt := pt) (by rw [hlen, pixB_len]; omega)
              rw [hlen] at this
              rw [this, take_pix]
            refine ⟨e2, fun hi' => ?_⟩
            have hi6' := parN_lt.1 hi'
            have hlen' : (y.take (6 * (i + 1))).length = 6 * (i + 1) := by rw [List.length_take]; omega
            unfold wrF
            rw [e2, writeX_eq (k := k) ((rowI_setR _ _ _ _ _).trans hk), rowL_setR (rowI_seg hk), if_pos (by rw [putX_len (by rw [hlen']; omega), pixB_len]; omega), if_neg (fun h => h1 h.1)]
        refine ⟨fun i hi => (key i (Nat.le_of_lt hi)).2 hi, ?_⟩
        rw [(key _ (Nat.le_refl _)).1, List.take_of_length_le (by unfold parN; omega)]
    · rw [if_neg hfit] at hf
      cases hf
theorem wr_bad {M : Mx} {area : Int} {pt : Nat} {y : List Int} (hy : y ≠ []) (hf : (writeX M 2 area pt y).2 ≠ 0) : ∃ i, i < parN 6 y.length ∧ wrF M area pt y i ≠ 0 := by
  have hn : 0 < y.length := List.length_pos_iff.2 hy
  rcases hk : rowI M 2 area with _ | k
  · refine ⟨0, parN_lt.2 (by omega), ?_⟩
    unfold wrF wrM writeX
    rw [hk]
    show (80 : Int) ≠ 0
    decide
  · by_cases h1 : k = 1
    · refine ⟨0, parN_lt.2 (by omega), ?_⟩
      unfold wrF wrM
      rw [writeX_eq hk]
      split
      · rw [if_pos ⟨h1, pix_ne (by omega)⟩]
        show (81 : Int) ≠ 0
        decide
      · show (80 : Int) ≠ 0
        decide
    · have hfit : ¬ pt + y.length ≤ (rowL M k).length := fun h => by
        rw [writeX_eq hk, if_pos h, if_neg (fun h => h1 h.1)] at hf
        exact hf rfl
      refine ⟨parN 6 y.length - 1, by unfold parN; omega, ?_⟩
      obtain ⟨h2, h3⟩ := wr_keep M area pt y hk (parN 6 y.length - 1)
      unfold wrF
      rw [writeX_eq h2, if_neg (by rw [h3, pixB_len]; unfold parN; omega)]
      show (80 : Int) ≠ 0
      decide
/-- The slave's state behind i commands of a write. -/
def stW (x : St) (area : Int) (pt : Nat) (y : List Int) (i : Nat) : St := if i = 0 then x else { x with area := area, pt := ((pt + min (6 * (i - 1)) y.length : Nat) : Int), block := 0, M := wrM x.M area pt y (i - 1) }
section
variable {w : World} {L T N s m l : Nat} {x : St} {y : List Int} {cl : List Kb} {A : Option Addr} {cc base : Nat}
/-- One part of a write. -/
theorem put_call (hy : y.length ≤ 40) (hb : T ≤ base) (hon : x.on = true) (hz : bits .and .u8 x.a.shut 1 = 0) {area : Int} {pt : Nat} (hp : pt < 1000) (hK : ∀ k ∈ cl, KbAt w base 8 k) (hm : cl.map (fun k => (k.1.a0, k.2)) = allD (fun a _ => a) y)
    {i : Nat} {c : Cm} (hc : (cl.map Prod.fst)[i]? = some c) {wr : World} {Nr : Nat} (hTA : TA wr L T Nr s m l (stW x area pt y (i + 1))) (hch : ChS L T w wr) :
    i < parN 6 y.length ∧ (wrF x.M area pt y i = 0 → Calls Try.prog 32 #[.pointer (some ⟨s, 0, none⟩), c.val, .slice none 0 0] wr (DoP wr L T s m l (stW x area pt y (i + 2)) [])) ∧
      (0 < wrF x.M area pt y i → Calls Try.prog 32 #[.pointer (some ⟨s, 0, none⟩), c.val, .slice none 0 0] wr (DoN wr L T s m l { stW x area pt y (i + 1) with block := 0, M := wrM x.M area pt y (i + 1) } (wrF x.M area pt y i))) := by
  obtain ⟨q, hq, rfl⟩ := cm_at hc
  obtain ⟨hi, ha, hyb⟩ := kb_at hm hq
  have ha : q.1.a0 = ((min 6 (y.length - 6 * i) : Nat) : Int) := by
    rw [ha]
    show IntKind.u8.wrap _ = _
    rw [IntKind.wrap_u8]
    omega
  have hKy := hK q (List.mem_of_getElem? hq)
  have hcm := kb_cm hKy ha
  have hcap := own_cap hKy.o
  have hbn : q.1.bn = min 6 (y.length - 6 * i) := by rw [← hKy.l, hyb, pixB_len]
  have hA : q.1.bA = none → q.1.bn = 0 ∧ q.1.bc = 0 := fun h => by
    obtain ⟨g, o, hg⟩ := hKy.o.at_ (by omega)
    rw [hg] at h
    cases h
  have hrd : ∀ w1, ChS L T wr w1 → Rd w1 w1.heap.size q.1.bA (u8s (pixB y i)) := fun w1 hw1 => by
    have := hKy.o.chR' (hch.trans hw1) (by decide) hb
    rw [hyb] at this
    exact this.rd
  have hst : stW x area pt y (i + 1) = { x with area := area, pt := ((pt + min (6 * i) y.length : Nat) : Int), block := 0, M := wrM x.M area pt y i } := by
    unfold stW
    rw [if_neg (by omega), Nat.add_sub_cancel]
  have hw : writeX (wrM x.M area pt y i) 2 area (pt + 6 * i) (pixB y i) = (wrM x.M area pt y (i + 1), wrF x.M area pt y i) := rfl
  have hmin : min (6 * i) y.length = 6 * i := by omega
  rw [hst, hmin] at hTA
  refine ⟨parN_lt.2 hi, fun hf => ?_, fun hf => ?_⟩
  · rw [hf] at hw
    rw [hcm]
    have := do_down hTA hon (a0 := ((min 6 (y.length - 6 * i) : Nat) : Int)) (by omega) hcap.1 hcap.2 (by rw [hbn]) (xs := pixB y i) (by rw [pixB_len, hbn]) hA hrd hz (M' := wrM x.M area pt y (i + 1)) (by rw [Int.toNat_natCast]; exact hw) (.slice none 0 0)
    refine this.mono fun e w' hd => ?_
    have he : stW x area pt y (i + 2) = { x with area := area, pt := (((pt + 6 * i : Nat) : Int) + (q.1.bn : Int)) % 4294967296, block := 0, M := wrM x.M area pt y (i + 1) } := by
      unfold stW
      rw [if_neg (by omega), show i + 2 - 1 = i + 1 by omega]
      congr 1
      rw [hbn]
      omega
    rw [he]
    exact hd
  · rw [hcm, hst, hmin]
    have hcode := write_code (wrM x.M area pt y i) 2 area (pt + 6 * i) (pixB y i)
    rw [hw] at hcode
    exact do_down_no hTA hon (a0 := ((min 6 (y.length - 6 * i) : Nat) : Int)) (by omega) hcap.1 hcap.2 (by rw [hbn]) (xs := pixB y i) (by rw [pixB_len, hbn]) hA hrd hz (M' := wrM x.M area pt y (i + 1)) (f := wrF x.M area pt y i) (by simp only at hcode; omega) (by rw [Int.toNat_natCast]; exact hw) (.slice none 0 0)
theorem stW_on (x : St) (area : Int) (pt : Nat) (y : List Int) (i : Nat) : (stW x area pt y i).on = x.on ∧ (stW x area pt y i).a = x.a := by unfold stW; split <;> exact ⟨rfl, rfl⟩
theorem put_all (hy1 : 1 ≤ y.length) (hy : y.length ≤ 40) (hb : T ≤ base) (hon : x.on = true) (hz : bits .and .u8 x.a.shut 1 = 0) {area : Int} (ha : 0 ≤ area ∧ area < 256) {pt : Nat} (hp : pt < 1000)
    (hO : Own w base 35 8 A (1 + cl.length) cc ((cmL 5 [area] (pt : Int)).cs ++ kcells cl)) (hK : ∀ k ∈ cl, KbAt w base 8 k) (hm : cl.map (fun k => (k.1.a0, k.2)) = allD (fun a _ => a) y) (h : TA w L T N s m l x) :
    Calls Try.prog 8 #[.pointer (some ⟨s, 0, none⟩), .slice A (1 + cl.length) cc, .slice none 0 0] w fun e w' => ∃ v f z, e = .returned (.tuple #[v, .int .u8 f]) ∧ TA w' L T w'.heap.size s m l z ∧ z.a = x.a ∧ z.on = true ∧ ChS L T w w' ∧
      ((f = 0 ∧ (writeX x.M 2 area pt y).2 = 0 ∧ z.M = (writeX x.M 2 area pt y).1) ∨ ((f = 80 ∨ f = 81) ∧ (writeX x.M 2 area pt y).2 ≠ 0)) := by
  have hlen := kb_len hm
  have hyn : y ≠ [] := List.length_pos_iff.1 hy1
  have hp7 : parN 6 y.length ≤ 7 := by unfold parN; omega
  have hcl : (cm 5 area 0 0 0 0 (pt : Int) :: cl.map Prod.fst).length = 1 + cl.length := by rw [List.length_cons, List.length_map, Nat.add_comm]
  have hcells : (cmL 5 [area] (pt : Int)).cs ++ kcells cl = cmcells (cm 5 area 0 0 0 0 (pt : Int) :: cl.map Prod.fst) := by
    rw [kcells_cm]
    rfl
  rw [hcells] at hO
  have hstep : ∀ i c, (cm 5 area 0 0 0 0 (pt : Int) :: cl.map Prod.fst)[i]? = some c → ∀ wr Nr, TA wr L T Nr s m l (stW x area pt y i) → ChS L T w wr →
      ((i = 0 ∨ wrF x.M area pt y (i - 1) = 0) → Calls Try.prog 32 #[.pointer (some ⟨s, 0, none⟩), c.val, .slice none 0 0] wr (DoP wr L T s m l (stW x area pt y (i + 1)) [])) ∧
      (i ≠ 0 → 0 < wrF x.M area pt y (i - 1) → Calls Try.prog 32 #[.pointer (some ⟨s, 0, none⟩), c.val, .slice none 0 0] wr (DoN wr L T s m l { stW x area pt y i with block := 0, M := wrM x.M area pt y i } (wrF x.M area pt y (i - 1)))) := by
    intro i c hc wr Nr hTA hch
    match i, hc with
    | 0, hc =>
      simp at hc
      subst hc
      refine ⟨fun _ => ?_, fun h => absurd rfl h⟩
      have := do_mta hTA hon ha (pt := (pt : Int)) (by omega) (.slice none 0 0)
      refine this.mono fun e w' hd => ?_
      exact hd
    | i + 1, hc =>
      rw [List.getElem?_cons_succ] at hc
      obtain ⟨-, h1, h2⟩ := put_call hy hb hon hz hp hK hm hc hTA hch
      refine ⟨fun h => h1 ?_, fun _ h => h2 h⟩
      rcases h with h | h
      · cases h
      · exact h
  by_cases hall : ∀ i, i < parN 6 y.length → wrF x.M area pt y i = 0
  · have hf0 : (writeX x.M 2 area pt y).2 = 0 := by
      by_cases hf : (writeX x.M 2 area pt y).2 = 0
      · exact hf
      · obtain ⟨i, hi, hne⟩ := wr_bad hyn hf
        exact absurd (hall i hi) hne
    have D := does_ok (w := w) (cl := cm 5 area 0 0 0 0 (pt : Int) :: cl.map Prod.fst) (bl := List.replicate (1 + cl.length) []) (xs := fun i => stW x area pt y i) (by rw [hcl]; simp) (by rw [hcl]; omega) (A := A) (c := cc) hb (by rw [hcl]; exact hO) (.slice none 0 0) h
      (fun i c bb hc hbi wr Nr hTA hch => by
        obtain ⟨hlt, hbv⟩ := List.getElem?_eq_some_iff.1 hbi
        rw [List.getElem_replicate] at hbv
        rw [List.length_replicate] at hlt
        subst hbv
        refine (hstep i c hc wr Nr hTA hch).1 ?_
        rcases Nat.eq_zero_or_pos i with h | h
        · exact .inl h
        · exact .inr (hall _ (by omega))) ⟨_, _, _, rfl⟩
    rw [hcl] at D
    refine D.mono ?_
    rintro e w' ⟨A', c', vs, rfl, hTA, hch, -, -⟩
    obtain ⟨s1, s2⟩ := stW_on x area pt y (1 + cl.length)
    refine ⟨_, 0, _, rfl, hTA, s2, s1.trans hon, hch, .inl ⟨rfl, hf0, ?_⟩⟩
    rw [← (wr_ok hyn hf0).2, ← hlen]
    unfold stW
    rw [if_neg (by omega), Nat.add_sub_cancel_left]
  · have hex : ∃ i, i < parN 6 y.length ∧ wrF x.M area pt y i ≠ 0 := by
      by_cases h : ∃ i, i < parN 6 y.length ∧ wrF x.M area pt y i ≠ 0
      · exact h
      · exact absurd (fun i hi => by
          by_cases h0 : wrF x.M area pt y i = 0
          · exact h0
          · exact absurd ⟨i, hi, h0⟩ h) hall
    obtain ⟨i0, hi0, hne0⟩ := hex
    have hfne : (writeX x.M 2 area pt y).2 ≠ 0 := fun hf => hne0 ((wr_ok hyn hf).1 i0 hi0)
    obtain ⟨j, hj0, ⟨hj1, hj2⟩, hj3⟩ := least_of (P := fun i => i < parN 6 y.length ∧ wrF x.M area pt y i ≠ 0) i0 ⟨hi0, hne0⟩
    have hcode : wrF x.M area pt y j = 0 ∨ wrF x.M area pt y j = 80 ∨ wrF x.M area pt y j = 81 := write_code _ _ _ _ _
    have D := does_no (w := w) (cl := cm 5 area 0 0 0 0 (pt : Int) :: cl.map Prod.fst) (bl := List.replicate (1 + j) []) (xs := fun i => stW x area pt y i) (y := { stW x area pt y (1 + j) with block := 0, M := wrM x.M area pt y (1 + j) }) (f := wrF x.M area pt y j) (by rw [hcl, List.length_replicate]; omega) (by rw [hcl]; omega) (A := A) (c := cc) hb (by rw [hcl]; exact hO) (.slice none 0 0) h
      (fun i c bb hc hbi wr Nr hTA hch => by
        obtain ⟨hlt, hbv⟩ := List.getElem?_eq_some_iff.1 hbi
        rw [List.getElem_replicate] at hbv
        rw [List.length_replicate] at hlt
        subst hbv
        refine (hstep i c hc wr Nr hTA hch).1 ?_
        rcases Nat.eq_zero_or_pos i with h | h
        · exact .inl h
        · refine .inr ?_
          by_cases h0 : wrF x.M area pt y (i - 1) = 0
          · exact h0
          · exact absurd ⟨by omega, h0⟩ (hj3 (i - 1) (by omega))) hj2
      (fun c hc wr Nr hTA hch => by
        rw [List.length_replicate] at hc hTA
        have := (hstep (1 + j) c hc wr Nr hTA hch).2 (by omega)
        rw [Nat.add_sub_cancel_left] at this
        exact this (by omega)) ⟨_, _, _, rfl⟩
    rw [hcl] at D
    refine D.mono ?_
    rintro e w' ⟨rfl, hTA, hch⟩
    obtain ⟨s1, s2⟩ := stW_on x area pt y (1 + j)
    exact ⟨_, _, _, rfl, hTA, s2, s1.trans hon, hch, .inr ⟨by omega, hfne⟩⟩
end
end Go.Proofs.Yteecgdbicokgoaa
