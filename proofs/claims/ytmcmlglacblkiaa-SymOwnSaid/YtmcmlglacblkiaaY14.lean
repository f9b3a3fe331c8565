/- The reference's tables: New, Find. -/
import Derived.Test.YtmcmlglacblkiaaY4
namespace Go.Proofs.Ytmcmlglacblkiaa
open Go.RowKit
set_option linter.unusedVariables false
set_option linter.unusedSimpArgs false
theorem results_blk2 {P : Program} {fn : Func} {p u : Tmp} {ty : TypeId} (h : fn.results = #[.cell p ty, .tmp u]) (tmps : Array Value) (w : World) (g : Nat) (t : TypeId) (cs : Array Value) (d : TypeDesc)
    (hp : tmps.getD p undef = .pointer (some ⟨g, 0, none⟩)) (hg : Blk w g t cs) (hu : P.underlying ty = some d) (hd : (match d with | .struct _ | .array _ _ => true | _ => false) = true) (hi : (P.info? ty).map (·.size) = some cs.size) :
    (results fn tmps).run P w = .ok (.tuple #[.agg cs, tmps.getD u undef]) w := by
  have hp' : tmps[p]?.getD undef = .pointer (some ⟨g, 0, none⟩) := by simpa using hp
  rw [results_cell_tmp h]
  simp [hp', asAddr, run_loadVar_row w g t ty cs (0, 0) d hg hu hd hi]
def zeroS : Sy := ⟨⟨#[]⟩, 0, 0, 0, false, false, 0, 0⟩
/-- What a name stands for. -/
def findS (l : List Sy) (nm : ByteArray) : Option Sy := l.find? fun s => s.nm.toList == nm.toList
def fndV (o : Option Sy) : Value := .tuple #[(o.getD zeroS).val, .bool o.isSome]
theorem find_none (l : List Sy) (nm : ByteArray) (h : ∀ s ∈ l, (s.nm.toList == nm.toList) = false) : findS l nm = none := by
  unfold findS
  rw [List.find?_eq_none]
  intro s hs
  rw [h s hs]
  decide
theorem find_some (l : List Sy) (nm : ByteArray) (k : Nat) (s : Sy) (hk : l[k]? = some s) (he : (s.nm.toList == nm.toList) = true) (h : ∀ j t, j < k → l[j]? = some t → (t.nm.toList == nm.toList) = false) : findS l nm = some s := by
  unfold findS
  rw [List.find?_eq_some_iff_append]
  obtain ⟨hl, rfl⟩ := List.getElem?_eq_some_iff.1 hk
  refine ⟨he, l.take k, l.drop (k + 1), ?_, fun t ht => ?_⟩
  · rw [← List.drop_eq_getElem_cons hl, List.take_append_drop]
  · obtain ⟨j, hj, rfl⟩ := List.mem_iff_getElem.1 ht
    rw [List.length_take] at hj
    have := h j _ (by omega) (List.getElem?_eq_getElem (by omega))
    rw [List.getElem_take, this]
    rfl
/-- The cells of the names of a row, in every later world. -/
theorem hr_row {w : World} {A : Option Addr} {l : List Sy} (hr : Rd w w.heap.size A (cellsS l)) : ∀ W, Below w.heap.size w W → ∀ k s, l[k]? = some s → ∃ b o, A = some ⟨b, o, none⟩ ∧ ∀ i v, s.cs[i]? = some v → W.cell? ⟨b, o + (k * 8 + i), none⟩ = some v := fun W hW k s hk => by
  obtain ⟨b, o, e, hb, hc⟩ := rd_row hr (by intro h; rw [h] at hk; cases hk)
  exact ⟨b, o, e, fun i v hv => (hW.cell (p := ⟨b, o + (k * 8 + i), none⟩) hb).trans (hc k s hk i v hv)⟩
set_option maxHeartbeats 8000000 in
theorem rfind_any (A : Option Addr) (n c : Nat) (l : List Sy) (nm : ByteArray) (w : World) (hx : l.length = n) (hr : Rd w w.heap.size A (cellsS l)) (hl : n ≤ maxLen) :
    Calls Try.prog 21 #[.slice A n c, .string nm] w fun e w' => e = .returned (fndV (findS l nm)) ∧ Below w.heap.size w w' := by
  unfold maxLen at hl
  have HX := Lib.hid hx
  have HR := Lib.hid (hr_row hr)
  have HN0 := Lib.hid (find_none l nm)
  have HS0 := Lib.hid (find_some l nm)
  obtain ⟨F, hF⟩ : ∃ F, findS l nm = F := ⟨_, rfl⟩
  rw [hF] at HN0 HS0 ⊢
  clear hx hr hF
  go_enter Try.func21, Try.ntmps21
  go_wp2_with fail
  refine wp_named fun W hW => ?_
  obtain ⟨BX, hb0⟩ := blk1 hW
  clear hW
  have hz0 := hb0.size
  go_loopw [6] (fun iv wx => ∃ k : Nat, k ≤ n ∧ iv = .int .i64 (k : Nat) ∧ (∀ j t, j < k → l[j]? = some t → (t.nm.toList == nm.toList) = false) ∧ wx = W) (fun iv _ => n - (intOf iv).toNat)
  case atStart => exact ⟨0, Nat.zero_le _, rfl, fun j t h => by omega, rfl⟩
  case round =>
    obtain ⟨k, hk, rfl, hno, rfl⟩ := hrel
    have HNO := Lib.hid hno
    clear hno
    by_cases hlt : k < n
    · have hltI : (k : Int) < n := by omega
      obtain ⟨s, hs⟩ : ∃ s, l[k]? = some s := ⟨_, List.getElem?_eq_getElem (by rw [HX.out]; exact hlt)⟩
      obtain ⟨b, o, rfl, hcc⟩ := HR.out wr hb0 k s hs
      have HSK := Lib.hid hs
      cases hE : (s.nm.toList == nm.toList)
      · obtain ⟨nm', ar, at_, wd, bg, sg, mu, ad⟩ := s
        have c0 := hcc 0 _ rfl
        simp only [← Nat.add_assoc, Nat.add_zero] at c0
        dsimp only at hE
        clear hcc hs hlt
        go_wp2_with fail
        go_roundw
        case rel =>
          refine ⟨k + 1, by omega, by go_num, fun j t hj ht => ?_, trivial⟩
          rcases Nat.lt_or_ge j k with h | h
          · exact HNO.out j t h ht
          · obtain rfl : j = k := by omega
            have := HSK.out
            rw [this] at ht
            injection ht with ht
            subst ht
            exact hE
        case measure => simp [intOf]; omega
      · have hFF : F = some s := HS0.out k s HSK.out hE (fun j t hj ht => HNO.out j t hj ht)
        subst hFF
        obtain ⟨nm', ar, at_, wd, bg, sg, mu, ad⟩ := s
        have c0 := hcc 0 _ rfl
        have c1 := hcc 1 _ rfl
        have c2 := hcc 2 _ rfl
        have c3 := hcc 3 _ rfl
        have c4 := hcc 4 _ rfl
        have c5 := hcc 5 _ rfl
        have c6 := hcc 6 _ rfl
        have c7 := hcc 7 _ rfl
        simp only [← Nat.add_assoc, Nat.add_zero] at c0 c1 c2 c3 c4 c5 c6 c7
        dsimp only at hE
        clear hcc hs hlt HS0 HN0 HSK
        go_wp2_with (refine wpList_storeB rfl 24 (.tmp 4) (.tmp 23) rfl w.heap.size 24 _ #[.string nm', .int .u8 ar, .int .u32 at_, .int .i64 wd, .bool bg, .bool sg, .int .i32 mu, .int .i32 ad] (by kernel_rfl) (by kernel_rfl) BX rfl (by kernel_rfl) (by simp [Value.oneCell']) ?_; intro w2 B2 hg2)
        refine bodyPost_ret (v := fndV (some ⟨nm', ar, at_, wd, bg, sg, mu, ad⟩)) (results_blk2 Try.results21 _ w2 w.heap.size 24 _ _ rfl B2 Try.underlying24 rfl (by kernel_rfl)) rfl ⟨rfl, hb0.grown hg2 hz0 (fun k hk => by injection hk with hk; omega)⟩
    · obtain rfl : k = n := by omega
      have hFF : F = none := HN0.out (fun s hs => by
        obtain ⟨j, hj, rfl⟩ := List.mem_iff_getElem.1 hs
        rw [HX.out] at hj
        exact HNO.out j _ hj (List.getElem?_eq_getElem (by rw [HX.out]; exact hj)))
      subst hFF
      clear hlt HS0 HN0 HNO
      go_wp2_with (refine wpList_build rfl 24 _ rfl (by kernel_rfl) ?_; refine wpList_storeB rfl 24 (.tmp 4) (.tmp 24) rfl w.heap.size 24 _ zeroS.cs (by kernel_rfl) (by kernel_rfl) BX rfl (by kernel_rfl) (by simp [Value.oneCell']) ?_; intro w2 B2 hg2)
      refine bodyPost_ret (v := fndV none) (results_blk2 Try.results21 _ w2 w.heap.size 24 _ _ rfl B2 Try.underlying24 rfl (by kernel_rfl)) rfl ⟨rfl, hb0.grown hg2 hz0 (fun k hk => by injection hk with hk; omega)⟩
def Dup (l : List Sy) : Prop := ∃ (i k : Nat) (s t : Sy), k < i ∧ l[i]? = some s ∧ l[k]? = some t ∧ (t.nm.toList == s.nm.toList) = true
open Classical in
/-- Why there is no table of names: 0: there is one. -/
noncomputable def errN (l : List Sy) : Int := if 64 < l.length then 3 else if ∃ s ∈ l, s.may = false then 1 else if Dup l then 180 else 0
theorem errN_long (l : List Sy) (h : 64 < l.length) : errN l = 3 := by unfold errN; rw [if_pos h]
theorem errN_may (l : List Sy) (h : l.length ≤ 64) (s : Sy) (hs : s ∈ l) (hm : s.may = false) : errN l = 1 := by unfold errN; rw [if_neg (by omega), if_pos ⟨s, hs, hm⟩]
theorem errN_dup (l : List Sy) (h : l.length ≤ 64) (hm : ∀ s ∈ l, s.may = true) (hd : Dup l) : errN l = 180 := by
  unfold errN
  rw [if_neg (by omega), if_neg (fun ⟨s, hs, h⟩ => by rw [hm s hs] at h; cases h), if_pos hd]
theorem errN_ok (l : List Sy) (h : l.length ≤ 64) (hm : ∀ s ∈ l, s.may = true) (hd : ¬ Dup l) : errN l = 0 := by
  unfold errN
  rw [if_neg (by omega), if_neg (fun ⟨s, hs, h⟩ => by rw [hm s hs] at h; cases h), if_neg hd]
def NewP (w : World) (A : Option Addr) (n c : Nat) (r : Int) (e : Ending) (w' : World) : Prop := e = .returned (.tuple #[if r = 0 then .slice A n c else .slice none 0 0, .int .i64 r]) ∧ Below w.heap.size w w'
theorem newp_no {w w' : World} {A : Option Addr} {n c : Nat} {r : Int} (hr : r ≠ 0) {e : Ending} (h : e = .returned (.tuple #[.slice none 0 0, .int .i64 r])) (hb : Below w.heap.size w w') : NewP w A n c r e w' := ⟨by rw [if_neg hr]; exact h, hb⟩
theorem newp_ok {w w' : World} {A : Option Addr} {n c : Nat} {e : Ending} (h : e = .returned (.tuple #[.slice A n c, .int .i64 0])) (hb : Below w.heap.size w w') : NewP w A n c 0 e w' := ⟨by rw [if_pos rfl]; exact h, hb⟩
set_option maxHeartbeats 8000000 in
theorem rnew_any (A : Option Addr) (n c : Nat) (l : List Sy) (w : World) (hx : l.length = n) (hr : Rd w w.heap.size A (cellsS l)) (hl : n ≤ maxLen) (hwf : ∀ s ∈ l, s.wf) :
    Calls Try.prog 19 #[.slice A n c] w (NewP w A n c (errN l)) := by
  unfold maxLen at hl
  have HX := Lib.hid hx
  have HWF := Lib.hid hwf
  have HR := Lib.hid (hr_row hr)
  obtain ⟨E, hE⟩ : ∃ E, errN l = E := ⟨_, rfl⟩
  have H3 := Lib.hid (errN_long l)
  have H1 := Lib.hid (errN_may l)
  have HD := Lib.hid (errN_dup l)
  have HO := Lib.hid (errN_ok l)
  rw [hE] at H3 H1 HD HO ⊢
  clear hx hr hwf hE
  by_cases h64 : 64 < n
  · obtain rfl : E = 3 := H3.out (by rw [HX.out]; exact h64)
    have h64I : (64 : Int) < n := by omega
    go_enter Try.func19, Try.ntmps19
    go_wp2_with fail
    go_ret2
    exact newp_no (by decide) rfl (Below.refl _ _)
  · have h64I : (n : Int) ≤ 64 := by omega
    have HL : Hid (l.length ≤ 64) := by show _ ≤ _; rw [HX.out]; omega
    clear h64 H3
    go_enter Try.func19, Try.ntmps19
    go_wp2_with fail
    go_loopw [4] (fun iv wx => ∃ k : Nat, k ≤ n ∧ iv = .int .i64 (k : Nat) ∧ (∀ j t, j < k → l[j]? = some t → t.may = true) ∧ Below w.heap.size w wx) (fun iv _ => n - (intOf iv).toNat)
    case atStart => exact ⟨0, Nat.zero_le _, rfl, fun j t h => by omega, Below.refl _ _⟩
    case round =>
      obtain ⟨k, hk, rfl, hno, hb⟩ := hrel
      have HNO := Lib.hid hno
      have hz := hb.size
      clear hno
      by_cases hlt : k < n
      · have hltI : (k : Int) < n := by omega
        obtain ⟨s, hs⟩ : ∃ s, l[k]? = some s := ⟨_, List.getElem?_eq_getElem (by rw [HX.out]; exact hlt)⟩
        obtain ⟨b, o, rfl, hcc⟩ := HR.out wr hb k s hs
        have HSK := Lib.hid hs
        have MY := Lib.hid (rmay_any s wr (HWF.out s (List.mem_of_getElem? hs)))
        cases hm : s.may
        · obtain rfl : E = 1 := H1.out HL.out s (List.mem_of_getElem? hs) hm
          rw [hm] at MY
          obtain ⟨nm', ar, at_, wd, bg, sg, mu, ad⟩ := s
          have c0 := hcc 0 _ rfl
          have c1 := hcc 1 _ rfl
          have c2 := hcc 2 _ rfl
          have c3 := hcc 3 _ rfl
          have c4 := hcc 4 _ rfl
          have c5 := hcc 5 _ rfl
          have c6 := hcc 6 _ rfl
          have c7 := hcc 7 _ rfl
          simp only [← Nat.add_assoc, Nat.add_zero] at c0 c1 c2 c3 c4 c5 c6 c7
          clear hcc hs hlt hm
          go_wp2_with fail
          refine MY.out.mono ?_
          rintro e w2 ⟨rfl, hb2⟩
          go_wp2_with fail
          go_ret2
          exact newp_no (by decide) rfl (hb.trans (hb2.mono hz))
        · have HMM := Lib.hid hm
          rw [hm] at MY
          obtain ⟨nm', ar, at_, wd, bg, sg, mu, ad⟩ := s
          have c0 := hcc 0 _ rfl
          have c1 := hcc 1 _ rfl
          have c2 := hcc 2 _ rfl
          have c3 := hcc 3 _ rfl
          have c4 := hcc 4 _ rfl
          have c5 := hcc 5 _ rfl
          have c6 := hcc 6 _ rfl
          have c7 := hcc 7 _ rfl
          simp only [← Nat.add_assoc, Nat.add_zero] at c0 c1 c2 c3 c4 c5 c6 c7
          clear hcc hs hlt hm
          go_wp2_with fail
          refine MY.out.mono ?_
          rintro e w2 ⟨rfl, hb2⟩
          have hb3 := hb.trans (hb2.mono hz)
          go_wp2_with fail
          go_roundw
          case rel =>
            refine ⟨k + 1, by omega, by go_num, fun j t hj ht => ?_, hb3⟩
            rcases Nat.lt_or_ge j k with h | h
            · exact HNO.out j t h ht
            · obtain rfl : j = k := by omega
              have := HSK.out
              rw [this] at ht
              injection ht with ht
              subst ht
              exact HMM.out
          case measure => simp [intOf]; omega
      · obtain rfl : k = n := by omega
        have HAM : Hid (∀ s ∈ l, s.may = true) := fun s hs => by
          obtain ⟨j, hj, rfl⟩ := List.mem_iff_getElem.1 hs
          rw [HX.out] at hj
          exact HNO.out j _ hj (List.getElem?_eq_getElem (by rw [HX.out]; exact hj))
        clear hlt HNO
        go_wp2_with fail
        go_loopw [5] (fun iv wx => ∃ i : Nat, i ≤ k ∧ iv = .int .i64 (i : Nat) ∧ (∀ (i' k' : Nat) (s t : Sy), i' < i → k' < i' → l[i']? = some s → l[k']? = some t → (t.nm.toList == s.nm.toList) = false) ∧ Below w.heap.size w wx) (fun iv _ => k - (intOf iv).toNat)
        case atStart => exact ⟨0, Nat.zero_le _, rfl, fun i' k' s t h => by omega, hb⟩
        case round =>
          obtain ⟨i, hi, rfl, hno, hbi⟩ := hrel
          have HNI := Lib.hid hno
          clear hno
          by_cases hlt : i < k
          · have hltI : (i : Int) < k := by omega
            obtain ⟨s, hs⟩ : ∃ s, l[i]? = some s := ⟨_, List.getElem?_eq_getElem (by rw [HX.out]; exact hlt)⟩
            have HSI := Lib.hid hs
            clear hs
            go_wp2_with fail
            go_loopw [6] (fun iv wx => ∃ j : Nat, j ≤ i ∧ iv = .int .i64 (j : Nat) ∧ (∀ (k' : Nat) (t : Sy), k' < j → l[k']? = some t → (t.nm.toList == s.nm.toList) = false) ∧ Below w.heap.size w wx) (fun iv _ => i - (intOf iv).toNat)
            case atStart => exact ⟨0, Nat.zero_le _, rfl, fun k' t h => by omega, hbi⟩
            case round =>
              obtain ⟨j, hj, rfl, hno, hbj⟩ := hrel
              have HNJ := Lib.hid hno
              clear hno
              by_cases hlj : j < i
              · have hljI : (j : Int) < i := by omega
                have hjkI : (j : Int) < k := by omega
                obtain ⟨t, ht⟩ : ∃ t, l[j]? = some t := ⟨_, List.getElem?_eq_getElem (by rw [HX.out]; omega)⟩
                obtain ⟨b, o, hA1, hc1⟩ := HR.out _ hbj i s HSI.out
                obtain ⟨b', o', hA2, hc2⟩ := HR.out _ hbj j t ht
                subst hA1
                injection hA2 with hA2
                injection hA2 with hA2 hA3
                subst hA2 hA3
                have HTJ := Lib.hid ht
                have d0 := hc1 0 _ rfl
                have d1 := hc2 0 _ rfl
                simp only [← Nat.add_assoc, Nat.add_zero] at d0 d1
                clear hc1 hc2 ht
                cases hE : (t.nm.toList == s.nm.toList)
                · have HE := Lib.hid hE
                  go_wp2_with fail
                  go_quiet (fail)
                  all_goals
                    go_wp2_with fail
                    go_roundw
                    case rel =>
                      refine ⟨j + 1, by omega, by go_num, fun k' t' hk' ht' => ?_, bel_drewN hbj _⟩
                      rcases Nat.lt_or_ge k' j with h | h
                      · exact HNJ.out k' t' h ht'
                      · obtain rfl : k' = j := by omega
                        have := HTJ.out
                        rw [this] at ht'
                        injection ht' with ht'
                        subst ht'
                        exact HE.out
                    case measure => simp [intOf]; omega
                · obtain rfl : E = 180 := HD.out HL.out HAM.out ⟨i, j, s, t, hlj, HSI.out, HTJ.out, hE⟩
                  go_wp2_with fail
                  go_quiet (fail)
                  all_goals
                    go_wp2_with fail
                    go_ret2
                    exact newp_no (by decide) rfl (bel_drewN hbj _)
              · obtain rfl : j = i := by omega
                go_wp2_with fail
                go_roundw
                case rel =>
                  refine ⟨j + 1, by omega, by go_num, fun i' k' s' t' h1 h2 h3 h4 => ?_, hbj⟩
                  rcases Nat.lt_or_ge i' j with h | h
                  · exact HNI.out i' k' s' t' h h2 h3 h4
                  · obtain rfl : i' = j := by omega
                    have := HSI.out
                    rw [this] at h3
                    injection h3 with h3
                    subst h3
                    exact HNJ.out k' t' h2 h4
                case measure => simp [intOf]; omega
          · obtain rfl : i = k := by omega
            obtain rfl : E = 0 := HO.out HL.out HAM.out (fun ⟨i', k', s', t', h1, h2, h3, h4⟩ => by
              have hi' : i' < i := by
                have := (List.getElem?_eq_some_iff.1 h2).1
                rw [HX.out] at this
                exact this
              rw [HNI.out i' k' s' t' hi' h1 h2 h3] at h4
              cases h4)
            clear HNI hlt
            go_wp2_with fail
            go_ret2
            exact newp_ok rfl hbi
end Go.Proofs.Ytmcmlglacblkiaa
