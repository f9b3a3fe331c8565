/- fire.Event: what sorts the lists that are done. -/
import Derived.Test.YteecgdbicokgoaaA0
import Derived.Deep.RegionHeld3
import Derived.Deep.RegionLaw
namespace Go.Proofs.Yteecgdbicokgoaa
open Go.RowKit
set_option linter.unusedVariables false
set_option linter.unusedSimpArgs false
set_option maxRecDepth 100000
theorem nan_any (x : Int) (w : World) : Calls Try.prog 71 #[.int .u8 x] w fun e w' => e = .returned (.bool false) ∧ w = w' := by
  go_enter Try.func71, Try.ntmps71
  go_wp2
  go_ret
  exact ⟨rfl, rfl⟩
theorem cmp_any (x y : Int) (w : World) : Calls Try.prog 50 #[.int .u8 x, .int .u8 y] w fun e w' => ∃ v : Int, e = .returned (.int .i64 v) ∧ w = w' := by
  have NA := Lib.hid nan_any
  go_enter Try.func50, Try.ntmps50
  go_wp2_with (go_at_call 71; refine (NA.out _ _).mono ?_; rintro e w' ⟨rfl, rfl⟩)
  all_goals
    go_ret
    exact ⟨_, rfl, rfl⟩
set_option maxHeartbeats 4000000 in
theorem less_any {w : World} {q n c : Nat} {A : Option Addr} {cl : List Lc} (hq : Blk w q 51 #[.slice A n c]) (hl : cl.length = n) (hr : Rd w w.heap.size A (lcells cl)) {a b : Nat} (ha : a < n) (hb : b < n) :
    Calls Try.prog 49 #[.int .i64 a, .int .i64 b, .pointer (some ⟨q, 0, none⟩)] w fun e w' => ∃ v : Int, e = .returned (.int .i64 v) ∧ Below w.heap.size w w' := by
  obtain ⟨xa, hxa⟩ : ∃ x, cl[a]? = some x := ⟨_, List.getElem?_eq_getElem (by omega)⟩
  obtain ⟨xb, hxb⟩ : ∃ x, cl[b]? = some x := ⟨_, List.getElem?_eq_getElem (by omega)⟩
  obtain ⟨g, o, rfl, -, hc⟩ := hr (by
    intro e
    have h1 := lcells_len cl
    rw [e] at h1
    simp at h1
    omega)
  have ca := hc _ _ (lcells_at hxa (j := 5) rfl)
  have cb := hc _ _ (lcells_at hxb (j := 5) rfl)
  rw [← Nat.add_assoc] at ca cb
  have ca : w.drew.cell? ⟨g, o + a * 8 + 5, none⟩ = some (.int .u8 xa.pri) := ca
  have cb : w.drew.cell? ⟨g, o + b * 8 + 5, none⟩ = some (.int .u8 xb.pri) := cb
  have cq := (hq.drew).cell
  have haI : (a : Int) < n := by omega
  have hbI : (b : Int) < n := by omega
  have CM := Lib.hid cmp_any
  clear hq hc hxa hxb hr
  go_enter Try.func49, Try.ntmps49
  go_upto_region 1 with fail
  go_region_with (first | (go_at_call 50; refine (CM.out _ _ _).mono ?_; rintro e w4 ⟨v, rfl, hw4⟩; subst hw4))
  all_goals
    go_wp2_with fail
    go_ret
    exact ⟨v, rfl, (Below.refl _ _).drew⟩
abbrev ints (ks : List Nat) : List Value := ks.map fun (k : Nat) => Value.int .i64 (k : Int)
theorem w64_nat {k : Nat} (h : k ≤ 1000) : wrap64 (k : Int) = k := by unfold wrap64; omega
theorem i64_nat {k : Nat} (h : k ≤ 1000) : IntKind.i64.wrap (k : Int) = k := IntWalk.i64_in _ (by omega)
/-- What holds while it is sorted. -/
structure SrtI (w : World) (q n c : Nat) (A : Option Addr) (cl : List Lc) (base : Nat) (A2 : Option Addr) (n2 c2 : Nat) (ks : List Nat) (w0 : World) : Prop where
  q : Blk w q 51 #[.slice A n c]
  rd : Rd w w.heap.size A (lcells cl)
  own : Own w base 3 1 A2 n2 c2 (ints ks)
  len : ks.length = n2
  lt : ∀ k ∈ ks, k < n
  ch : Chg (fun i => some i = blkOf A2) w0 w
theorem SrtI.below {w w' : World} {q n c : Nat} {A : Option Addr} {cl : List Lc} {base : Nat} {A2 : Option Addr} {n2 c2 : Nat} {ks : List Nat} {w0 : World} (h : SrtI w q n c A cl base A2 n2 c2 ks w0) (hb : Below w.heap.size w w') : SrtI w' q n c A cl base A2 n2 c2 ks w0 :=
  ⟨h.q.below hb, (h.rd.below hb).more hb.size, h.own.below hb, h.len, h.lt, h.ch.grow hb⟩
theorem SrtI.set_ {w : World} {q n c : Nat} {A : Option Addr} {cl : List Lc} {base g o n2 c2 : Nat} {ks : List Nat} {w0 : World} (h : SrtI w q n c A cl base (some ⟨g, o, none⟩) n2 c2 ks w0) (hqb : q < base) (hAb : ∀ g, blkOf A = some g → g < base) {i v : Nat} (hi : i < n2) (hv : v < n) :
    SrtI (w.setCell ⟨g, o + i, none⟩ (.int .i64 (v : Int))) q n c A cl base (some ⟨g, o, none⟩) n2 c2 (ks.set i v) w0 := by
  have hg := (h.own.lt (g := g) rfl).1
  have hc : Chg (fun i => some i = blkOf (some ⟨g, o, none⟩)) w (w.setCell ⟨g, o + i, none⟩ (.int .i64 (v : Int))) := Chg.at_ (F := fun i => some i = blkOf (some (⟨g, o, none⟩ : Addr))) (Chg.refl _ w) (q := g) (Eq.refl _) _ _
  have hset := h.own.set_ i (by omega) (.int .i64 (v : Int))
  rw [← List.map_set (f := fun k : Nat => Value.int .i64 (k : Int))] at hset
  refine ⟨h.q.chg hc (by intro e; injection e with e; simp at e; omega), ?_, hset, by rw [List.length_set]; exact h.len, fun k hk => ?_, Chg.at_ (F := fun i => some i = blkOf (some (⟨g, o, none⟩ : Addr))) h.ch (q := g) (Eq.refl _) _ _⟩
  · have := h.rd.chg (Nat.le_refl _) hc (fun q' hq' e => by have h1 := hAb q' hq'; injection e with e; simp at e; omega)
    exact this.more hc.size
  · rcases List.mem_or_eq_of_mem_set hk with hk | rfl
    · exact h.lt k hk
    · exact hv
set_option maxHeartbeats 8000000 in
theorem ins_any {w : World} {q n c : Nat} {A : Option Addr} {cl : List Lc} {base : Nat} {A2 : Option Addr} {n2 c2 : Nat} {ks : List Nat} (h : SrtI w q n c A cl base A2 n2 c2 ks w) (hl : cl.length = n) (hqb : q < base) (hAb : ∀ g, blkOf A = some g → g < base) (hn2 : n2 ≤ 4) :
    Calls Try.prog 102 #[.slice A2 n2 c2, .int .i64 0, .int .i64 n2, .func (.func 49) #[] #[.pointer (some ⟨q, 0, none⟩)]] w fun e w' => e = .returned (.tuple #[]) ∧ ∃ ks', SrtI w' q n c A cl base A2 n2 c2 ks' w := by
  have H := Lib.hid (And.intro h (And.intro hl (And.intro hqb hAb)))
  clear h hl hqb hAb
  go_enter Try.func102, Try.ntmps102
  go_wp2_with fail
  go_loopw [8] (fun iv wr => ∃ (i : Nat) (ks1 : List Nat), 1 ≤ i ∧ i ≤ 5 ∧ iv = .int .i64 i ∧ SrtI wr q n c A cl base A2 n2 c2 ks1 w) (fun iv _ => 5 - (intOf iv).toNat)
  case atStart => exact ⟨1, ks, by omega, by omega, rfl, H.out.1⟩
  case round =>
    obtain ⟨i, ks1, hi1, hi5, rfl, hS⟩ := hrel
    by_cases hlt : i < n2
    · have hltI : (i : Int) < n2 := by omega
      have HS := Lib.hid hS
      clear hS
      generalize wr = wo at *
      go_wp2_with fail
      go_loopw [9] (fun jv wx => ∃ (j : Nat) (ks2 : List Nat), j ≤ i ∧ jv = .int .i64 j ∧ SrtI wx q n c A cl base A2 n2 c2 ks2 w) (fun jv _ => (intOf jv).toNat)
      case atStart => exact ⟨i, ks1, Nat.le_refl _, rfl, HS.out⟩
      case round =>
        obtain ⟨j, ks2, hj, rfl, hS⟩ := hrel
        rcases Nat.eq_zero_or_pos j with rfl | hj0
        · have HS2 := Lib.hid hS
          clear hS hj
          go_wp2_with fail
          first | go_quiet (fail) | skip
          go_wp2_with fail
          refine ⟨⟨i + 1, ks2, by omega, by omega, rfl, HS2.out.below (bel_drewN (Below.refl _ _) nq)⟩, ?_⟩
          simp only [intOf]
          omega
        · obtain ⟨p, rfl⟩ : ∃ p, j = p + 1 := ⟨j - 1, by omega⟩
          have hjn : (p : Int) + 1 < n2 := by omega
          have hpn : (p : Int) < n2 := by omega
          have hp0 : (0 : Int) < (p : Int) + 1 := by omega
          have hp0n : 0 < p + 1 := by omega
          have hpd : decide ((0 : Int) < (p : Int) + 1) = true := decide_eq_true hp0
          obtain ⟨g, o, rfl⟩ := hS.own.at_ (by omega)
          obtain ⟨kj, hkj⟩ : ∃ x, ks2[p + 1]? = some x := ⟨_, List.getElem?_eq_getElem (by rw [hS.len]; omega)⟩
          obtain ⟨kp, hkp⟩ : ∃ x, ks2[p]? = some x := ⟨_, List.getElem?_eq_getElem (by rw [hS.len]; omega)⟩
          have cj : ∀ w', Below wr.heap.size wr w' → w'.cell? ⟨g, o + (p + 1), none⟩ = some (.int .i64 kj) := fun w' hb => (hS.own.below hb).cells (p + 1) _ (by rw [List.getElem?_map, hkj]; rfl)
          have cp : ∀ w', Below wr.heap.size wr w' → w'.cell? ⟨g, o + p, none⟩ = some (.int .i64 kp) := fun w' hb => (hS.own.below hb).cells p _ (by rw [List.getElem?_map, hkp]; rfl)
          have ltj := hS.lt kj (List.mem_of_getElem? hkj)
          have ltp := hS.lt kp (List.mem_of_getElem? hkp)
          have LS := Lib.hid (fun w' (hb : Below wr.heap.size wr w') => less_any (hS.below hb).q H.out.2.1 (hS.below hb).rd ltj ltp)
          have HS2 := Lib.hid (And.intro hS (And.intro hkj (And.intro hkp (And.intro ltj ltp))))
          have z0 := Below.refl wr.heap.size wr
          have hpe : (p : Int) + 1 - 1 = p := by omega
          have hpw2 := w64_nat (k := p) (by omega)
          have hpw4 := i64_nat (k := p) (by omega)
          have hpw1 : wrap64 ((p : Int) + 1 - 1) = p := by rw [hpe]; exact hpw2
          have hpw3 : IntKind.i64.wrap ((p : Int) + 1 - 1) = p := by rw [hpe]; exact hpw4
          have hpz : (0 : Int) ≤ p := Int.natCast_nonneg p
          clear hS hkj hkp ltj ltp
          go_upto_region 4 with fail
          go_region_held (fun w' => Below wr.heap.size wr w') (first | exact (Below.refl _ _).drew | exact bel2 (by assumption) (by assumption)) (first | (go_at_call 49; (with_reducible refine (LS.out _ (by assumption)).mono ?_); rintro e w4 ⟨v, rfl, hb4⟩))
          have hbw4 : Below wr.heap.size wr w4 := by assumption
          have HSW := Lib.hid (HS2.out.1.below hbw4)
          by_cases hv : v < 0
          · have hvd : decide (v < 0) = true := decide_eq_true hv
            have cj4 : w4.drew.cell? ⟨g, o + (p + 1), none⟩ = some (.int .i64 kj) := HSW.out.own.cells (p + 1) _ (by rw [List.getElem?_map, HS2.out.2.1]; rfl)
            have cp4 : w4.drew.cell? ⟨g, o + p, none⟩ = some (.int .i64 kp) := HSW.out.own.cells p _ (by rw [List.getElem?_map, HS2.out.2.2.1]; rfl)
            have f4 : ∀ i, w4.drew.frozen? ⟨g, i, none⟩ = false := HSW.out.own.frozen
            have hS1 := (HSW.out.below (Below.refl w4.heap.size w4).drew).set_ H.out.2.2.1 H.out.2.2.2 (i := p + 1) (v := kp) (by omega) HS2.out.2.2.2.2
            have cs1 : (w4.drew.setCell ⟨g, o + (p + 1), none⟩ (.int .i64 kp)).cell? ⟨g, o + p, none⟩ = some (.int .i64 kp) := hS1.own.cells p _ (by rw [List.getElem?_map, List.getElem?_set_ne (by omega), HS2.out.2.2.1]; rfl)
            have fs1 : ∀ i, (w4.drew.setCell ⟨g, o + (p + 1), none⟩ (.int .i64 kp)).frozen? ⟨g, i, none⟩ = false := hS1.own.frozen
            have HS3 := Lib.hid (hS1.set_ H.out.2.2.1 H.out.2.2.2 (i := p) (v := kj) (by omega) HS2.out.2.2.2.1)
            have cj5 : w4.cell? ⟨g, o + (p + 1), none⟩ = some (.int .i64 kj) := cj4
            have cp5 : w4.cell? ⟨g, o + p, none⟩ = some (.int .i64 kp) := cp4
            have f5 : ∀ i, w4.frozen? ⟨g, i, none⟩ = false := f4
            clear cj cp LS hS1
            go_upto_region 6 with fail
            go_region
            have HPW := Lib.hid (And.intro hpw1 (And.intro hpw2 (And.intro hpw3 hpw4)))
            go_wp2_with fail
            clear hpw1 hpw2 hpw3 hpw4
            go_roundw
            case rel => exact ⟨p, (ks2.set (p + 1) kp).set p kj, by omega, by first | rfl | trivial | (rw [hpe]), HS3.out⟩
            case measure =>
              simp only [intOf]
              omega
          · have hvd : decide (v < 0) = false := decide_eq_false hv
            clear cj cp LS
            go_wp2_with fail
            refine ⟨⟨i + 1, ks2, by omega, by omega, rfl, HSW.out⟩, ?_⟩
            simp only [intOf]
            omega
    · have HS := Lib.hid hS
      clear hS
      go_wp2_with fail
      go_end0
      exact ⟨rfl, ks1, HS.out⟩
set_option maxHeartbeats 2000000 in
theorem stable_any {w : World} {q n c : Nat} {A : Option Addr} {cl : List Lc} {base : Nat} {A2 : Option Addr} {n2 c2 : Nat} {ks : List Nat} (h : SrtI w q n c A cl base A2 n2 c2 ks w) (hl : cl.length = n) (hqb : q < base) (hAb : ∀ g, blkOf A = some g → g < base) (hn2 : n2 ≤ 4) :
    Calls Try.prog 70 #[.slice A2 n2 c2, .int .i64 n2, .func (.func 49) #[] #[.pointer (some ⟨q, 0, none⟩)]] w fun e w' => e = .returned (.tuple #[]) ∧ ∃ ks', SrtI w' q n c A cl base A2 n2 c2 ks' w := by
  have IN := Lib.hid (ins_any h hl hqb hAb hn2)
  have h20 : ¬ (20 : Int) ≤ n2 := by omega
  have h20' : ¬ (20 : Int) < n2 := by omega
  have h20d : decide ((20 : Int) ≤ n2) = false := decide_eq_false h20
  have h20e : decide ((20 : Int) < n2) = false := decide_eq_false h20'
  clear h hl hqb hAb
  go_enter Try.func70, Try.ntmps70
  go_wp2_with fail
  refine wp_loop_rounds 1 ?_
  rw [rounds_succ]
  go_wp2_with fail
  refine IN.out.mono ?_
  rintro e w1 ⟨rfl, ks1, hS⟩
  have HS := Lib.hid hS
  clear hS IN
  go_wp2_with fail
  refine wp_loop_rounds 1 ?_
  rw [rounds_succ]
  go_wp2_with fail
  go_end0
  exact ⟨rfl, ks1, HS.out⟩
theorem sort_any {w : World} {q n c : Nat} {A : Option Addr} {cl : List Lc} {base : Nat} {A2 : Option Addr} {n2 c2 : Nat} {ks : List Nat} (h : SrtI w q n c A cl base A2 n2 c2 ks w) (hl : cl.length = n) (hqb : q < base) (hAb : ∀ g, blkOf A = some g → g < base) (hn2 : n2 ≤ 4) :
    Calls Try.prog 48 #[.slice A2 n2 c2, .func (.func 49) #[] #[.pointer (some ⟨q, 0, none⟩)]] w fun e w' => e = .returned (.tuple #[]) ∧ ∃ ks', SrtI w' q n c A cl base A2 n2 c2 ks' w := by
  have ST := Lib.hid (stable_any h hl hqb hAb hn2)
  clear h hl hqb hAb
  go_enter Try.func48, Try.ntmps48
  go_wp2_with fail
  refine ST.out.mono ?_
  rintro e w1 ⟨rfl, ks1, hS⟩
  have HS := Lib.hid hS
  clear hS ST
  go_wp2_with fail
  go_end0
  exact ⟨rfl, ks1, HS.out⟩
end Go.Proofs.Yteecgdbicokgoaa
