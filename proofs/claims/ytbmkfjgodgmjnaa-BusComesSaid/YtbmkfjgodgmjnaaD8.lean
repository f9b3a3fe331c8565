/- BusComes: the walk. -/
import Derived.Test.YtbmkfjgodgmjnaaD7
import Derived.Test.YtbmkfjgodgmjnaaChain
namespace Go.Proofs.Ytbmkfjgodgmjnaa
open Go.RowKit
set_option linter.unusedVariables false
set_option linter.unusedSimpArgs false
/-- The filters of the first k nodes. -/
def flk (f : Fr) (lt : Nat → Bool) (k i : Nat) : List Flt := if i < k ∧ lt i = true then [⟨0, 0, f.ext⟩] else []
def XR (f : Fr) (lt : Nat → Bool) (w1 : World) (k : Nat) (w : World) : Prop := ∃ (Ad : Nat → Option Addr) (ns : Nat → Nat),
  Blk w w1.heap.size 62 #[.slice (Ad 0) (ns 0) (ns 0), .slice (Ad 1) (ns 1) (ns 1), .slice (Ad 2) (ns 2) (ns 2)] ∧ (∀ i, i < 3 → (flk f lt k i).length = ns i ∧ (Ad i = none → ns i = 0) ∧ Rd w w.heap.size (Ad i) (flcells (flk f lt k i))) ∧ Below w1.heap.size w1 w
theorem flk_skip {f : Fr} {lt : Nat → Bool} {k : Nat} (h : lt k = false) (i : Nat) : flk f lt (k + 1) i = flk f lt k i := by
  unfold flk
  by_cases hik : i = k
  · subst hik
    rw [if_neg (fun x => by rw [h] at x; simp at x), if_neg (fun x => by omega)]
  · by_cases hlt : i < k
    · simp [hlt, show i < k + 1 by omega]
    · rw [if_neg (fun x => by omega), if_neg (fun x => by omega)]
theorem flk_new {f : Fr} {lt : Nat → Bool} {k : Nat} (h : lt k = true) (i : Nat) : flk f lt (k + 1) i = if i = k then [⟨0, 0, f.ext⟩] else flk f lt k i := by
  unfold flk
  by_cases hik : i = k
  · subst hik
    simp [h]
  · rw [if_neg hik]
    by_cases hlt : i < k
    · simp [hlt, show i < k + 1 by omega]
    · rw [if_neg (fun x => by omega), if_neg (fun x => by omega)]
theorem XR.skip {f : Fr} {lt : Nat → Bool} {w1 w : World} {k : Nat} (h : XR f lt w1 k w) (hk : lt k = false) : XR f lt w1 (k + 1) w := by
  obtain ⟨Ad, ns, h1, h2, h3⟩ := h
  exact ⟨Ad, ns, h1, fun i hi => by rw [flk_skip hk]; exact h2 i hi, h3⟩
theorem XR.new {f : Fr} {lt : Nat → Bool} {w1 w : World} {k : Nat} (h : XR f lt w1 k w) (hk : lt k = true) (hk3 : k < 3) : XR f lt w1 (k + 1) ((w.alloc (.cells #[.int .u32 0, .int .u32 0, .bool f.ext] 33)).setCell ⟨w1.heap.size, k, none⟩ (.slice (some ⟨w.heap.size, 0, none⟩) 1 1)) := by
  obtain ⟨Ad, ns, h1, h2, h3⟩ := h
  have hg := h1.lt
  have hb := bl1 w (.cells #[.int .u32 0, .int .u32 0, .bool f.ext] 33)
  refine ⟨fun i => if i = k then some ⟨w.heap.size, 0, none⟩ else Ad i, fun i => if i = k then 1 else ns i, ?_, fun i hi => ?_, ?_⟩
  · have := (h1.below hb).set_ k (.slice (some ⟨w.heap.size, 0, none⟩) 1 1)
    rcases (by omega : k = 0 ∨ k = 1 ∨ k = 2) with rfl | rfl | rfl <;> exact this
  · rw [flk_new hk]
    by_cases hik : i = k
    · subst hik
      simp only [if_true]
      refine ⟨rfl, (fun h => by cases h), fun _ => ⟨w.heap.size, 0, rfl, by simp [World.setCell], fun j u hu => ?_⟩⟩
      have hB : Blk ((w.alloc (.cells #[.int .u32 0, .int .u32 0, .bool f.ext] 33)).setCell ⟨w1.heap.size, i, none⟩ (.slice (some ⟨w.heap.size, 0, none⟩) 1 1)) w.heap.size 33 #[.int .u32 0, .int .u32 0, .bool f.ext] := (Blk.new w 33 _).far (by dsimp only; omega) _
      rw [hB.cell, Nat.zero_add]
      simpa [flcells] using hu
    · simp only [if_neg hik]
      obtain ⟨a1, a2, a3⟩ := h2 i hi
      refine ⟨a1, a2, fun hn => ?_⟩
      obtain ⟨b, o, e1, e2, e3⟩ := a3 hn
      refine ⟨b, o, e1, by simp [World.setCell]; omega, fun j u hu => ?_⟩
      have hc := e3 j u hu
      have hbne : b ≠ w1.heap.size := fun e => by
        subst e
        rw [h1.cell] at hc
        have hj : o + j < 3 := by
          have := (Array.getElem?_eq_some_iff.1 hc).1
          simpa using this
        have hu33 : ∀ v ∈ flcells (flk f lt k i), v = .int .u32 0 ∨ v = .bool f.ext := by
          intro v hv
          unfold flk at hv
          split at hv
          · simp [flcells] at hv
            rcases hv with rfl | rfl <;> simp
          · simp [flcells] at hv
        have hv := hu33 u (List.mem_of_getElem? hu)
        rcases (by omega : o + j = 0 ∨ o + j = 1 ∨ o + j = 2) with e | e | e <;> rw [e] at hc <;> simp at hc <;> subst hc <;> simp at hv
      rw [World.cell?_setCell_far _ _ _ _ (fun e => hbne e.symm)]
      rw [World.cell?_alloc_lt _ _ _ e2]
      exact hc
  · exact (h3.trans (hb.mono h3.size)).setCell (Nat.le_refl _) _
theorem wpList_val {P : Program} {ops : Array Oper} {rest : List Oper} {o : Oper} {a : Act} {w : World} {Q : Exit → Act → World → Prop} {v : Value} (hgd : o.guard = none) (ho : ∃ t x y, o.op = .index t x y) (h : (execOp a.eval o).run P w = .ok (.value v) w) (hK : wpList P ops Q rest (a.put o.dst v) w) : wpList P ops Q (o :: rest) a w :=
  wpList_plain hgd fun K hK' => by unfold Oper.wp; rw [h]; exact hK' _ _ hK
def lt3 (l0 l1 l2 : Bool) (i : Nat) : Bool := if i = 0 then l0 else if i = 1 then l1 else l2
theorem flk_wf (f : Fr) (lt : Nat → Bool) (i : Nat) : ∀ x ∈ flk f lt 3 i, x.wf := fun x hx => by
  unfold flk at hx
  split at hx
  · simp at hx
    subst hx
    simp [Flt.wf]
  · simp at hx
theorem flk_len (f : Fr) (lt : Nat → Bool) (i : Nat) : (flk f lt 3 i).length ≤ 1 := by
  unfold flk
  split <;> simp
theorem flk_take (f : Fr) (lt : Nat → Bool) (i : Nat) : (flk f lt 3 i).take 4 = flk f lt 3 i := List.take_of_length_le (by have := flk_len f lt i; omega)
/-- What the law holds behind nodes. -/
def CS (f : Fr) (l0 l1 l2 : Bool) (w : World) (q r : Nat → Nat) (A A' : Option Addr) (t s : Nat → Bx) (w' : World) : Prop :=
  ∃ Φ, NS w.heap.size (in3 q) (in3 r) w A (nodesL q) A' (nodesL r) s t Φ w' ∧ BlC Φ (0, 9) w' w.heap.size 26 f.cs.toArray ∧ BlC Φ (0, 9) w' (w.heap.size + 1) 66 #[.bool l0, .bool l1, .bool l2]
def CSP (f : Fr) (l0 l1 l2 : Bool) (w : World) (q r : Nat → Nat) (A A' : Option Addr) (t s : Nat → Bx) (v : Value) (e : Ending) (w' : World) : Prop := e = .returned v ∧ CS f l0 l1 l2 w q r A A' t s w'
section
variable {f : Fr} {l0 l1 l2 : Bool} {w w1 w2 : World} {q r : Nat → Nat} {A A' : Option Addr} {t s s2 : Nat → Bx} {Φ : Who}
theorem CS.below (h : CS f l0 l1 l2 w q r A A' t s w1) (hb : Below w1.heap.size w1 w2) : CS f l0 l1 l2 w q r A A' t s w2 := by
  obtain ⟨Φ, h1, h2, h3⟩ := h
  exact ⟨Φ, h1.below hb, h2.below hb, h3.below hb⟩
theorem CS.call {e : Ending} {v : Value} (h : BlC Φ (0, 9) w1 w.heap.size 26 f.cs.toArray ∧ BlC Φ (0, 9) w1 (w.heap.size + 1) 66 #[.bool l0, .bool l1, .bool l2]) (hp : CallP w.heap.size (NS w.heap.size (in3 q) (in3 r) w A (nodesL q) A' (nodesL r) s2 t) v Φ w1 e w2) : CSP f l0 l1 l2 w q r A A' t s2 v e w2 := by
  obtain ⟨he, Φ', g1, g2⟩ := hp
  exact ⟨he, Φ', g1, h.1.ext g2 SA.no9, h.2.ext g2 SA.no9⟩
theorem CS.send (h : CS f l0 l1 l2 w q r A A' t s w1) {i : Nat} (hi : i < 3) (hf : f.wf) : Calls Try.prog 18 #[.pointer (some ⟨q i, 0, none⟩), f.val] w1 (CSP f l0 l1 l2 w q r A A' t (upd s (q i) (sendX (s (q i)) f)) (.int .i64 (sendE (s (q i)) f))) := by
  obtain ⟨Φ, h1, h2⟩ := h
  exact (ns_send h1 ⟨i, hi, rfl⟩ f hf).mono fun e w' hp => CS.call h2 hp
theorem CS.recv (h : CS f l0 l1 l2 w q r A A' t s w1) {i : Nat} (hi : i < 3) : Calls Try.prog 23 #[.pointer (some ⟨q i, 0, none⟩)] w1 (CSP f l0 l1 l2 w q r A A' t (upd s (q i) { s (q i) with rx := (s (q i)).rx.tail }) (.tuple #[((s (q i)).rx.headD Fr.none_).val, .bool (!(s (q i)).rx.isEmpty)])) := by
  obtain ⟨Φ, h1, h2⟩ := h
  exact (ns_recv h1 ⟨i, hi, rfl⟩).mono fun e w' hp => CS.call h2 hp
theorem CS.turn (h : CS f l0 l1 l2 w q r A A' t s w1) {c : Nat} (lost : Bool) (hc3 : 3 ≤ c) (hc : c ≤ maxLen) : Calls Try.prog 37 #[.bool lost, .slice A 3 c] w1 (CSP f l0 l1 l2 w q r A A' t (turnS (nodesL q) s 3 lost) (.tuple #[.int .i64 (turnV (nodesL q) s 3).1, (turnV (nodesL q) s 3).2.1.val, .bool (turnV (nodesL q) s 3).2.2])) := by
  obtain ⟨Φ, h1, h2⟩ := h
  exact (ns_turn (n := 3) h1 lost (nodesL_in q) rfl hc3 hc).mono fun e w' hp => CS.call h2 hp
theorem CS.fc (h : CS f l0 l1 l2 w q r A A' t s w1) : ∀ i, w1.cell? ⟨w.heap.size, i, none⟩ = f.cs.toArray[i]? := by
  obtain ⟨Φ, h1, h2, h3⟩ := h
  exact h2.1.cell
theorem CS.lc (h : CS f l0 l1 l2 w q r A A' t s w1) : ∀ i, w1.cell? ⟨w.heap.size + 1, i, none⟩ = (#[.bool l0, .bool l1, .bool l2] : Array Value)[i]? := by
  obtain ⟨Φ, h1, h2, h3⟩ := h
  exact h3.1.cell
theorem CS.ad (h : CS f l0 l1 l2 w q r A A' t s w1) : ∃ g o, A = some ⟨g, o, none⟩ := by
  obtain ⟨Φ, h1, h2, h3⟩ := h
  obtain ⟨g, o, e, -⟩ := h1.node (nodesL_get q (i := 0) (by decide))
  exact ⟨g, o, e⟩
theorem CS.nc {g o : Nat} (h : CS f l0 l1 l2 w q r (some ⟨g, o, none⟩) A' t s w1) {i : Nat} (hi : i < 3) : w1.cell? ⟨g, o + i, none⟩ = some (.pointer (some ⟨q i, 0, none⟩)) := by
  obtain ⟨Φ, h1, h2, h3⟩ := h
  obtain ⟨g', o', e, hc⟩ := h1.node (nodesL_get q hi)
  simp only [Option.some.injEq, Addr.mk.injEq] at e
  obtain ⟨rfl, rfl, -⟩ := e
  exact hc _ (Below.refl _ _)
theorem CS.lt (h : CS f l0 l1 l2 w q r A A' t s w1) : w.heap.size + 1 < w1.heap.size := by
  obtain ⟨Φ, h1, h2, h3⟩ := h
  exact h3.1.lt
theorem CS.bel (h : CS f l0 l1 l2 w q r A A' t s w1) : Below w.heap.size w w1 := by
  obtain ⟨Φ, h1, h2, h3⟩ := h
  exact h1.bel
theorem CS.lcI (h : CS f l0 l1 l2 w q r A A' t s w1) : ∀ o i, (w1.alloc o).cell? ⟨w.heap.size + 1, i, none⟩ = (#[.bool l0, .bool l1, .bool l2] : Array Value)[i]? := fun o => (h.below (bl1 w1 o)).lc
theorem CS.fcI (h : CS f l0 l1 l2 w q r A A' t s w1) : ∀ o i, (w1.alloc o).cell? ⟨w.heap.size, i, none⟩ = f.cs.toArray[i]? := fun o => (h.below (bl1 w1 o)).fc
end
/-- Which nodes get the frame. -/
def got (l0 l1 l2 lost : Bool) (i j : Nat) : Bool := !(j == i) && lt3 l0 l1 l2 j && !lost
theorem sendE_b0 {a : Bx} {fl : List Flt} (f : Fr) (h : a = b0 fl) : sendE a f = if f.may = false then 1 else 0 := by
  subst h
  unfold sendE
  simp [b0]
theorem sendX_b0 {a : Bx} {fl : List Flt} (f : Fr) (hm : f.may = true) (h : a = b0 fl) : sendX a f = ⟨fl, [f], [], false⟩ := by
  subst h
  unfold sendX sendE
  simp [b0, hm, insB, posN]
theorem takeB_flk (f : Fr) (hf : f.wf) (hm : f.may = true) (lt : Nat → Bool) (j : Nat) (hj : j < 3) : (takeX (b0 (flk f lt 3 j)) f).rx = if lt j then [f] else [] := by
  unfold takeX takeB flk anyB
  cases h : lt j with
  | true => simp [hj, h, b0, hm, lets_all f hf]
  | false => simp [hj, h, b0]
/-- What each box has behind the Turn. -/
theorem rx_got {f : Fr} (hf : f.wf) (hm : f.may = true) {l0 l1 l2 lost : Bool} {q : Nat → Nat} (hq : inj3 q) {s : Nat → Bx} {i : Nat} (hi : i < 3) (hs : ∀ i, i < 3 → s (q i) = b0 ((flk f (lt3 l0 l1 l2) 3 i).take 4)) (j : Nat) (hj : j < 3) :
    (afterT (nodesL q) (upd s (q i) (sendX (s (q i)) f)) (q i) i 3 f lost (q j)).rx = if got l0 l1 l2 lost i j then [f] else [] := by
  have hsi : upd s (q i) (sendX (s (q i)) f) (q i) = ⟨flk f (lt3 l0 l1 l2) 3 i, [f], [], false⟩ := by
    rw [upd_eq, sendX_b0 f hm (hs i hi), flk_take]
  rw [afterT_at hq _ hi f lost j hj]
  unfold got
  by_cases hji : j = i
  · subst hji
    rw [if_pos rfl, hsi]
    simp
  · have hne : q j ≠ q i := fun e => hji (hq j i hj hi e)
    rw [if_neg hji, upd_ne _ _ hne, hs j hj, flk_take]
    cases lost with
    | true => simp [b0]
    | false => simp [hji, takeB_flk f hf hm _ j hj]
theorem turn_one {f : Fr} (hm : f.may = true) {q : Nat → Nat} (hq : inj3 q) {s : Nat → Bx} {i : Nat} (hi : i < 3) {fl : Nat → List Flt} (hs : ∀ i, i < 3 → s (q i) = b0 (fl i)) (lost : Bool) :
    turnV (nodesL q) (upd s (q i) (sendX (s (q i)) f)) 3 = (i, f, true) ∧ turnS (nodesL q) (upd s (q i) (sendX (s (q i)) f)) 3 lost = afterT (nodesL q) (upd s (q i) (sendX (s (q i)) f)) (q i) i 3 f lost := by
  have h := fst_one (q := q) (s := upd s (q i) (sendX (s (q i)) f)) (i := i) (f := f) (r := []) hi (by rw [upd_eq, sendX_b0 f hm (hs i hi)]) (fun j hj hji => by rw [upd_ne _ _ (fun e => hji (hq j i hj hi e)), hs j hj])
  unfold turnV turnS
  rw [h]
  simp only [if_true, nodesL_get q hi]
  first | done | exact ⟨trivial, trivial⟩
set_option maxRecDepth 100000 in
set_option maxHeartbeats 4000000 in
theorem comes_any (f : Fr) (hf : f.wf) (who : Int) (h0 : 0 ≤ who) (h1 : who < 256) (l0 l1 l2 : Bool) (lost : Bool) (w : World) :
    Calls Try.prog 10 #[f.val, .int .u8 who, .agg #[.bool l0, .bool l1, .bool l2], .bool lost] w fun e w' => e = .returned (.bool true) ∧ Below w.heap.size w w' := by
  obtain ⟨i, hi⟩ : ∃ i : Nat, who % 3 = i := ⟨(who % 3).toNat, by omega⟩
  have hi3 : i < 3 := by omega
  have hi3' : (i : Int) < 3 := by omega
  have hsz : (Try.prog.types[4]'(of_decide_eq_true (by kernel_rfl))).size = 1 := by kernel_rfl
  go_enter Try.func10, Try.ntmps10
  go_upto_region 1 with fail
  refine wp_named fun W hW => ?_
  obtain ⟨BF, BL, hbW⟩ := blk2 (c1 := f.cs.toArray) (c2 := #[.bool l0, .bool l1, .bool l2]) hW
  clear hW
  have hzW := hbW.size
  go_wp2_with fail
  refine (bshown_any _).mono ?_
  rintro e w1 ⟨rfl, b1⟩
  have hb1 := hbW.trans (b1.mono hzW)
  have BF1 := Lib.hid (BF.below b1)
  have BL1 := Lib.hid (BL.below b1)
  have hl1 := BL1.out.cell
  have hl1b := BL1.out.lt
  clear BF BL
  go_upto_region 3 with fail
  refine wp_named fun W2 hW2 => ?_
  obtain ⟨BX0, hbW2⟩ := blk1 (c1 := #[.slice none 0 0, .slice none 0 0, .slice none 0 0]) hW2
  have HX0 : Hid (XR f (lt3 l0 l1 l2) w1 0 W2) := Lib.hid ⟨fun _ => none, fun _ => 0, BX0, fun i hi => ⟨by simp [flk], fun _ => rfl, by simp [flk, flcells]; exact Rd.nil⟩, hbW2⟩
  have hl2 := (BL1.out.below hbW2).cell
  clear hW2 BX0 hl1
  go_wp2_with fail
  go_loopw [25] (fun iv wr => ∃ k : Nat, k ≤ 3 ∧ iv = .int .i64 k ∧ XR f (lt3 l0 l1 l2) w1 k wr) (fun iv _ => 3 - (intOf iv).toNat)
  case atStart => exact ⟨0, by decide, rfl, HX0.out⟩
  case round =>
    obtain ⟨k, hk, rfl, HX⟩ := hrel
    clear HX0 hl2 hbW2
    have HXH := Lib.hid HX
    obtain ⟨Ad, ns, hX1, hX2, hX3⟩ := HX
    by_cases hlt : k < 3
    · have bl := (BL1.out.below hX3).cell
      have bf := (BF1.out.below hX3).cell
      have bx := hX1.cell
      have fx := hX1.frozen
      rcases (by omega : k = 0 ∨ k = 1 ∨ k = 2) with rfl | rfl | rfl
      · cases l0 with
        | false =>
          have HS := Lib.hid (HXH.out.skip (k := 0) rfl)
          try simp only [Int.natCast_zero, Int.natCast_one, Int.cast_ofNat_Int, show ((2 : Nat) : Int) = 2 from rfl, show ((1 : Nat) : Int) = 1 from rfl, show ((0 : Nat) : Int) = 0 from rfl]
          go_wp2_with (refine wpList_val (v := .bool false) rfl ⟨_, _, _, rfl⟩ (by kernel_rfl) ?_)
          go_roundw
          case rel => exact ⟨1, by decide, rfl, HS.out⟩
          case measure => simp [intOf]
        | true =>
          have HS := (HXH.out.new (k := 0) rfl (by decide))
          have hgl := hX1.lt
          rw [World.setCell_alloc_past _ _ _ _ hgl] at HS
          have HS := Lib.hid HS
          have bx' := fun o => (hX1.below (bl1 wr o)).cell
          have fx' := fun o => (hX1.below (bl1 wr o)).frozen
          try simp only [Int.natCast_zero, Int.natCast_one, Int.cast_ofNat_Int, show ((2 : Nat) : Int) = 2 from rfl, show ((1 : Nat) : Int) = 1 from rfl, show ((0 : Nat) : Int) = 0 from rfl]
          go_wp2_with (refine wpList_val (v := .bool true) rfl ⟨_, _, _, rfl⟩ (by kernel_rfl) ?_)
          go_roundw
          case rel => exact ⟨1, by decide, rfl, HS.out⟩
          case measure => simp [intOf]
      · cases l1 with
        | false =>
          have HS := Lib.hid (HXH.out.skip (k := 1) rfl)
          try simp only [Int.natCast_zero, Int.natCast_one, Int.cast_ofNat_Int, show ((2 : Nat) : Int) = 2 from rfl, show ((1 : Nat) : Int) = 1 from rfl, show ((0 : Nat) : Int) = 0 from rfl]
          go_wp2_with (refine wpList_val (v := .bool false) rfl ⟨_, _, _, rfl⟩ (by kernel_rfl) ?_)
          go_roundw
          case rel => exact ⟨2, by decide, rfl, HS.out⟩
          case measure => simp [intOf]
        | true =>
          have HS := (HXH.out.new (k := 1) rfl (by decide))
          have hgl := hX1.lt
          rw [World.setCell_alloc_past _ _ _ _ hgl] at HS
          have HS := Lib.hid HS
          have bx' := fun o => (hX1.below (bl1 wr o)).cell
          have fx' := fun o => (hX1.below (bl1 wr o)).frozen
          try simp only [Int.natCast_zero, Int.natCast_one, Int.cast_ofNat_Int, show ((2 : Nat) : Int) = 2 from rfl, show ((1 : Nat) : Int) = 1 from rfl, show ((0 : Nat) : Int) = 0 from rfl]
          go_wp2_with (refine wpList_val (v := .bool true) rfl ⟨_, _, _, rfl⟩ (by kernel_rfl) ?_)
          go_roundw
          case rel => exact ⟨2, by decide, rfl, HS.out⟩
          case measure => simp [intOf]
      · cases l2 with
        | false =>
          have HS := Lib.hid (HXH.out.skip (k := 2) rfl)
          try simp only [Int.natCast_zero, Int.natCast_one, Int.cast_ofNat_Int, show ((2 : Nat) : Int) = 2 from rfl, show ((1 : Nat) : Int) = 1 from rfl, show ((0 : Nat) : Int) = 0 from rfl]
          go_wp2_with (refine wpList_val (v := .bool false) rfl ⟨_, _, _, rfl⟩ (by kernel_rfl) ?_)
          go_roundw
          case rel => exact ⟨3, by decide, rfl, HS.out⟩
          case measure => simp [intOf]
        | true =>
          have HS := (HXH.out.new (k := 2) rfl (by decide))
          have hgl := hX1.lt
          rw [World.setCell_alloc_past _ _ _ _ hgl] at HS
          have HS := Lib.hid HS
          have bx' := fun o => (hX1.below (bl1 wr o)).cell
          have fx' := fun o => (hX1.below (bl1 wr o)).frozen
          try simp only [Int.natCast_zero, Int.natCast_one, Int.cast_ofNat_Int, show ((2 : Nat) : Int) = 2 from rfl, show ((1 : Nat) : Int) = 1 from rfl, show ((0 : Nat) : Int) = 0 from rfl]
          go_wp2_with (refine wpList_val (v := .bool true) rfl ⟨_, _, _, rfl⟩ (by kernel_rfl) ?_)
          go_roundw
          case rel => exact ⟨3, by decide, rfl, HS.out⟩
          case measure => simp [intOf]
    · obtain rfl : k = 3 := by omega
      simp only [show ((3 : Nat) : Int) = 3 from rfl]
      have bx := hX1.cell
      have hwr : Below w.heap.size w wr := hb1.trans (hX3.mono hb1.size)
      have NQ := Lib.hid (nodes_q w.heap.size w (fun _ => (0, 9)) wr hwr.size (fun _ _ => rfl) (fun _ h => by simp at h) hwr (Nat.le_refl _) Ad ns ns (flk f (lt3 l0 l1 l2) 3) (fun i hi => by
        obtain ⟨a1, a2, a3⟩ := hX2 i hi
        have := flk_len f (lt3 l0 l1 l2) i
        exact ⟨a1, Nat.le_refl _, by unfold maxLen; omega, fun h => ⟨a2 h, a2 h⟩, a3, flk_wf _ _ _⟩))
      have BFr := Lib.hid (BF1.out.below hX3)
      have BLr := Lib.hid (BL1.out.below hX3)
      clear hX1 hX2 hX3 HXH BF1 BL1 hl1b hlt hk
      go_wp2_with fail
      refine NQ.out.mono ?_
      rintro e w2 ⟨A, c, q, A', c', r, s, t, Φ1, rfl, hc3, hcm, hc3', hcm', hq, hr, hs, -, N1, hb2, hΦ⟩
      have HC1 : CS f l0 l1 l2 w q r A A' t s w2 := ⟨Φ1, N1, ⟨BFr.out.below hb2, hΦ _ BFr.out.lt⟩, ⟨BLr.out.below hb2, hΦ _ BLr.out.lt⟩⟩
      clear N1 hb2 hΦ BFr BLr bx NQ
      obtain ⟨g, o, rfl⟩ := HC1.ad
      have HC := Lib.hid HC1
      clear HC1
      have hcI : (3 : Int) ≤ c := by omega
      have hi' : Int.tmod who 3 = i := by rw [Int.tmod_eq_emod_of_nonneg h0]; exact hi
      obtain ⟨E, hE⟩ : ∃ E, sendE (s (q i)) f = E := ⟨_, rfl⟩
      have HR : ∀ j w', CS f l0 l1 l2 w q r (some ⟨g, o, none⟩) A' t (if j = 0 then s else upd s (q i) (sendX (s (q i)) f)) w' → (∀ i, w'.cell? ⟨w.heap.size, i, none⟩ = f.cs.toArray[i]?) ∧ w'.cell? ⟨g, o + i, none⟩ = some (.pointer (some ⟨q i, 0, none⟩)) := fun j w' h => ⟨h.fc, h.nc hi3⟩
      go_wp2_with fail
      refine wp_region_s [5] ((fun j w' => CS f l0 l1 l2 w q r (some ⟨g, o, none⟩) A' t (if j = 0 then s else upd s (q i) (sendX (s (q i)) f)) w')) (by kernel_rfl) (by kernel_rfl) (HC.out.below (Below.refl _ _).drew) ?_
      first
        | (refine wpS_skip (by rfl) (by rfl) ?_; try simp only [Act.put, List.setIfInBounds_toArray, List.set_cons_zero, List.set_cons_succ, Nat.reduceAdd])
        | (refine wpS_val (v := ?_) HR (by rfl) (by rfl) ?_ ?_; rotate_left; · (intro w' hS; go_simp; first | done | with_reducible rfl)
           try simp only [Act.put, List.setIfInBounds_toArray, List.set_cons_zero, List.set_cons_succ, Nat.reduceAdd])
      first
        | (refine wpS_skip (by rfl) (by rfl) ?_; try simp only [Act.put, List.setIfInBounds_toArray, List.set_cons_zero, List.set_cons_succ, Nat.reduceAdd])
        | (refine wpS_val (v := ?_) HR (by rfl) (by rfl) ?_ ?_; rotate_left; · (intro w' hS; go_simp; first | done | with_reducible rfl)
           try simp only [Act.put, List.setIfInBounds_toArray, List.set_cons_zero, List.set_cons_succ, Nat.reduceAdd])
      first
        | (refine wpS_skip (by rfl) (by rfl) ?_; try simp only [Act.put, List.setIfInBounds_toArray, List.set_cons_zero, List.set_cons_succ, Nat.reduceAdd])
        | (refine wpS_val (v := ?_) HR (by rfl) (by rfl) ?_ ?_; rotate_left; · (intro w' hS; go_simp; first | done | with_reducible rfl)
           try simp only [Act.put, List.setIfInBounds_toArray, List.set_cons_zero, List.set_cons_succ, Nat.reduceAdd])
      first
        | (refine wpS_skip (by rfl) (by rfl) ?_; try simp only [Act.put, List.setIfInBounds_toArray, List.set_cons_zero, List.set_cons_succ, Nat.reduceAdd])
        | (refine wpS_val (v := ?_) HR (by rfl) (by rfl) ?_ ?_; rotate_left; · (intro w' hS; go_simp; first | done | with_reducible rfl)
           try simp only [Act.put, List.setIfInBounds_toArray, List.set_cons_zero, List.set_cons_succ, Nat.reduceAdd])
      first
        | (refine wpS_skip (by rfl) (by rfl) ?_; try simp only [Act.put, List.setIfInBounds_toArray, List.set_cons_zero, List.set_cons_succ, Nat.reduceAdd])
        | (refine wpS_val (v := ?_) HR (by rfl) (by rfl) ?_ ?_; rotate_left; · (intro w' hS; go_simp; first | done | with_reducible rfl)
           try simp only [Act.put, List.setIfInBounds_toArray, List.set_cons_zero, List.set_cons_succ, Nat.reduceAdd])
      first
        | (refine wpS_chain (v := ?_) (f := ?_) (args := ?_) 0 (by kernel_rfl) rfl (by intro p hp; first | omega | (obtain rfl : p = 0 := (by omega); exact ⟨_, rfl, by kernel_rfl⟩)) (of_decide_eq_true (by kernel_rfl)) (by rfl) HR ?_ ?_ ?_; rotate_left 3
           · (intro w' hS; go_simp; first | done | (refine ⟨?_, ?_⟩ <;> with_reducible rfl) | with_reducible rfl)
           · (intro w' hS; have hS' : CS f l0 l1 l2 w q r (some ⟨g, o, none⟩) A' t s w' := hS; refine ((hS'.send hi3 hf).mono ?_); rintro e w3 ⟨rfl, h3⟩; rw [hE]; refine ⟨?_, h3⟩; with_reducible rfl)
           try simp only [Act.put, List.setIfInBounds_toArray, List.set_cons_zero, List.set_cons_succ, Nat.reduceAdd])
      first
        | (refine wpS_skip (by rfl) (by rfl) ?_; try simp only [Act.put, List.setIfInBounds_toArray, List.set_cons_zero, List.set_cons_succ, Nat.reduceAdd])
        | (refine wpS_val (v := ?_) HR (by rfl) (by rfl) ?_ ?_; rotate_left; · (intro w' hS; go_simp; first | done | with_reducible rfl)
           try simp only [Act.put, List.setIfInBounds_toArray, List.set_cons_zero, List.set_cons_succ, Nat.reduceAdd])
      refine wpS_done (by kernel_rfl) (fun w8 hS => ?_)
      rcases (by rw [sendE_b0 f (hs i hi3)] at hE; cases hmm : f.may <;> simp [hmm] at hE <;> simp [hE.symm] : (f.may = false ∧ E = 1) ∨ (f.may = true ∧ E = 0)) with ⟨hm, rfl⟩ | ⟨hm, rfl⟩
      · have MY := Lib.hid (fun w => refmay_any f w hf)
        have h8 := hS.below (Below.refl _ _)
        have fc := hS.fc
        have fl := hS.lt
        have hb8 := hS.bel
        rw [hm] at MY
        clear HR hE hi hi'
        go_wp2_with fail
        refine (MY.out _).mono ?_
        rintro e w9 ⟨rfl, b9⟩
        go_wp2_with fail
        go_ret
        exact ⟨rfl, hb8.trans (b9.mono hb8.size)⟩
      · have hS : CS f l0 l1 l2 w q r (some ⟨g, o, none⟩) A' t (upd s (q i) (sendX (s (q i)) f)) w8 := hS
        have TN := hS.turn lost hc3 hcm
        rw [(turn_one hm hq hi3 hs lost).1, (turn_one hm hq hi3 hs lost).2] at TN
        have RX := Lib.hid (rx_got (lost := lost) hf hm hq hi3 hs)
        have TN := Lib.hid TN
        clear HR hE hi hi' hS HC hs
        have heq := fun w' => eq26_any f f w'
        rw [eqb_self] at heq
        have hii : ((i : Int) != (i : Int)) = false := by simp
        go_wp2_with fail
        refine TN.out.mono ?_
        rintro e w3 ⟨rfl, h3⟩
        have h3H := Lib.hid h3
        have fc3 := h3.fcI
        have lt3' := h3.lt
        have X3 : Blk (w3.alloc (.cells f.cs.toArray 26)) w3.heap.size 26 f.cs.toArray := Blk.new _ _ _
        have x3 := X3.cell
        clear TN h3
        go_upto_region 16 with fail
        refine wp_named fun W3 hW3 => ?_
        obtain ⟨BB, hb3⟩ := blk1 (c1 := f.cs.toArray) hW3
        have HW3 := Lib.hid (h3H.out.below hb3)
        clear hW3 BB hb3 h3H fc3 lt3' X3 x3
        go_wp2_with fail
        go_loopw [79] (fun iv wr => ∃ (k : Nat) (s' : Nat → Bx), k ≤ 3 ∧ iv = .int .i64 k ∧ CS f l0 l1 l2 w q r (some ⟨g, o, none⟩) A' t s' wr ∧ ∀ j, k ≤ j → j < 3 → (s' (q j)).rx = if got l0 l1 l2 lost i j then [f] else []) (fun iv _ => 3 - (intOf iv).toNat)
        case atStart => exact ⟨0, _, by decide, rfl, HW3.out, fun j _ hj => RX.out j hj⟩
        case round =>
          obtain ⟨k, s', hk, rfl, HCk, hR⟩ := hrel
          clear HW3 RX
          rcases (by omega : k = 0 ∨ k = 1 ∨ k = 2 ∨ k = 3) with rfl | rfl | rfl | rfl
          · -- 0
            have nc := HCk.nc (i := 0) (by decide)
            try rw [Nat.add_zero] at nc
            have RV := HCk.recv (i := 0) (by decide)
            have hRK := hR 0 (by omega) (by decide)
            have FIN : Hid (∀ x wx, CS f l0 l1 l2 w q r (some ⟨g, o, none⟩) A' t (upd s' (q 0) x) wx → ∃ k s', k ≤ 3 ∧ Value.int .i64 1 = .int .i64 (k : Nat) ∧ CS f l0 l1 l2 w q r (some ⟨g, o, none⟩) A' t s' wx ∧ ∀ j, k ≤ j → j < 3 → (s' (q j)).rx = if got l0 l1 l2 lost i j then [f] else []) := Lib.hid fun x wx hh => ⟨1, _, by decide, rfl, hh, fun j h1 h2 => by rw [upd_ne _ _ (fun e => by have := hq j 0 h2 (by decide) e; omega)]; exact hR j (by omega) h2⟩
            simp only [show (((0 : Nat) : Int)) = 0 from rfl, show (((1 : Nat) : Int)) = 1 from rfl, show (((2 : Nat) : Int)) = 2 from rfl]
            clear HCk hR
            by_cases hki : i = 0
            · have hne : ((0 : Int) != (i : Int)) = false := by subst hki; rfl
              have hg : got l0 l1 l2 lost i 0 = false := by unfold got; subst hki; simp
              rw [hg] at hRK
              simp only [Bool.false_eq_true, if_false] at hRK
              rw [hRK] at RV
              have RV := Lib.hid RV
              clear hRK hg hki
              go_wp2_with fail
              refine RV.out.mono ?_
              rintro e w4 ⟨rfl, h4⟩
              have h4H := Lib.hid h4
              have fc4 := h4.fcI
              have lc4 := h4.lcI
              have lt4 := h4.lt
              clear h4
              go_wp2_with fail
              go_roundw
              case rel => exact FIN.out _ _ (h4H.out.below (bl1 w4 _))
              case measure => simp [intOf]
            · have hne : ((0 : Int) != (i : Int)) = true := by simp; omega
              have hg : got l0 l1 l2 lost i 0 = (l0 && !lost) := by unfold got; rw [show ((0 : Nat) == i) = false from beq_eq_false_iff_ne.2 (fun e => hki e.symm)]; rfl
              rw [hg] at hRK
              clear hki hg
              cases l0 with
              | false =>
                simp only [Bool.false_and, Bool.false_eq_true, if_false] at hRK
                rw [hRK] at RV
                have RV := Lib.hid RV
                clear hRK
                go_wp2_with fail
                refine RV.out.mono ?_
                rintro e w4 ⟨rfl, h4⟩
                have h4H := Lib.hid h4
                have fc4 := h4.fcI
                have lc4 := h4.lcI
                have lt4 := h4.lt
                clear h4
                go_wp2_with fail
                go_roundw
                case rel => exact FIN.out _ _ (h4H.out.below (bl1 w4 _))
                case measure => simp [intOf]
              | true =>
                cases lost with
                | true =>
                  simp only [Bool.not_true, Bool.and_false, Bool.false_eq_true, if_false] at hRK
                  rw [hRK] at RV
                  have RV := Lib.hid RV
                  clear hRK
                  go_wp2_with fail
                  refine RV.out.mono ?_
                  rintro e w4 ⟨rfl, h4⟩
                  have h4H := Lib.hid h4
                  have fc4 := h4.fcI
                  have lc4 := h4.lcI
                  have lt4 := h4.lt
                  clear h4
                  go_wp2_with fail
                  go_roundw
                  case rel => exact FIN.out _ _ (h4H.out.below (bl1 w4 _))
                  case measure => simp [intOf]
                | false =>
                  simp only [Bool.not_false, Bool.and_true, if_true] at hRK
                  rw [hRK] at RV
                  have RV := Lib.hid RV
                  clear hRK
                  go_wp2_with fail
                  refine RV.out.mono ?_
                  rintro e w4 ⟨rfl, h4⟩
                  have h4H := Lib.hid h4
                  have fc4 := h4.fcI
                  have lc4 := h4.lcI
                  have lt4 := h4.lt
                  have X4 : Blk (w4.alloc (.cells f.cs.toArray 26)) w4.heap.size 26 f.cs.toArray := Blk.new _ _ _
                  have x4 := X4.cell
                  clear h4
                  go_wp2_with fail
                  go_roundw
                  case rel => exact FIN.out _ _ (h4H.out.below (bl1 w4 _))
                  case measure => simp [intOf]
          · -- 1
            have nc := HCk.nc (i := 1) (by decide)
            try rw [Nat.add_zero] at nc
            have RV := HCk.recv (i := 1) (by decide)
            have hRK := hR 1 (by omega) (by decide)
            have FIN : Hid (∀ x wx, CS f l0 l1 l2 w q r (some ⟨g, o, none⟩) A' t (upd s' (q 1) x) wx → ∃ k s', k ≤ 3 ∧ Value.int .i64 2 = .int .i64 (k : Nat) ∧ CS f l0 l1 l2 w q r (some ⟨g, o, none⟩) A' t s' wx ∧ ∀ j, k ≤ j → j < 3 → (s' (q j)).rx = if got l0 l1 l2 lost i j then [f] else []) := Lib.hid fun x wx hh => ⟨2, _, by decide, rfl, hh, fun j h1 h2 => by rw [upd_ne _ _ (fun e => by have := hq j 1 h2 (by decide) e; omega)]; exact hR j (by omega) h2⟩
            simp only [show (((0 : Nat) : Int)) = 0 from rfl, show (((1 : Nat) : Int)) = 1 from rfl, show (((2 : Nat) : Int)) = 2 from rfl]
            clear HCk hR
            by_cases hki : i = 1
            · have hne : ((1 : Int) != (i : Int)) = false := by subst hki; rfl
              have hg : got l0 l1 l2 lost i 1 = false := by unfold got; subst hki; simp
              rw [hg] at hRK
              simp only [Bool.false_eq_true, if_false] at hRK
              rw [hRK] at RV
              have RV := Lib.hid RV
              clear hRK hg hki
              go_wp2_with fail
              refine RV.out.mono ?_
              rintro e w4 ⟨rfl, h4⟩
              have h4H := Lib.hid h4
              have fc4 := h4.fcI
              have lc4 := h4.lcI
              have lt4 := h4.lt
              clear h4
              go_wp2_with fail
              go_roundw
              case rel => exact FIN.out _ _ (h4H.out.below (bl1 w4 _))
              case measure => simp [intOf]
            · have hne : ((1 : Int) != (i : Int)) = true := by simp; omega
              have hg : got l0 l1 l2 lost i 1 = (l1 && !lost) := by unfold got; rw [show ((1 : Nat) == i) = false from beq_eq_false_iff_ne.2 (fun e => hki e.symm)]; rfl
              rw [hg] at hRK
              clear hki hg
              cases l1 with
              | false =>
                simp only [Bool.false_and, Bool.false_eq_true, if_false] at hRK
                rw [hRK] at RV
                have RV := Lib.hid RV
                clear hRK
                go_wp2_with fail
                refine RV.out.mono ?_
                rintro e w4 ⟨rfl, h4⟩
                have h4H := Lib.hid h4
                have fc4 := h4.fcI
                have lc4 := h4.lcI
                have lt4 := h4.lt
                clear h4
                go_wp2_with fail
                go_roundw
                case rel => exact FIN.out _ _ (h4H.out.below (bl1 w4 _))
                case measure => simp [intOf]
              | true =>
                cases lost with
                | true =>
                  simp only [Bool.not_true, Bool.and_false, Bool.false_eq_true, if_false] at hRK
                  rw [hRK] at RV
                  have RV := Lib.hid RV
                  clear hRK
                  go_wp2_with fail
                  refine RV.out.mono ?_
                  rintro e w4 ⟨rfl, h4⟩
                  have h4H := Lib.hid h4
                  have fc4 := h4.fcI
                  have lc4 := h4.lcI
                  have lt4 := h4.lt
                  clear h4
                  go_wp2_with fail
                  go_roundw
                  case rel => exact FIN.out _ _ (h4H.out.below (bl1 w4 _))
                  case measure => simp [intOf]
                | false =>
                  simp only [Bool.not_false, Bool.and_true, if_true] at hRK
                  rw [hRK] at RV
                  have RV := Lib.hid RV
                  clear hRK
                  go_wp2_with fail
                  refine RV.out.mono ?_
                  rintro e w4 ⟨rfl, h4⟩
                  have h4H := Lib.hid h4
                  have fc4 := h4.fcI
                  have lc4 := h4.lcI
                  have lt4 := h4.lt
                  have X4 : Blk (w4.alloc (.cells f.cs.toArray 26)) w4.heap.size 26 f.cs.toArray := Blk.new _ _ _
                  have x4 := X4.cell
                  clear h4
                  go_wp2_with fail
                  go_roundw
                  case rel => exact FIN.out _ _ (h4H.out.below (bl1 w4 _))
                  case measure => simp [intOf]
          · -- 2
            have nc := HCk.nc (i := 2) (by decide)
            try rw [Nat.add_zero] at nc
            have RV := HCk.recv (i := 2) (by decide)
            have hRK := hR 2 (by omega) (by decide)
            have FIN : Hid (∀ x wx, CS f l0 l1 l2 w q r (some ⟨g, o, none⟩) A' t (upd s' (q 2) x) wx → ∃ k s', k ≤ 3 ∧ Value.int .i64 3 = .int .i64 (k : Nat) ∧ CS f l0 l1 l2 w q r (some ⟨g, o, none⟩) A' t s' wx ∧ ∀ j, k ≤ j → j < 3 → (s' (q j)).rx = if got l0 l1 l2 lost i j then [f] else []) := Lib.hid fun x wx hh => ⟨3, _, by decide, rfl, hh, fun j h1 h2 => by rw [upd_ne _ _ (fun e => by have := hq j 2 h2 (by decide) e; omega)]; exact hR j (by omega) h2⟩
            simp only [show (((0 : Nat) : Int)) = 0 from rfl, show (((1 : Nat) : Int)) = 1 from rfl, show (((2 : Nat) : Int)) = 2 from rfl]
            clear HCk hR
            by_cases hki : i = 2
            · have hne : ((2 : Int) != (i : Int)) = false := by subst hki; rfl
              have hg : got l0 l1 l2 lost i 2 = false := by unfold got; subst hki; simp
              rw [hg] at hRK
              simp only [Bool.false_eq_true, if_false] at hRK
              rw [hRK] at RV
              have RV := Lib.hid RV
              clear hRK hg hki
              go_wp2_with fail
              refine RV.out.mono ?_
              rintro e w4 ⟨rfl, h4⟩
              have h4H := Lib.hid h4
              have fc4 := h4.fcI
              have lc4 := h4.lcI
              have lt4 := h4.lt
              clear h4
              go_wp2_with fail
              go_roundw
              case rel => exact FIN.out _ _ (h4H.out.below (bl1 w4 _))
              case measure => simp [intOf]
            · have hne : ((2 : Int) != (i : Int)) = true := by simp; omega
              have hg : got l0 l1 l2 lost i 2 = (l2 && !lost) := by unfold got; rw [show ((2 : Nat) == i) = false from beq_eq_false_iff_ne.2 (fun e => hki e.symm)]; rfl
              rw [hg] at hRK
              clear hki hg
              cases l2 with
              | false =>
                simp only [Bool.false_and, Bool.false_eq_true, if_false] at hRK
                rw [hRK] at RV
                have RV := Lib.hid RV
                clear hRK
                go_wp2_with fail
                refine RV.out.mono ?_
                rintro e w4 ⟨rfl, h4⟩
                have h4H := Lib.hid h4
                have fc4 := h4.fcI
                have lc4 := h4.lcI
                have lt4 := h4.lt
                clear h4
                go_wp2_with fail
                go_roundw
                case rel => exact FIN.out _ _ (h4H.out.below (bl1 w4 _))
                case measure => simp [intOf]
              | true =>
                cases lost with
                | true =>
                  simp only [Bool.not_true, Bool.and_false, Bool.false_eq_true, if_false] at hRK
                  rw [hRK] at RV
                  have RV := Lib.hid RV
                  clear hRK
                  go_wp2_with fail
                  refine RV.out.mono ?_
                  rintro e w4 ⟨rfl, h4⟩
                  have h4H := Lib.hid h4
                  have fc4 := h4.fcI
                  have lc4 := h4.lcI
                  have lt4 := h4.lt
                  clear h4
                  go_wp2_with fail
                  go_roundw
                  case rel => exact FIN.out _ _ (h4H.out.below (bl1 w4 _))
                  case measure => simp [intOf]
                | false =>
                  simp only [Bool.not_false, Bool.and_true, if_true] at hRK
                  rw [hRK] at RV
                  have RV := Lib.hid RV
                  clear hRK
                  go_wp2_with fail
                  refine RV.out.mono ?_
                  rintro e w4 ⟨rfl, h4⟩
                  have h4H := Lib.hid h4
                  have fc4 := h4.fcI
                  have lc4 := h4.lcI
                  have lt4 := h4.lt
                  have X4 : Blk (w4.alloc (.cells f.cs.toArray 26)) w4.heap.size 26 f.cs.toArray := Blk.new _ _ _
                  have x4 := X4.cell
                  clear h4
                  go_wp2_with fail
                  go_roundw
                  case rel => exact FIN.out _ _ (h4H.out.below (bl1 w4 _))
                  case measure => simp [intOf]
          · have hb := HCk.bel
            simp only [show (((3 : Nat) : Int)) = 3 from rfl]
            clear HCk hR
            go_wp2_with fail
            go_ret
            exact ⟨rfl, hb⟩
end Go.Proofs.Ytbmkfjgodgmjnaa
