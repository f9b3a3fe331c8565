/- The slave's commands that the tops use. -/
import Derived.Test.YteecgdbicokgoaaS7
import Derived.Test.YteecgdbicokgoaaP0
namespace Go.Proofs.Yteecgdbicokgoaa
open Go.RowKit
set_option linter.unusedVariables false
set_option linter.unusedSimpArgs false
set_option maxRecDepth 100000
theorem put_cm {k a0 a1 v : Int} {bA : Option Addr} {bn bc : Nat} (h : (k = 1 ∧ a1 = 0 ∧ v = 0 ∧ bn = 0) ∨ (k = 5 ∧ a1 = 0 ∧ bn = 0) ∨ (k = 12 ∧ v = 0 ∧ bn = 0) ∨ (k = 7 ∧ bn = 0) ∨ ((k = 13 ∨ k = 8) ∧ a1 = 0 ∧ v = 0 ∧ (bn : Int) = if 6 ≤ a0 then 6 else a0)) : putE ⟨k, a0, a1, 0, 0, 0, v, bA, bn, bc⟩ = 0 := by
  rcases h with ⟨rfl, rfl, rfl, rfl⟩ | ⟨rfl, rfl, rfl⟩ | ⟨rfl, rfl, rfl⟩ | ⟨rfl, rfl⟩ | ⟨rfl | rfl, rfl, rfl, h⟩ <;> simp [putE, fitsC, shp, zerosA, cutA, needN]
  · omega
  · omega
theorem wfC {k a0 a1 v : Int} {bA : Option Addr} {bn bc : Nat} (hk : 0 ≤ k ∧ k < 256) (h0 : 0 ≤ a0 ∧ a0 < 256) (h1 : 0 ≤ a1 ∧ a1 < 256) (hv : 0 ≤ v ∧ v < 4294967296) (hb : bn ≤ bc) (hc : bc ≤ maxLen) : (⟨k, a0, a1, 0, 0, 0, v, bA, bn, bc⟩ : Cm).wf :=
  have z : (0 : Int) ≤ 0 ∧ (0 : Int) < 256 := by decide
  ⟨hk.1, hk.2, h0, h1, z, z, z, hv.1, hv.2, hb, hc⟩
section
variable {w : World} {L T N s m l : Nat} {x : St}
theorem do_connect (h : TA w L T N s m l x) (v : Value) : Calls Try.prog 32 #[.pointer (some ⟨s, 0, none⟩), (cm 1 0 0 0 0 0 0).val, v] w (DoP w L T s m l { x with on := true, area := 0, pt := 0, block := 0, a := ⟨x.a.all, x.a.all, none⟩ } [13, 8, 8]) :=
  do_ans h (cm 1 0 0 0 0 0 0) ⟨by decide, by decide, by decide, by decide, by decide, by decide, by decide, by decide, by decide, Nat.le_refl _, Nat.zero_le _⟩ (bb := []) rfl (Nat.zero_le _) Rd.nil (put_cm (.inl ⟨rfl, rfl, rfl, rfl⟩)) (by decide) (by decide) (.inr rfl) v
    fun w1 N1 h1 hc => does_ans _ (.inl rfl) v (ses_connect (h1.below (bl1 _ _)) _ rfl v)
theorem do_mta (h : TA w L T N s m l x) (hon : x.on = true) {area pt : Int} (ha : 0 ≤ area ∧ area < 256) (hp : 0 ≤ pt ∧ pt < 4294967296) (v : Value) : Calls Try.prog 32 #[.pointer (some ⟨s, 0, none⟩), (cm 5 area 0 0 0 0 pt).val, v] w (DoP w L T s m l { x with area := area, pt := pt, block := 0 } []) :=
  have hw : (cm 5 area 0 0 0 0 pt).wf := wfC (by decide) ha (by decide) hp (Nat.le_refl _) (Nat.zero_le _)
  do_ans h (cm 5 area 0 0 0 0 pt) hw (bb := []) rfl (Nat.zero_le _) Rd.nil (put_cm (.inr (.inl ⟨rfl, rfl, rfl⟩))) (by show (5 : Int) < 18; decide) (by show (5 : Int) ≠ 9; decide) (.inl hon) v
    fun w1 N1 h1 hc => does_ans _ (.inr (.inl rfl)) v (ses_mta (h1.below (bl1 _ _)) _ hw rfl v)
theorem do_seed (h : TA w L T N s m l x) (hon : x.on = true) {mode res : Int} (hm : 0 ≤ mode ∧ mode < 256) (hr0 : 0 ≤ res ∧ res < 256) {A : Option Addr} {n cap : Nat} {xs : List Int} (hx : xs.length = n) (hb : ∀ w1, ChS L T w w1 → By T 5 w1 A (u8s xs)) (hu : by8 xs) {a' : LX} {k : Int} {bs : List Int} (hr : seedX x.a mode res xs = (a', k, bs, 0)) (hk : 0 ≤ k ∧ k < 256) (hbl : bs.length ≤ 6) :
    Calls Try.prog 32 #[.pointer (some ⟨s, 0, none⟩), (cm 12 mode res 0 0 0 0).val, .slice A n cap] w (DoP w L T s m l { x with block := 0, a := a' } (k :: bs)) :=
  have hw : (cm 12 mode res 0 0 0 0).wf := wfC (by decide) hm hr0 (by decide) (Nat.le_refl _) (Nat.zero_le _)
  do_ans h (cm 12 mode res 0 0 0 0) hw (bb := []) rfl (Nat.zero_le _) Rd.nil (put_cm (.inr (.inr (.inl ⟨rfl, rfl, rfl⟩)))) (by show (12 : Int) < 18; decide) (by show (12 : Int) ≠ 9; decide) (.inl hon) _
    fun w1 N1 h1 hc => does_ans _ (.inr (.inr (.inl rfl))) _ (ses_seed (h1.below (bl1 _ _)) _ hw rfl hx ((hb w1 hc).below (bl1 _ _)) hu hr hk hbl)
/-- A command with bytes that stand through what a slave writes. -/
theorem do_unlock (h : TA w L T N s m l x) (hon : x.on = true) {a0 : Int} (ha : 0 ≤ a0 ∧ a0 < 256) {bA : Option Addr} {bn bc : Nat} (hbc : bn ≤ bc) (hbm : bc ≤ maxLen) (hbn : (bn : Int) = if 6 ≤ a0 then 6 else a0) {xs : List Int} (hx : xs.length = bn) (hb : ∀ w1, ChS L T w w1 → Rd w1 w1.heap.size bA (u8s xs)) (hu : by8 xs) {a' : LX} (hr : unlockX x.a a0 xs = (a', 0)) (v : Value) :
    Calls Try.prog 32 #[.pointer (some ⟨s, 0, none⟩), (⟨13, a0, 0, 0, 0, 0, 0, bA, bn, bc⟩ : Cm).val, v] w (DoP w L T s m l { x with block := 0, a := a' } [a'.shut]) :=
  have hw : (⟨13, a0, 0, 0, 0, 0, 0, bA, bn, bc⟩ : Cm).wf := wfC (by decide) ha (by decide) (by decide) hbc hbm
  do_ans h _ hw (bb := xs) hx (by show bn ≤ 1000; split at hbn <;> omega) (hb w (ChR.refl _ _ _ _ _)) (put_cm (.inr (.inr (.inr (.inr ⟨.inl rfl, rfl, rfl, hbn⟩))))) (by show (13 : Int) < 18; decide) (by show (13 : Int) ≠ 9; decide) (.inl hon) v
    fun w1 N1 h1 hc => does_ans _ (.inr (.inr (.inr rfl))) v (ses_unlock (h1.below (bl1 _ _)) _ hw rfl v hx ((hb w1 hc).bel (bl1 _ _)) hu hr)
theorem do_unlock_no (h : TA w L T N s m l x) (hon : x.on = true) {a0 : Int} (ha : 0 ≤ a0 ∧ a0 < 256) {bA : Option Addr} {bn bc : Nat} (hbc : bn ≤ bc) (hbm : bc ≤ maxLen) (hbn : (bn : Int) = if 6 ≤ a0 then 6 else a0) {xs : List Int} (hx : xs.length = bn) (hb : ∀ w1, ChS L T w w1 → Rd w1 w1.heap.size bA (u8s xs)) (hu : by8 xs) {a' : LX} {f : Int} (hf : 0 < f ∧ f ≤ 255) (hr : unlockX x.a a0 xs = (a', f)) (v : Value) :
    Calls Try.prog 32 #[.pointer (some ⟨s, 0, none⟩), (⟨13, a0, 0, 0, 0, 0, 0, bA, bn, bc⟩ : Cm).val, v] w (DoN w L T s m l { x with block := 0, a := a' } f) :=
  have hw : (⟨13, a0, 0, 0, 0, 0, 0, bA, bn, bc⟩ : Cm).wf := wfC (by decide) ha (by decide) (by decide) hbc hbm
  do_flt h _ hw (bb := xs) hx (by show bn ≤ 1000; split at hbn <;> omega) (hb w (ChR.refl _ _ _ _ _)) (put_cm (.inr (.inr (.inr (.inr ⟨.inl rfl, rfl, rfl, hbn⟩))))) (by show (13 : Int) < 18; decide) (by show (13 : Int) ≠ 9; decide) (.inl hon) v (f := f) (by omega)
    fun w1 N1 h1 hc => does_flt (⟨13, a0, 0, 0, 0, 0, 0, bA, bn, bc⟩ : Cm) (.inr (.inr (.inr rfl))) v (ses_unlock_no (h1.below (bl1 _ _)) _ hw rfl v hx ((hb w1 hc).bel (bl1 _ _)) hu (f := f) (Int.ne_of_gt hf.1) hr)
/-- Download: done, refused by the memory, refused by the lock. -/
theorem do_down (h : TA w L T N s m l x) (hon : x.on = true) {a0 : Int} (ha : 1 ≤ a0 ∧ a0 ≤ 6) {bA : Option Addr} {bn bc : Nat} (hbc : bn ≤ bc) (hbm : bc ≤ maxLen) (hbn : (bn : Int) = a0) {xs : List Int} (hx : xs.length = bn) (hA : bA = none → bn = 0 ∧ bc = 0) (hb : ∀ w1, ChS L T w w1 → Rd w1 w1.heap.size bA (u8s xs)) (hz : bits .and .u8 x.a.shut 1 = 0) {M' : Mx} (hr : writeX x.M 2 x.area x.pt.toNat xs = (M', 0)) (v : Value) :
    Calls Try.prog 32 #[.pointer (some ⟨s, 0, none⟩), (⟨8, a0, 0, 0, 0, 0, 0, bA, bn, bc⟩ : Cm).val, v] w (DoP w L T s m l { x with block := 0, M := M', pt := (x.pt + bn) % 4294967296 } []) :=
  have hw : (⟨8, a0, 0, 0, 0, 0, 0, bA, bn, bc⟩ : Cm).wf := wfC (by decide) (by omega) (by decide) (by decide) hbc hbm
  do_ans h _ hw (bb := xs) hx (by show bn ≤ 1000; omega) (hb w (ChR.refl _ _ _ _ _)) (put_cm (.inr (.inr (.inr (.inr ⟨.inr rfl, rfl, rfl, by split <;> omega⟩))))) (by show (8 : Int) < 18; decide) (by show (8 : Int) ≠ 9; decide) (.inl hon) v
    fun w1 N1 h1 hc => does_down (x := { x with block := 0, M := M', pt := (x.pt + bn) % 4294967296 }) (⟨8, a0, 0, 0, 0, 0, 0, bA, bn, bc⟩ : Cm) rfl ha v (sl_write_ok (x := { x with block := 0 }) (n := bn) (c := bc) (h1.below (bl1 _ _)) hx (by show bn ≤ 1000000; omega) ((hb w1 hc).bel (bl1 _ _)) hA hz (f := 0) rfl hr)
theorem do_down_no (h : TA w L T N s m l x) (hon : x.on = true) {a0 : Int} (ha : 1 ≤ a0 ∧ a0 ≤ 6) {bA : Option Addr} {bn bc : Nat} (hbc : bn ≤ bc) (hbm : bc ≤ maxLen) (hbn : (bn : Int) = a0) {xs : List Int} (hx : xs.length = bn) (hA : bA = none → bn = 0 ∧ bc = 0) (hb : ∀ w1, ChS L T w w1 → Rd w1 w1.heap.size bA (u8s xs)) (hz : bits .and .u8 x.a.shut 1 = 0) {M' : Mx} {f : Int} (hf : 0 < f ∧ f ≤ 255) (hr : writeX x.M 2 x.area x.pt.toNat xs = (M', f)) (v : Value) :
    Calls Try.prog 32 #[.pointer (some ⟨s, 0, none⟩), (⟨8, a0, 0, 0, 0, 0, 0, bA, bn, bc⟩ : Cm).val, v] w (DoN w L T s m l { x with block := 0, M := M' } f) :=
  have hw : (⟨8, a0, 0, 0, 0, 0, 0, bA, bn, bc⟩ : Cm).wf := wfC (by decide) (by omega) (by decide) (by decide) hbc hbm
  do_flt h _ hw (bb := xs) hx (by show bn ≤ 1000; omega) (hb w (ChR.refl _ _ _ _ _)) (put_cm (.inr (.inr (.inr (.inr ⟨.inr rfl, rfl, rfl, by split <;> omega⟩))))) (by show (8 : Int) < 18; decide) (by show (8 : Int) ≠ 9; decide) (.inl hon) v (f := f) (by omega)
    fun w1 N1 h1 hc => does_down_flt _ rfl ha v (sl_write_bad (h1.below (bl1 _ _)) hx (by show bn ≤ 1000000; omega) ((hb w1 hc).bel (bl1 _ _)) hA hz (f := f) (Int.ne_of_gt hf.1) hr)
theorem do_down_lk (h : TA w L T N s m l x) (hon : x.on = true) {a0 : Int} (ha : 1 ≤ a0 ∧ a0 ≤ 6) {bA : Option Addr} {bn bc : Nat} (hbc : bn ≤ bc) (hbm : bc ≤ maxLen) (hbn : (bn : Int) = a0) {xs : List Int} (hx : xs.length = bn) (hA : bA = none → bn = 0 ∧ bc = 0) (hb : ∀ w1, ChS L T w w1 → Rd w1 w1.heap.size bA (u8s xs)) (hz : bits .and .u8 x.a.shut 1 = 1) (v : Value) :
    Calls Try.prog 32 #[.pointer (some ⟨s, 0, none⟩), (⟨8, a0, 0, 0, 0, 0, 0, bA, bn, bc⟩ : Cm).val, v] w (DoN w L T s m l { x with block := 0 } 92) :=
  have hw : (⟨8, a0, 0, 0, 0, 0, 0, bA, bn, bc⟩ : Cm).wf := wfC (by decide) (by omega) (by decide) (by decide) hbc hbm
  do_flt h _ hw (bb := xs) hx (by show bn ≤ 1000; omega) (hb w (ChR.refl _ _ _ _ _)) (put_cm (.inr (.inr (.inr (.inr ⟨.inr rfl, rfl, rfl, by split <;> omega⟩))))) (by show (8 : Int) < 18; decide) (by show (8 : Int) ≠ 9; decide) (.inl hon) v (f := 92) (by decide)
    fun w1 N1 h1 hc => does_down_flt _ rfl ha v (sl_write_lk (h1.below (bl1 _ _)) hx (by show bn ≤ 1000000; omega) ((hb w1 hc).bel (bl1 _ _)) hA hz)
end
end Go.Proofs.Yteecgdbicokgoaa
