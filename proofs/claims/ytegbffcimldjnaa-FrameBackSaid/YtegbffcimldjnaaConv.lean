/- Bytes as a string. -/
import Derived.Test.YtegbffcimldjnaaNam
namespace Go.Proofs.Ytegbffcimldjnaa
open Go.RowKit
set_option linter.unusedVariables false
set_option linter.unusedSimpArgs false

def bstr (xs : List Int) : ByteArray := ⟨(xs.map fun n => UInt8.ofNat n.toNat).toArray⟩
theorem bstr_fold : ∀ (xs : List Int) (s : ByteArray), xs.foldl (fun r n => r.push (UInt8.ofNat n.toNat)) s = ⟨s.data ++ (xs.map fun n => UInt8.ofNat n.toNat).toArray⟩
  | [], s => by simp
  | x :: xs, s => by
    rw [List.foldl_cons, bstr_fold xs]
    congr 1
    apply Array.toList_inj.1
    simp [ByteArray.push]
theorem run_conv {P : Program} {src dst e : TypeId} (hs : P.underlying src = some (.slice e)) (he : P.underlying e = some (.int .u8)) (hd : P.underlying dst = some .string)
    (A : Option Addr) (xs : List Int) (n c B : Nat) (w : World) (h : Rd w B A (u8s xs)) (hn : n = xs.length) : (convert src dst (.slice A n c)).run P w = .ok (.string (bstr xs)) w := by
  subst hn
  rw [run_convert_bytes_string w src dst e A _ c hs he hd]
  by_cases h0 : xs = []
  · subst h0
    cases A with
    | none => simp [Conv.bytesToString, bstr]; rfl
    | some a =>
      have := run_bytesToString (P := P) w a 0 c [] (by simp [loadCells, loadCellsFrom])
      exact this
  · obtain ⟨b, o, rfl, _, hc⟩ := h (by simpa using h0)
    have hadd : ∀ j, (⟨b, o, none⟩ : Addr).add j = ⟨b, o + j, none⟩ := fun j => by unfold Addr.add; split <;> simp_all
    have hl := run_loadCells_list (P := P) w ⟨b, o, none⟩ (u8s xs) (fun j v hv => by rw [hadd]; exact hc j v hv)
    rw [List.length_map] at hl
    rw [run_bytesToString (P := P) w ⟨b, o, none⟩ xs.length c xs hl, bstr_fold]
    simp [bstr]
theorem bstr_toList (xs : List Int) : (bstr xs).toList = xs.map fun n => UInt8.ofNat n.toNat := by
  rw [ByteArray.toList_eq]; simp [bstr]
theorem byte_inj {x y : Int} (hx : 0 ≤ x ∧ x < 256) (hy : 0 ≤ y ∧ y < 256) (h : UInt8.ofNat x.toNat = UInt8.ofNat y.toNat) : x = y := by
  have := congrArg UInt8.toNat h
  simp only [UInt8.toNat_ofNat'] at this
  omega
theorem bytes_inj : ∀ (xs ys : List Int), (∀ x ∈ xs, 0 ≤ x ∧ x < 256) → (∀ x ∈ ys, 0 ≤ x ∧ x < 256) → (xs.map fun n => UInt8.ofNat n.toNat) = (ys.map fun n => UInt8.ofNat n.toNat) → xs = ys
  | [], [], _, _, _ => rfl
  | [], y :: ys, _, _, h => by simp at h
  | x :: xs, [], _, _, h => by simp at h
  | x :: xs, y :: ys, hx, hy, h => by
    simp only [List.map_cons, List.cons.injEq] at h
    rw [byte_inj (hx x (by simp)) (hy y (by simp)) h.1, bytes_inj xs ys (fun z hz => hx z (by simp [hz])) (fun z hz => hy z (by simp [hz])) h.2]
theorem bstr_beq (xs ys : List Int) (hx : ∀ x ∈ xs, 0 ≤ x ∧ x < 256) (hy : ∀ x ∈ ys, 0 ≤ x ∧ x < 256) : ((bstr xs).toList == (bstr ys).toList) = decide (xs = ys) := by
  rw [bstr_toList, bstr_toList, Bool.eq_iff_iff]
  simp only [beq_iff_eq, decide_eq_true_eq]
  exact ⟨bytes_inj xs ys hx hy, fun h => by rw [h]⟩
/-- Bytes of the call's own, as a string, in every world that has come by growth. -/
theorem Own.conv {P : Program} {src dst e : TypeId} (hs : P.underlying src = some (.slice e)) (he : P.underlying e = some (.int .u8)) (hd : P.underlying dst = some .string)
    {w : World} {base : Nat} {e' : TypeId} {A : Option Addr} {n n' c : Nat} {xs : List Int} (h : Own w base e' 1 A n' c (u8s xs)) (hn : n = xs.length) :
    ∀ w', Below w.heap.size w w' → (convert src dst (.slice A n c)).run P w' = .ok (.string (bstr xs)) w' := fun w' hb => run_conv hs he hd A xs n c _ w' (h.below hb).rd hn
theorem Rd.conv {P : Program} {src dst e : TypeId} (hs : P.underlying src = some (.slice e)) (he : P.underlying e = some (.int .u8)) (hd : P.underlying dst = some .string)
    {w : World} {B : Nat} {A : Option Addr} {n c : Nat} {xs : List Int} (h : Rd w B A (u8s xs)) (hB : B ≤ w.heap.size) (hn : n = xs.length) :
    ∀ w', Below w.heap.size w w' → (convert src dst (.slice A n c)).run P w' = .ok (.string (bstr xs)) w' := fun w' hb => run_conv hs he hd A xs n c _ w' (h.below (hb.mono hB)) hn
end Go.Proofs.Ytegbffcimldjnaa
