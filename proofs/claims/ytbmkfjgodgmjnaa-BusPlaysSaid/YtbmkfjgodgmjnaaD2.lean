/- The bus: Turn. -/
import Derived.Test.YtbmkfjgodgmjnaaD1
namespace Go.Proofs.Ytbmkfjgodgmjnaa
open Go.RowKit
set_option linter.unusedVariables false
set_option linter.unusedSimpArgs false
theorem SD.no7 (D : Nat → Prop) : ¬ SD D (0, 7) := fun h => by have := h.2; simp at this
theorem RdC.takeN {Φ : Who} {B : Nat} {w : World} {A : Option Addr} {vs : List Value} (h : RdC Φ B w A vs) (k : Nat) : RdC Φ B w A (vs.take k) := fun hn => by
  obtain ⟨b, o, e, h1, h2, h3⟩ := h (fun e => hn (by rw [e]; simp))
  exact ⟨b, o, e, h1, h2, fun i u hu => h3 i u (by
    rw [List.getElem?_take] at hu
    split at hu
    · exact hu
    · cases hu)⟩
/-- The cells from k on, as the model makes the slice. -/
theorem RdC.dropN {Φ : Who} {B : Nat} {w : World} {g o c : Nat} {vs : List Value} (h : RdC Φ B w (some ⟨g, o, none⟩) vs) (k : Nat) (hc : vs.length ≤ c) : RdC Φ B w (if c = k then some ⟨g, o, none⟩ else some ⟨g, o + k, none⟩) (vs.drop k) := fun hn => by
  obtain ⟨b, o', e, h1, h2, h3⟩ := h (fun e => hn (by rw [e]; simp))
  simp only [Option.some.injEq, Addr.mk.injEq, and_true] at e
  obtain ⟨rfl, rfl⟩ := e
  have hck : c ≠ k := fun e => hn (List.drop_eq_nil_of_le (by omega))
  rw [if_neg hck]
  exact ⟨g, o + k, rfl, h1, h2, fun i u hu => by rw [List.getElem?_drop] at hu; rw [Nat.add_assoc]; exact h3 _ u hu⟩
theorem ptrs_take (L : List (Option Nat)) (k : Nat) : ptrs (L.take k) = (ptrs L).take k := by simp [ptrs]
theorem ptrs_drop (L : List (Option Nat)) (k : Nat) : ptrs (L.drop k) = (ptrs L).drop k := by simp [ptrs]
theorem fstK_some (L : List (Option Nat)) (s : Nat → Bx) : ∀ k, (fstK L s k).2.2 = true → ∃ q, L[(fstK L s k).1]? = some (some q) ∧ (fstK L s k).2.1 = (s q).tx.headD Fr.none_ ∧ (s q).tx ≠ []
  | 0, h => by simp [fstK] at h
  | k + 1, h => by
    unfold fstK at h ⊢
    split at h
    · exact fstK_some L s k h
    · next x hx =>
      split
      · next hc =>
        rw [Bool.and_eq_true] at hc
        cases x with
        | none => exact absurd hc.1 (by simp [hd])
        | some q => exact ⟨q, hx, rfl, fun e => by have := hc.1; simp [hd, e] at this⟩
      · next hc =>
        rw [if_neg hc] at h
        exact fstK_some L s k h
/-- Turn's state: the boxes, its own two blocks, the row of nodes. -/
def TS (B : Nat) (D : Nat → Prop) (w0 : World) (Φ0 : Who) (g0 g : Nat) (c0 f : Fr) (A : Option Addr) (L : List (Option Nat)) (s : Nat → Bx) (w : World) : Prop :=
  ∃ Φ, Bxs Φ B w D s ∧ Ext B (SD D) Φ0 Φ w0 w ∧ BlC Φ (0, 7) w g0 26 c0.cs.toArray ∧ BlC Φ (0, 9) w g 26 f.cs.toArray ∧ RdC Φ B w A (ptrs L)
section
variable {B : Nat} {D : Nat → Prop} {w0 w w' : World} {Φ0 : Who} {g0 g : Nat} {c0 f : Fr} {A : Option Addr} {L : List (Option Nat)} {s : Nat → Bx}
theorem TS.below (h : TS B D w0 Φ0 g0 g c0 f A L s w) (hb : Below w.heap.size w w') : TS B D w0 Φ0 g0 g c0 f A L s w' := by
  obtain ⟨Φ, h1, h2, h3, h4, h5⟩ := h
  exact ⟨Φ, h1.below hb, h2.grow hb, h3.below hb, h4.below hb, h5.below hb⟩
theorem TS.cell (h : TS B D w0 Φ0 g0 g c0 f A L s w) : ∀ i, w.cell? ⟨g, i, none⟩ = f.cs.toArray[i]? := by
  obtain ⟨Φ, h1, h2, h3, h4, h5⟩ := h
  exact h4.1.cell
theorem ts_put (h : TS B D w0 Φ0 g0 g c0 f A L s w) (hB : B ≤ w0.heap.size) (hf : f.wf) {A2 : Option Addr} {L2 : List (Option Nat)} {n2 c2 : Nat} (hD : ∀ q, some q ∈ L2 → D q) (hr : ∀ Φ, RdC Φ B w A (ptrs L) → RdC Φ B w A2 (ptrs L2)) (hn : L2.length = n2) (hnc : n2 ≤ c2) (hc : c2 ≤ maxLen) :
    Calls Try.prog 39 #[f.val, .slice A2 n2 c2] w fun e w' => e = .returned (.int .i64 (putK L2 s f n2).2) ∧ TS B D w0 Φ0 g0 g c0 f A L (putK L2 s f n2).1 w' := by
  obtain ⟨Φ, h1, h2, h3, h4, h5⟩ := h
  refine (put_any h1 hD h2.nu (Nat.le_trans hB h2.size) (hr Φ h5) hn hnc hc f hf).mono ?_
  rintro e w' ⟨rfl, Φ', g1, g2⟩
  exact ⟨rfl, Φ', g1, h2.trans g2, h3.ext g2 (SD.no7 D), h4.ext g2 (SD.no9 D), h5.ext g2 (SD.no9 D)⟩
end
/-- Turn's state ahead of First. -/
def TS0 (B : Nat) (D : Nat → Prop) (w0 : World) (Φ0 : Who) (g0 : Nat) (A : Option Addr) (L : List (Option Nat)) (s : Nat → Bx) (w : World) : Prop :=
  ∃ Φ, Bxs Φ B w D s ∧ Ext B (SD D) Φ0 Φ w0 w ∧ BlC Φ (0, 7) w g0 26 Fr.none_.cs.toArray ∧ RdC Φ B w A (ptrs L)
theorem TS0.ts {B : Nat} {D : Nat → Prop} {w0 w w2 : World} {Φ0 : Who} {g0 : Nat} {f : Fr} {A : Option Addr} {L : List (Option Nat)} {s : Nat → Bx} (h : TS0 B D w0 Φ0 g0 A L s w) (hb : Below w.heap.size w w2) : TS B D w0 Φ0 g0 w2.heap.size Fr.none_ f A L s (w2.alloc (.cells f.cs.toArray 26)) := by
  obtain ⟨Φ, h1, h2, h3, h4⟩ := h
  have hb2 := hb.trans ((bl1 w2 (.cells f.cs.toArray 26)).mono hb.size)
  exact ⟨Φ, h1.below hb2, h2.grow hb2, h3.below hb2, ⟨Blk.new _ _ _, h2.nu _ hb.size⟩, h4.below hb2⟩
/-- What a Turn leaves. -/
def TurnP (Φ : Who) (B : Nat) (D : Nat → Prop) (w : World) (s' : Nat → Bx) (at_ : Nat) (f : Fr) (ok : Bool) (e : Ending) (w' : World) : Prop := e = .returned (.tuple #[.int .i64 at_, f.val, .bool ok]) ∧ ∃ Φ', Bxs Φ' B w' D s' ∧ Ext B (SD D) Φ Φ' w w'
theorem turn_no {Φ : Who} {B : Nat} {w : World} {D : Nat → Prop} {s : Nat → Bx} {L : List (Option Nat)} {A : Option Addr} {n c : Nat} (lost : Bool) (h : Bxs Φ B w D s) (hD : ∀ q, some q ∈ L → D q) (hr : Rd w w.heap.size A (ptrs L)) (hn : L.length = n) (hnc : n ≤ c) (hc : c ≤ maxLen) (hno : (fstK L s n).2.2 = false) :
    Calls Try.prog 37 #[.bool lost, .slice A n c] w fun e w' => e = .returned (.tuple #[.int .i64 0, Fr.none_.val, .bool false]) ∧ Below w.heap.size w w' := by
  have F := Lib.hid (fun W (hb : Below w.heap.size w W) => first_any (h.below hb) hD ((hr.below hb).more hb.size) hn hnc hc)
  rw [hno] at F
  clear h hr hn hno
  go_enter Try.func37, Try.ntmps37
  go_upto_region 1 with fail
  refine wp_named fun W hW => ?_
  obtain ⟨B1, hbW⟩ := blk1 (c1 := Fr.none_.cs.toArray) hW
  have F1 := Lib.hid (F.out W hbW)
  clear hW F
  go_wp2_with fail
  refine F1.out.mono ?_
  rintro e w2 ⟨rfl, b2⟩
  have b2a := b2.trans ((bl1 w2 (.cells (fstK L s n).2.1.cs.toArray 26)).mono b2.size)
  have BW := B1.below b2a
  have hb2 := hbW.trans (b2a.mono hbW.size)
  go_wp2_with (first | (refine wpList_build rfl 26 _ rfl (by kernel_rfl) ?_) | (refine wpList_storeB rfl 26 (.tmp 5) (.tmp 18) rfl w.heap.size 26 _ Fr.none_.cs.toArray (by kernel_rfl) (by kernel_rfl) BW rfl (by kernel_rfl) (by simp [Value.oneCell']) ?_; intro w3 B3 hg3))
  refine bodyPost_ret (v := .tuple #[.int .i64 0, Fr.none_.val, .bool false]) (results_blk3 Try.results37 _ w3 w.heap.size 26 _ _ rfl B3 Try.underlying26 rfl (by kernel_rfl)) rfl ⟨rfl, bel_grown hb2 hg3 (Nat.le_refl _)⟩
section
variable {B : Nat} {D : Nat → Prop} {w0 w w' : World} {Φ0 : Who} {g0 g : Nat} {c0 f : Fr} {A : Option Addr} {L : List (Option Nat)} {s : Nat → Bx}
theorem ts_done (h : TS B D w0 Φ0 g0 g c0 f A L s w) {q : Nat} (hq : D q) : Calls Try.prog 22 #[.pointer (some ⟨q, 0, none⟩)] w fun e w' => e = .returned (.tuple #[]) ∧ TS B D w0 Φ0 g0 g c0 f A L (upd s q { s q with tx := (s q).tx.tail }) w' := by
  obtain ⟨Φ, h1, h2, h3, h4, h5⟩ := h
  refine (done_any (h1 q hq) h2.nu).mono ?_
  rintro e w' ⟨rfl, Φ', g1, g2⟩
  have g3 := g2.mono (S' := SD D) (Nat.le_refl _) (SD.of hq)
  exact ⟨rfl, Φ', h1.upd g2 g1, h2.trans g3, h3.ext g3 (SD.no7 D), h4.ext g3 (SD.no9 D), h5.ext g3 (SD.no9 D)⟩
theorem ts_store (h : TS B D w0 Φ0 g0 g c0 f A L s w) (h0 : w0.heap.size ≤ g0) (hB : B ≤ w0.heap.size) {x : Fr} (h2 : Blk w' g0 26 x.cs.toArray) (h3 : w.grownBy w' (some g0)) : TS B D w0 Φ0 g0 g x f A L s w' := by
  obtain ⟨Φ, k1, k2, k3, k4, k5⟩ := h
  have he : Ext B (fun c => c = (0, 7)) Φ Φ w w' := ⟨fun _ _ => rfl, k2.nu.more h3.size, (Chg.of_grown h3).mono fun i _ hi => by injection hi with hi; subst hi; exact ⟨by omega, k3.2⟩⟩
  have hx : Ext B (SD D) Φ0 Φ w0 w' := ⟨k2.1, he.nu, k2.2.2.trans (Chg.of_grown h3) fun i hi hx => by injection hx; omega⟩
  exact ⟨Φ, k1.ext he (fun q j _ hj h => by simp at h; omega) (by simp), hx, ⟨h2, k3.2⟩, k4.ext he (by simp), k5.ext he (by simp)⟩
theorem TS.blk0 (h : TS B D w0 Φ0 g0 g c0 f A L s w) : Blk w g0 26 c0.cs.toArray := by
  obtain ⟨Φ, k1, k2, k3, k4, k5⟩ := h
  exact k3.1
theorem TS.node (h : TS B D w0 Φ0 g0 g c0 f A L s w) {k : Nat} {x : Option Nat} (hk : L[k]? = some x) : ∃ g o, A = some ⟨g, o, none⟩ ∧ w.cell? ⟨g, o + k, none⟩ = some (ptr x) := by
  obtain ⟨Φ, k1, k2, k3, k4, k5⟩ := h
  obtain ⟨g, o, ea, -, -, hc⟩ := k5 (fun e => by have := ptrs_get hk; rw [e] at this; simp at this)
  exact ⟨g, o, ea, hc k _ (ptrs_get hk)⟩
end
/-- What the boxes say behind a Turn in which the node at place a, its box at q, has sent f. -/
def afterT (L : List (Option Nat)) (s : Nat → Bx) (q a n : Nat) (f : Fr) (lost : Bool) : Nat → Bx :=
  if lost then upd s q { s q with tx := (s q).tx.tail } else (putK (L.drop (a + 1)) (putK (L.take a) (upd s q { s q with tx := (s q).tx.tail }) f a).1 f (n - (a + 1))).1
set_option maxHeartbeats 2000000 in
theorem turn_yes {Φ : Who} {B : Nat} {w : World} {D : Nat → Prop} {s : Nat → Bx} {L : List (Option Nat)} {A : Option Addr} {n c : Nat} (lost : Bool) (h : Bxs Φ B w D s) (hD : ∀ q, some q ∈ L → D q) (hN : Nu Φ w) (hB : B ≤ w.heap.size) (hr : RdC Φ B w A (ptrs L)) (hn : L.length = n) (hnc : n ≤ c) (hc : c ≤ maxLen) {a q : Nat} {f : Fr}
    (hfs : fstK L s n = (a, f, true)) (hq : L[a]? = some (some q)) :
    Calls Try.prog 37 #[.bool lost, .slice A n c] w (TurnP Φ B D w (afterT L s q a n f lost) a f true) := by
  have hfw : f.wf := by have := fstK_wf h L hD n; rw [hfs] at this; exact this
  have han : a < n := by have := (fstK_lt L s n).2; rw [hfs] at this; exact this rfl
  have hDq : D q := hD q (List.mem_of_getElem? hq)
  have F := Lib.hid (fun W (hb : Below w.heap.size w W) => first_any (h.below hb) hD ((hr.rd.below hb).more hb.size) hn hnc hc)
  rw [hfs] at F
  have HN := Lib.hid hn
  have HFS := Lib.hid hfs
  have HQ := Lib.hid hq
  have hc' := hc
  unfold maxLen at hc'
  have HW0 : Hid (∀ W, W = w.alloc (.cells Fr.none_.cs.toArray 26) → TS0 B D w Φ w.heap.size A L s W) := Lib.hid fun W hW => by
    subst hW
    have hx := (Ext.of_below (B := B) (S := fun _ => False) hN (bl1 w (.cells Fr.none_.cs.toArray 26))).paint (A := some ⟨w.heap.size, 0, none⟩) (k := (0, 7)) (fun g hg => by
      simp [blkOf] at hg
      subst hg
      exact ⟨by simp, fun h => by omega⟩)
    exact ⟨_, h.ext hx (fun _ _ _ _ h => h) (fun h => h), hx.mono (Nat.le_refl _) (fun _ h => h.elim), ⟨Blk.new _ _ _, paint_at rfl⟩, hr.ext hx (fun h => h)⟩
  clear h hr hn hfs hq
  go_enter Try.func37, Try.ntmps37
  go_upto_region 1 with fail
  refine wp_named fun W hW => ?_
  have T0 := Lib.hid (HW0.out W hW)
  obtain ⟨B1, hbW⟩ := blk1 (c1 := Fr.none_.cs.toArray) hW
  have F1 := Lib.hid (F.out W hbW)
  clear hW F HW0 B1 hbW
  go_wp2_with fail
  refine F1.out.mono ?_
  rintro e w2 ⟨rfl, b2⟩
  go_upto_region 4 with fail
  refine wp_named fun W2 hW2 => ?_
  have T2 : TS B D w Φ w.heap.size w2.heap.size Fr.none_ f A L s W2 := by subst hW2; exact T0.out.ts b2
  clear hW2 F1 T0 b2
  obtain ⟨g3, o3, ea, hp⟩ := T2.node HQ.out
  subst ea
  have hp' : W2.cell? ⟨g3, o3 + a, none⟩ = some (.pointer (some ⟨q, 0, none⟩)) := hp
  have DN := Lib.hid (ts_done T2 hDq)
  have haI : (a : Int) < n := by omega
  clear hp T2
  go_wp2_with fail
  refine DN.out.mono ?_
  rintro e w4 ⟨rfl, T4⟩
  obtain ⟨s1, hs1⟩ : ∃ s1, upd s q { s q with tx := (s q).tx.tail } = s1 := ⟨_, rfl⟩
  rw [hs1] at T4
  have HS1 := Lib.hid hs1
  have T4 := Lib.hid T4
  clear DN hs1 hp'
  go_upto_if 25 with fail
  go_cut [26] (fun _ wx => TS B D w Φ w.heap.size w2.heap.size Fr.none_ f (some ⟨g3, o3, none⟩) L (afterT L s q a n f lost) wx)
  case first =>
    cases lost
    · have hE : afterT L s q a n f false = (putK (L.drop (a + 1)) (putK (L.take a) s1 f a).1 f (n - (a + 1))).1 := by unfold afterT; rw [HS1.out]; rfl
      obtain ⟨s2, hs2⟩ : ∃ s2, (putK (L.take a) s1 f a).1 = s2 := ⟨_, rfl⟩
      have P1 : Hid (∀ w', TS B D w Φ w.heap.size w2.heap.size Fr.none_ f (some ⟨g3, o3, none⟩) L s1 w' → Calls Try.prog 39 #[f.val, .slice (some ⟨g3, o3, none⟩) a c] w' fun e w3 => e = .returned (.int .i64 (putK (L.take a) s1 f a).2) ∧ TS B D w Φ w.heap.size w2.heap.size Fr.none_ f (some ⟨g3, o3, none⟩) L s2 w3) := Lib.hid fun w' h => by
        rw [← hs2]
        exact ts_put h hB hfw (fun x hx => hD x (List.mem_of_mem_take hx)) (fun Φ h => by rw [ptrs_take]; exact h.takeN _) (by rw [List.length_take, HN.out]; omega) (by omega) hc
      obtain ⟨S, hS0⟩ : ∃ S, a + 1 = S := ⟨_, rfl⟩
      rw [hS0] at hE
      have P2 : Hid (∀ w', TS B D w Φ w.heap.size w2.heap.size Fr.none_ f (some ⟨g3, o3, none⟩) L s2 w' → Calls Try.prog 39 #[f.val, .slice (if c = S then some ⟨g3, o3, none⟩ else some ⟨g3, o3 + S, none⟩) (n - S) (c - S)] w' fun e w3 => e = .returned (.int .i64 (putK (L.drop S) s2 f (n - S)).2) ∧ TS B D w Φ w.heap.size w2.heap.size Fr.none_ f (some ⟨g3, o3, none⟩) L (putK (L.drop S) s2 f (n - S)).1 w3) := Lib.hid fun w' h => 
        ts_put h hB hfw (fun x hx => hD x (List.mem_of_mem_drop hx)) (fun Φ h => by rw [ptrs_drop]; exact h.dropN S (by rw [ptrs_len, HN.out]; exact hnc)) (by rw [List.length_drop, HN.out]) (by omega) (by unfold maxLen; omega)
      have HE : Hid (∀ wx, TS B D w Φ w.heap.size w2.heap.size Fr.none_ f (some ⟨g3, o3, none⟩) L (putK (L.drop S) s2 f (n - S)).1 wx → TS B D w Φ w.heap.size w2.heap.size Fr.none_ f (some ⟨g3, o3, none⟩) L (afterT L s q a n f false) wx) := Lib.hid fun wx h => by rw [hE, hs2]; exact h
      obtain ⟨s3, hs3⟩ : ∃ s3, (putK (L.drop S) s2 f (n - S)).1 = s3 := ⟨_, rfl⟩
      rw [hs3] at P2 HE
      obtain ⟨m1, hm1⟩ : ∃ m, (putK (L.take a) s1 f a).2 = m := ⟨_, rfl⟩
      obtain ⟨m2, hm2⟩ : ∃ m, (putK (L.drop S) s2 f (n - S)).2 = m := ⟨_, rfl⟩
      rw [hm1] at P1
      rw [hm2] at P2
      have hwS : IntKind.i64.wrap ((a : Int) + 1) = (S : Int) := by rw [← hS0]; exact IntWalk.i64_in _ (by omega)
      have hSn : (S : Int) ≤ n := by omega
      have hSc : (S : Int) ≤ c := by omega
      have hac : (a : Int) ≤ c := by omega
      have hncI : (n : Int) ≤ c := by omega
      have HR1 : ∀ j w', (fun j w' => TS B D w Φ w.heap.size w2.heap.size Fr.none_ f (some ⟨g3, o3, none⟩) L (if j = 0 then s1 else s2) w') j w' → ∀ i, w'.cell? ⟨w2.heap.size, i, none⟩ = f.cs.toArray[i]? := fun j w' h => h.cell
      have HR2 : ∀ j w', (fun j w' => TS B D w Φ w.heap.size w2.heap.size Fr.none_ f (some ⟨g3, o3, none⟩) L (if j = 0 then s2 else s3) w') j w' → ∀ i, w'.cell? ⟨w2.heap.size, i, none⟩ = f.cs.toArray[i]? := fun j w' h => h.cell
      clear hs2 hs3 hm1 hm2 hE hS0
      go_wp2_with fail
      refine wp_region_s [4] (fun j w' => TS B D w Φ w.heap.size w2.heap.size Fr.none_ f (some ⟨g3, o3, none⟩) L (if j = 0 then s1 else s2) w') (by kernel_rfl) (by kernel_rfl) (T4.out.below (Below.refl _ _).drew) ?_
      first
        | (refine wpS_skip (by rfl) (by rfl) ?_; try simp only [Act.put, List.setIfInBounds_toArray, List.set_cons_zero, List.set_cons_succ, Nat.reduceAdd])
        | (refine wpS_val (v := ?_) HR1 (by rfl) (by rfl) ?_ ?_; rotate_left; · (intro w' hS; go_simp; first | done | with_reducible rfl)
           try simp only [Act.put, List.setIfInBounds_toArray, List.set_cons_zero, List.set_cons_succ, Nat.reduceAdd])
      first
        | (refine wpS_skip (by rfl) (by rfl) ?_; try simp only [Act.put, List.setIfInBounds_toArray, List.set_cons_zero, List.set_cons_succ, Nat.reduceAdd])
        | (refine wpS_val (v := ?_) HR1 (by rfl) (by rfl) ?_ ?_; rotate_left; · (intro w' hS; go_simp; first | done | with_reducible rfl)
           try simp only [Act.put, List.setIfInBounds_toArray, List.set_cons_zero, List.set_cons_succ, Nat.reduceAdd])
      first
        | (refine wpS_skip (by rfl) (by rfl) ?_; try simp only [Act.put, List.setIfInBounds_toArray, List.set_cons_zero, List.set_cons_succ, Nat.reduceAdd])
        | (refine wpS_val (v := ?_) HR1 (by rfl) (by rfl) ?_ ?_; rotate_left; · (intro w' hS; go_simp; first | done | with_reducible rfl)
           try simp only [Act.put, List.setIfInBounds_toArray, List.set_cons_zero, List.set_cons_succ, Nat.reduceAdd])
      first
        | (refine wpS_skip (by rfl) (by rfl) ?_; try simp only [Act.put, List.setIfInBounds_toArray, List.set_cons_zero, List.set_cons_succ, Nat.reduceAdd])
        | (refine wpS_val (v := ?_) HR1 (by rfl) (by rfl) ?_ ?_; rotate_left; · (intro w' hS; go_simp; first | done | with_reducible rfl)
           try simp only [Act.put, List.setIfInBounds_toArray, List.set_cons_zero, List.set_cons_succ, Nat.reduceAdd])
      first
        | (refine wpS_chain (v := ?_) (f := ?_) (args := ?_) 0 (by kernel_rfl) rfl (by intro p hp; first | omega | (obtain rfl : p = 0 := (by omega); exact ⟨_, rfl, by kernel_rfl⟩)) (of_decide_eq_true (by kernel_rfl)) (by rfl) HR1 ?_ ?_ ?_; rotate_left 3
           · (intro w' hS; go_simp; first | done | (refine ⟨?_, ?_⟩ <;> with_reducible rfl) | with_reducible rfl)
           · (intro w' hS; have hS' : TS B D w Φ w.heap.size w2.heap.size Fr.none_ f (some ⟨g3, o3, none⟩) L s1 w' := hS; refine (P1.out w' hS').mono ?_; rintro e w3 ⟨rfl, h2⟩; refine ⟨?_, h2⟩; with_reducible rfl)
           try simp only [Act.put, List.setIfInBounds_toArray, List.set_cons_zero, List.set_cons_succ, Nat.reduceAdd])
      refine wpS_done (by kernel_rfl) (fun w5 hS => ?_)
      have T5 := Lib.hid (show TS B D w Φ w.heap.size w2.heap.size Fr.none_ f (some ⟨g3, o3, none⟩) L s2 w5 from hS)
      clear HR1
      go_wp2_with fail
      refine wp_region_s [5] (fun j w' => TS B D w Φ w.heap.size w2.heap.size Fr.none_ f (some ⟨g3, o3, none⟩) L (if j = 0 then s2 else s3) w') (by kernel_rfl) (by kernel_rfl) (T5.out.below (Below.refl _ _).drew) ?_
      first
        | (refine wpS_skip (by rfl) (by rfl) ?_; try simp only [Act.put, List.setIfInBounds_toArray, List.set_cons_zero, List.set_cons_succ, Nat.reduceAdd])
        | (refine wpS_val (v := ?_) HR2 (by rfl) (by rfl) ?_ ?_; rotate_left; · (intro w' hS; go_simp; first | done | with_reducible rfl)
           try simp only [Act.put, List.setIfInBounds_toArray, List.set_cons_zero, List.set_cons_succ, Nat.reduceAdd])
      first
        | (refine wpS_skip (by rfl) (by rfl) ?_; try simp only [Act.put, List.setIfInBounds_toArray, List.set_cons_zero, List.set_cons_succ, Nat.reduceAdd])
        | (refine wpS_val (v := ?_) HR2 (by rfl) (by rfl) ?_ ?_; rotate_left; · (intro w' hS; go_simp; first | done | with_reducible rfl)
           try simp only [Act.put, List.setIfInBounds_toArray, List.set_cons_zero, List.set_cons_succ, Nat.reduceAdd])
      first
        | (refine wpS_skip (by rfl) (by rfl) ?_; try simp only [Act.put, List.setIfInBounds_toArray, List.set_cons_zero, List.set_cons_succ, Nat.reduceAdd])
        | (refine wpS_val (v := ?_) HR2 (by rfl) (by rfl) ?_ ?_; rotate_left; · (intro w' hS; go_simp; first | done | with_reducible rfl)
           try simp only [Act.put, List.setIfInBounds_toArray, List.set_cons_zero, List.set_cons_succ, Nat.reduceAdd])
      first
        | (refine wpS_skip (by rfl) (by rfl) ?_; try simp only [Act.put, List.setIfInBounds_toArray, List.set_cons_zero, List.set_cons_succ, Nat.reduceAdd])
        | (refine wpS_val (v := ?_) HR2 (by rfl) (by rfl) ?_ ?_; rotate_left; · (intro w' hS; go_simp; first | done | with_reducible rfl)
           try simp only [Act.put, List.setIfInBounds_toArray, List.set_cons_zero, List.set_cons_succ, Nat.reduceAdd])
      first
        | (refine wpS_skip (by rfl) (by rfl) ?_; try simp only [Act.put, List.setIfInBounds_toArray, List.set_cons_zero, List.set_cons_succ, Nat.reduceAdd])
        | (refine wpS_val (v := ?_) HR2 (by rfl) (by rfl) ?_ ?_; rotate_left; · (intro w' hS; go_simp; first | done | with_reducible rfl)
           try simp only [Act.put, List.setIfInBounds_toArray, List.set_cons_zero, List.set_cons_succ, Nat.reduceAdd])
      first
        | (refine wpS_chain (v := ?_) (f := ?_) (args := ?_) 0 (by kernel_rfl) rfl (by intro p hp; first | omega | (obtain rfl : p = 0 := (by omega); exact ⟨_, rfl, by kernel_rfl⟩)) (of_decide_eq_true (by kernel_rfl)) (by rfl) HR2 ?_ ?_ ?_; rotate_left 3
           · (intro w' hS; go_simp; first | done | (refine ⟨?_, ?_⟩ <;> with_reducible rfl) | with_reducible rfl)
           · (intro w' hS; have hS' : TS B D w Φ w.heap.size w2.heap.size Fr.none_ f (some ⟨g3, o3, none⟩) L s2 w' := hS; refine (P2.out w' hS').mono ?_; rintro e w3 ⟨rfl, h2⟩; refine ⟨?_, h2⟩; with_reducible rfl)
           try simp only [Act.put, List.setIfInBounds_toArray, List.set_cons_zero, List.set_cons_succ, Nat.reduceAdd])
      refine wpS_done (by kernel_rfl) (fun w6 hS => ?_)
      have T6 := Lib.hid (HE.out _ (show TS B D w Φ w.heap.size w2.heap.size Fr.none_ f (some ⟨g3, o3, none⟩) L s3 w6 from hS))
      clear HR2
      generalize (if c = S then (some ⟨g3, o3, none⟩ : Option Addr) else some ⟨g3, o3 + S, none⟩) = A35
      go_wp2_with fail
      go_meet
      case rel => exact T6.out
    · have hE : afterT L s q a n f true = s1 := by unfold afterT; rw [HS1.out]; rfl
      have T6 := Lib.hid (show TS B D w Φ w.heap.size w2.heap.size Fr.none_ f (some ⟨g3, o3, none⟩) L (afterT L s q a n f true) w4 by rw [hE]; exact T4.out)
      clear hE
      go_wp2_with fail
      go_meet
      case rel => exact T6.out
  case rest =>
    obtain ⟨s4, hs4⟩ : ∃ s4, afterT L s q a n f lost = s4 := ⟨_, rfl⟩
    rw [hs4] at hcut
    have HS4 := Lib.hid hs4
    have T8 := Lib.hid hcut
    have HR3 : ∀ j w', (fun j w' => TS B D w Φ w.heap.size w2.heap.size (if j = 0 then Fr.none_ else f) f (some ⟨g3, o3, none⟩) L s4 w') j w' → ∀ i, w'.cell? ⟨w2.heap.size, i, none⟩ = f.cs.toArray[i]? := fun j w' h => h.cell
    clear hcut hs4 T4
    go_wp2_with fail
    refine wp_region_s [3] (fun j w' => TS B D w Φ w.heap.size w2.heap.size (if j = 0 then Fr.none_ else f) f (some ⟨g3, o3, none⟩) L s4 w') (by kernel_rfl) (by kernel_rfl) (T8.out.below (Below.refl _ _).drew) ?_
    first
      | (refine wpS_skip (by rfl) (by rfl) ?_; try simp only [Act.put, List.setIfInBounds_toArray, List.set_cons_zero, List.set_cons_succ, Nat.reduceAdd])
      | (refine wpS_val (v := ?_) HR3 (by rfl) (by rfl) ?_ ?_; rotate_left; · (intro w' hS; go_simp; first | done | with_reducible rfl)
         try simp only [Act.put, List.setIfInBounds_toArray, List.set_cons_zero, List.set_cons_succ, Nat.reduceAdd])
    first
      | (refine wpS_skip (by rfl) (by rfl) ?_; try simp only [Act.put, List.setIfInBounds_toArray, List.set_cons_zero, List.set_cons_succ, Nat.reduceAdd])
      | (refine wpS_val (v := ?_) HR3 (by rfl) (by rfl) ?_ ?_; rotate_left; · (intro w' hS; go_simp; first | done | with_reducible rfl)
         try simp only [Act.put, List.setIfInBounds_toArray, List.set_cons_zero, List.set_cons_succ, Nat.reduceAdd])
    first
      | (refine wpS_skip (by rfl) (by rfl) ?_; try simp only [Act.put, List.setIfInBounds_toArray, List.set_cons_zero, List.set_cons_succ, Nat.reduceAdd])
      | (refine wpS_val (v := ?_) HR3 (by rfl) (by rfl) ?_ ?_; rotate_left; · (intro w' hS; go_simp; first | done | with_reducible rfl)
         try simp only [Act.put, List.setIfInBounds_toArray, List.set_cons_zero, List.set_cons_succ, Nat.reduceAdd])
    refine wpS_step (v := undef) 0 (by kernel_rfl) rfl (by intro p hp; first | omega | (obtain rfl : p = 0 := (by omega); exact ⟨_, rfl, by kernel_rfl⟩)) (of_decide_eq_true (by kernel_rfl)) (fun w' hS => .inl ⟨by rfl, ?_⟩) (fun _ => rfl) ?_
    · have hS' : TS B D w Φ w.heap.size w2.heap.size Fr.none_ f (some ⟨g3, o3, none⟩) L s4 w' := hS
      refine wp_storeB 26 (.tmp 5) (.tmp 38) rfl w.heap.size 26 Fr.none_.cs.toArray f.cs.toArray rfl rfl hS'.blk0 rfl (by kernel_rfl) (by simp [Value.oneCell']) (fun w'' h2 h3 => ⟨rfl, ts_store hS' (Nat.le_refl _) hB h2 h3⟩)
    try simp only [Act.put, List.setIfInBounds_toArray, List.set_cons_zero, List.set_cons_succ, Nat.reduceAdd]
    first
      | (refine wpS_skip (by rfl) (by rfl) ?_; try simp only [Act.put, List.setIfInBounds_toArray, List.set_cons_zero, List.set_cons_succ, Nat.reduceAdd])
      | (refine wpS_val (v := ?_) HR3 (by rfl) (by rfl) ?_ ?_; rotate_left; · (intro w' hS; go_simp; first | done | with_reducible rfl)
         try simp only [Act.put, List.setIfInBounds_toArray, List.set_cons_zero, List.set_cons_succ, Nat.reduceAdd])
    refine wpS_done (by kernel_rfl) (fun w9 hS => ?_)
    have T9 := Lib.hid (show TS B D w Φ w.heap.size w2.heap.size f f (some ⟨g3, o3, none⟩) L s4 w9 from hS)
    have HP : Hid (TurnP Φ B D w (afterT L s q a n f lost) a f true (.returned (.tuple #[.int .i64 a, f.val, .bool true])) w9) := Lib.hid (by
      rw [HS4.out]
      obtain ⟨Φ9, k1, k2, -⟩ := T9.out
      exact ⟨rfl, Φ9, k1, k2⟩)
    go_wp2_with fail
    refine bodyPost_ret (v := .tuple #[.int .i64 a, f.val, .bool true]) (results_blk3 Try.results37 _ w9 w.heap.size 26 _ _ rfl T9.out.blk0 Try.underlying26 rfl (by kernel_rfl)) rfl HP.out
end Go.Proofs.Ytbmkfjgodgmjnaa
