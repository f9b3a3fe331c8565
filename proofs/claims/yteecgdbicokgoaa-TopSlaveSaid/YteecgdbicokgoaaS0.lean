/- The slave's small functions. -/
import Derived.Test.YteecgdbicokgoaaM4
import Derived.Test.YteecgdbicokgoaaL6
import Derived.Defers
import Derived.Recover
namespace Go.Proofs.Yteecgdbicokgoaa
open Go.RowKit
set_option linter.unusedVariables false
set_option linter.unusedSimpArgs false
set_option maxRecDepth 100000
/-- A fault that goes up. -/
abbrev faultE (e : Int) : List PanicEntry := [{ v := .iface 147 (.int .i64 e), recovered := false }]
theorem must_ok (w : World) : Calls Try.prog 109 #[.int .i64 0] w fun e w' => e = .returned (.tuple #[]) ∧ w = w' := by
  go_enter Try.func109, Try.ntmps109
  go_wp2
  go_end0
  exact ⟨rfl, rfl⟩
theorem must_bad (e : Int) (h : e ≠ 0) (w : World) : Calls Try.prog 109 #[.int .i64 e] w fun e' w' => e' = .panicked (faultE e) ∧ w = w' := by
  have hd : (e != 0) = true := by simpa using h
  go_enter Try.func109, Try.ntmps109
  go_wp2
  exact ⟨rfl, rfl, rfl⟩
theorem ask_ok (e : Value) (w : World) : Calls Try.prog 76 #[.bool true, e] w fun e w' => e = .returned (.tuple #[]) ∧ w = w' := by
  go_enter Try.func76, Try.ntmps76
  go_wp2
  go_end0
  exact ⟨rfl, rfl⟩
theorem ask_bad (e : Int) (w : World) : Calls Try.prog 76 #[.bool false, .int .i64 e] w fun e' w' => e' = .panicked (faultE e) ∧ w = w' := by
  go_enter Try.func76, Try.ntmps76
  go_wp2
  exact ⟨rfl, rfl, rfl⟩
theorem code_any (e : Int) (h : 0 ≤ e ∧ e ≤ 255) (w : World) : Calls Try.prog 55 #[.int .i64 e] w fun e' w' => e' = .returned (.int .u8 e) ∧ w = w' := by
  have hw : IntKind.u8.wrap e = e := IntWalk.u8_in _ h
  have hm : (if 0 < e then e else 0) = e := by split <;> omega
  have hm2 : (if e < 0 then 0 else e) = e := by split <;> omega
  rcases (by omega : e = 0 ∨ 0 < e) with rfl | h0
  all_goals
    go_enter Try.func55, Try.ntmps55
    go_wp2
    go_ret
    exact ⟨rfl, rfl⟩
/-- A positive answer: one Rep in a block of its own. -/
theorem pos_any (A : Option Addr) (n c : Nat) (w : World) : Calls Try.prog 82 #[.slice A n c] w fun e w' => e = .returned (.slice (some ⟨w.heap.size, 0, none⟩) 1 1) ∧ w' = w.alloc (.cells #[.int .u8 1, .int .u8 0, .slice A n c] 82) := by
  go_enter Try.func82, Try.ntmps82
  go_wp2
  go_ret
  exact ⟨rfl, rfl⟩
/-- A slave as it lies. -/
def SlB (w : World) (s m l : Nat) (on : Bool) (area pt : Int) (block : Int) : Prop := Blk w s 146 #[.pointer (some ⟨m, 0, none⟩), .pointer (some ⟨l, 0, none⟩), .bool on, .int .u8 area, .int .u32 pt, .int .i64 block]
/-- What a slave, its memory and its lock say. -/
structure St where
  on : Bool
  area : Int
  pt : Int
  block : Int
  M : Mx
  a : LX
structure St.ok (x : St) : Prop where
  a0 : 0 ≤ x.area
  a1 : x.area < 256
  p0 : 0 ≤ x.pt
  p1 : x.pt < 4294967296
/-- A slave, its memory (in [L, T)) and its lock (from T on; its bytes ahead of N). -/
structure TA (w : World) (L T N s m l : Nat) (x : St) : Prop where
  k : x.ok
  sl : SlB w s m l x.on x.area x.pt x.block
  mem : MAt w L T m x.M
  lk : LAt w T (fun i => T ≤ i ∧ i < N) l x.a
  ts : T ≤ s
  lt : L ≤ T
  n : N ≤ w.heap.size
/-- What a slave's commands write. -/
abbrev ChS (L T : Nat) (w w' : World) : Prop := ChR L [146, 109, 221] L T w w'
theorem TrAt.chR {w w' : World} {B B' g L T : Nat} {Φ : Nat → Prop} {d : Sd} {ts : List TypeId} (h : TrAt w B Φ g d) (hc : ChR B' ts L T w w') (h5 : (5 : TypeId) ∉ ts) (h51 : (221 : TypeId) ∉ ts) (hT : T ≤ B) (hΦ : ∀ i, Φ i → T ≤ i) : TrAt w' B Φ g d := by
  obtain ⟨A1, c1, A2, n2, c2, A3, c3, h1, h2, h3, h4, h6, h7⟩ := h
  exact ⟨A1, c1, A2, n2, c2, A3, c3, h1, h2.chR hc h51 (by omega), h3.chR hc h5 (fun i hi => by have := hΦ i (h6 i hi); omega), h4.chR hc h5 (fun i hi => by have := hΦ i (h7 i hi); omega), h6, h7⟩
theorem LAt.chR {w w' : World} {B B' l L T : Nat} {Φ : Nat → Prop} {a : LX} {ts : List TypeId} (h : LAt w B Φ l a) (hc : ChR B' ts L T w w') (h5 : (5 : TypeId) ∉ ts) (h49 : (109 : TypeId) ∉ ts) (h51 : (221 : TypeId) ∉ ts) (hT : T ≤ B) (hΦ : ∀ i, Φ i → T ≤ i) : LAt w' B Φ l a := by
  obtain ⟨h1, h2, p, h3, h4⟩ := h
  refine ⟨h1, h2, p, h3.chR hc h49 (by omega), ?_⟩
  cases ho : a.out with
  | none => rw [ho] at h4; exact h4
  | some d =>
    rw [ho] at h4
    obtain ⟨g, hg, ht⟩ := h4
    exact ⟨g, hg, ht.chR hc h5 h51 hT hΦ⟩
theorem MAt.chT {w w' : World} {L T m B : Nat} {M : Mx} {ts : List TypeId} (h : MAt w L T m M) (hc : ChT B ts w w') (h1 : 125 ∉ ts) (h2 : 5 ∉ ts) (h3 : 110 ∉ ts) (h4 : 114 ∉ ts) (h5 : 22 ∉ ts) : MAt w' L T m M :=
  h.other (ChR.of_chT hc 0 0) (.inr (Nat.zero_le _)) h1 h2 h3 h4 h5
section
variable {w w' : World} {L T N N' s m l : Nat} {x : St}
theorem TA.below (h : TA w L T N s m l x) (hb : Below w.heap.size w w') : TA w' L T N s m l x :=
  ⟨h.k, Blk.below h.sl hb, h.mem.below hb, h.lk.below hb, h.ts, h.lt, Nat.le_trans h.n hb.size⟩
theorem TA.more (h : TA w L T N s m l x) (hN : N ≤ N') (hz : N' ≤ w.heap.size) : TA w L T N' s m l x :=
  ⟨h.k, h.sl, h.mem, h.lk.imp fun i hi => ⟨hi.1, by omega⟩, h.ts, h.lt, hz⟩
theorem TA.tz (h : TA w L T N s m l x) : T ≤ w.heap.size := h.mem.tz
/-- The lock was worked on. -/
theorem TA.lock (h : TA w L T N s m l x) {Φ : Nat → Prop} {a : LX} (hl : LAt w' T Φ l a) (hΦ : ∀ i, Φ i → T ≤ i ∧ i < N') (hz : N' ≤ w'.heap.size) (hc : ChT T [109, 221] w w') : TA w' L T N' s m l { x with a := a } ∧ ChS L T w w' :=
  ⟨⟨⟨h.k.a0, h.k.a1, h.k.p0, h.k.p1⟩, Blk.chT h.sl hc (by decide), h.mem.chT hc (by decide) (by decide) (by decide) (by decide) (by decide), hl.imp hΦ, h.ts, h.lt, hz⟩, (ChR.of_chT hc L T).mono h.lt fun t ht => List.mem_cons_of_mem _ ht⟩
/-- The memory was worked on. -/
theorem TA.memw (h : TA w L T N s m l x) {M : Mx} (hm : MAt w' L T m M) (hc : ChR L [] L T w w') : TA w' L T N s m l { x with M := M } ∧ ChS L T w w' :=
  ⟨⟨⟨h.k.a0, h.k.a1, h.k.p0, h.k.p1⟩, Blk.chR h.sl hc (by simp) (by have := h.ts; omega), hm, h.lk.chR hc (by simp) (by simp) (by simp) (Nat.le_refl _) (fun i hi => hi.1), h.ts, h.lt, Nat.le_trans h.n hc.size⟩, hc.mono (Nat.le_refl _) (by intro t ht; cases ht)⟩
/-- The slave's own block was written. -/
theorem TA.slw (h : TA w L T N s m l x) {y : St} (hy : y.M = x.M ∧ y.a = x.a) (hk : y.ok) (hb : SlB w' s m l y.on y.area y.pt y.block) (hg : w.grownBy w' (some s)) : TA w' L T N s m l y ∧ ChS L T w w' := by
  have hc : ChT T [146] w w' := (Chg.of_grown hg).mono fun i _ hi => by injection hi with hi; subst hi; exact ⟨h.ts, 146, _, h.sl, by simp⟩
  refine ⟨⟨hk, hb, ?_, ?_, h.ts, h.lt, Nat.le_trans h.n hg.size⟩, (ChR.of_chT hc L T).mono h.lt fun t ht => by rw [List.mem_singleton] at ht; rw [ht]; exact List.mem_cons_self ..⟩
  · rw [hy.1]; exact h.mem.chT hc (by decide) (by decide) (by decide) (by decide) (by decide)
  · rw [hy.2]; exact h.lk.chT hc (by decide) (by decide) (by decide)
theorem unlocked_ok (h : TA w L T N s m l x) (hz : bits .and .u8 x.a.shut 1 = 0) :
    Calls Try.prog 110 #[.pointer (some ⟨s, 0, none⟩)] w fun e w' => e = .returned (.tuple #[]) ∧ w = w' := by
  have LK := Lib.hid (locked_any h.lk)
  have AK := Lib.hid (fun w => ask_ok (.int .i64 92) w)
  have hc := Blk.cell h.sl
  clear h
  go_enter Try.func110, Try.ntmps110
  go_wp2_with fail
  refine LK.out.mono ?_
  rintro e w' ⟨rfl, rfl⟩
  go_wp2_with fail
  refine (AK.out _).mono ?_
  rintro e w' ⟨rfl, rfl⟩
  go_wp2_with fail
  go_end0
  exact ⟨rfl, rfl⟩
theorem unlocked_bad (h : TA w L T N s m l x) (hz : bits .and .u8 x.a.shut 1 = 1) :
    Calls Try.prog 110 #[.pointer (some ⟨s, 0, none⟩)] w fun e w' => e = .panicked (faultE 92) ∧ w = w' := by
  have LK := Lib.hid (locked_any h.lk)
  have AK := Lib.hid (fun w => ask_bad 92 w)
  have hc := Blk.cell h.sl
  clear h
  go_enter Try.func110, Try.ntmps110
  go_wp2_with fail
  refine LK.out.mono ?_
  rintro e w' ⟨rfl, rfl⟩
  go_wp2_with fail
  refine (AK.out _).mono ?_
  rintro e w' ⟨rfl, rfl⟩
  exact ⟨rfl, rfl, rfl⟩
end
end Go.Proofs.Yteecgdbicokgoaa
