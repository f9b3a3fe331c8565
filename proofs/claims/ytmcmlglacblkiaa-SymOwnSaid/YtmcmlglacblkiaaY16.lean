/- sym.New, Find. -/
import Derived.Test.YtmcmlglacblkiaaY15
namespace Go.Proofs.Ytmcmlglacblkiaa
open Go.RowKit Go.Maps
set_option linter.unusedVariables false
set_option linter.unusedSimpArgs false
/-- The map at block m holds the names. -/
def MapAt (w : World) (m : Nat) (l : List Sy) : Prop := ∃ n, n ≤ l.length ∧ w.ownsMap Try.prog 9 RV m n (LD l)
/-- The table at block t. -/
def TabAt (w : World) (B t : Nat) (l : List Sy) : Prop := ∃ m, Blk w t 62 #[.map (some m)] ∧ B ≤ t ∧ MapAt w m l
theorem MapAt.below {w w' : World} {m : Nat} {l : List Sy} (h : MapAt w m l) (hb : Below w.heap.size w w') : MapAt w' m l := by
  obtain ⟨n, hn, ho⟩ := h
  refine ⟨n, hn, ?_⟩
  have hlt := ho.lt
  obtain ⟨es, clock, hm, F, hs, hD⟩ := ho
  exact ⟨es, clock, (hb.block m hlt).trans hm, F, hs, hD⟩
theorem TabAt.below {w w' : World} {B t : Nat} {l : List Sy} (h : TabAt w B t l) (hb : Below w.heap.size w w') : TabAt w' B t l := by
  obtain ⟨m, h1, h2, h3⟩ := h
  exact ⟨m, h1.below hb, h2, h3.below hb⟩
theorem zero24 (w : World) : (zeroValue 24).run Try.prog w = .ok zeroS.val w := by kernel_rfl
theorem key_str (n : ByteArray) (hn : n.size ≤ maxLen) : keyOf Try.prog 9 (.string n) = some (kyS n) := by
  unfold keyOf kyS
  simp [Try.underlying9, mapKey, hn]
/-- A look-up, with 'ok'. -/
theorem MapAt.look {w : World} {m : Nat} {l : List Sy} (h : MapAt w m l) (hd : ¬ Dup l) (n : ByteArray) (hn : n.size ≤ maxLen) : (Instr.lookup 60 (.map (some m)) (.string n) true).run Try.prog w = .ok (fndV (findS l n)) w := by
  obtain ⟨N, hN, es, clock, hm, F, hs, hD⟩ := h
  have hat := at_LD l hd n
  rw [hD] at hat
  rcases Maps.fit_look true (string_keyed Try.underlying9) Try.underlying60 (zero24 w) hm F (key_str n hn) with ⟨hrun, _, hz⟩ | ⟨e0, y, _, _, hrun, hRv, hy, _⟩
  · rw [hrun]
    cases hf : findS l n with
    | none => rfl
    | some s =>
      have h1 := hat .nil
      rw [hz .nil, hf] at h1
      cases h1
  · rw [hrun]
    have hyv : y = (.held e0.val, []) := by
      unfold RV at hRv
      injection hRv with hRv
      exact hRv.symm
    cases hf : findS l n with
    | none =>
      have h1 := hat .nil
      rw [hy .nil, hf, hyv] at h1
      cases h1
    | some s =>
      have h1 := hat .nil
      rw [hy .nil, hf, hyv] at h1
      injection h1 with h1
      rw [h1]
      rfl
set_option maxHeartbeats 4000000 in
/-- Find. -/
theorem find_any (w : World) (B t : Nat) (l : List Sy) (n : ByteArray) (h : TabAt w B t l) (hd : ¬ Dup l) (hn : n.size ≤ maxLen) :
    Calls Try.prog 20 #[.pointer (some ⟨t, 0, none⟩), .string n] w fun e w' => e = .returned (fndV (findS l n)) ∧ Below w.heap.size w w' := by
  obtain ⟨m, hB, hBt, hM⟩ := h
  have LK := fun W (hW : Below w.heap.size w W) => (hM.below hW).look hd n hn
  obtain ⟨f, hf⟩ : ∃ f, findS l n = f := ⟨_, rfl⟩
  rw [hf] at LK ⊢
  have hb0 := bl1 w (.cells #[.string ⟨#[]⟩, .int .u8 0, .int .u32 0, .int .i64 0, .bool false, .bool false, .int .i32 0, .int .i32 0] 24)
  have BX := Blk.new w 24 #[.string ⟨#[]⟩, .int .u8 0, .int .u32 0, .int .i64 0, .bool false, .bool false, .int .i32 0, .int .i32 0]
  have cT := (hB.below hb0).cell
  have lk := LK _ hb0
  clear hf hM
  obtain ⟨⟨nm, ar, at_, wd, bg, sg, mu, ad⟩, hs⟩ : ∃ s, f.getD zeroS = s := ⟨_, rfl⟩
  obtain ⟨ok, hok⟩ : ∃ ok, f.isSome = ok := ⟨_, rfl⟩
  unfold fndV at lk ⊢
  rw [hs, hok] at lk ⊢
  clear hs hok LK
  go_enter Try.func20, Try.ntmps20
  go_upto_region 4 with fail
  refine wp_named fun W hW => ?_
  obtain ⟨B1, B2, hbW⟩ := blk2 hW
  clear hW cT lk hb0 BX
  have c2 := B2.cell
  have hzW := hbW.size
  go_wp2_with (refine wpList_storeB rfl 24 (.tmp 4) (.tmp 20) rfl w.heap.size 24 _ #[.string nm, .int .u8 ar, .int .u32 at_, .int .i64 wd, .bool bg, .bool sg, .int .i32 mu, .int .i32 ad] (by kernel_rfl) (by kernel_rfl) B1 rfl (by kernel_rfl) (by simp [Value.oneCell']) ?_; intro w2 B3 hg2)
  refine bodyPost_ret (v := .tuple #[.agg #[.string nm, .int .u8 ar, .int .u32 at_, .int .i64 wd, .bool bg, .bool sg, .int .i32 mu, .int .i32 ad], .bool ok]) (results_blk2 Try.results20 _ w2 w.heap.size 24 _ _ rfl B3 Try.underlying24 rfl (by kernel_rfl)) rfl ⟨rfl, hbW.grown hg2 hzW (fun k hk => by injection hk with hk; omega)⟩
/-- Find, of no table. -/
theorem find_nil (w : World) (n : ByteArray) : Calls Try.prog 20 #[.pointer none, .string n] w fun e w' => e = .returned (fndV none) ∧ Below w.heap.size w w' := by
  have B1 := Blk.new w 24 #[.string ⟨#[]⟩, .int .u8 0, .int .u32 0, .int .i64 0, .bool false, .bool false, .int .i32 0, .int .i32 0]
  have hb0 := bl1 w (.cells #[.string ⟨#[]⟩, .int .u8 0, .int .u32 0, .int .i64 0, .bool false, .bool false, .int .i32 0, .int .i32 0] 24)
  go_enter Try.func20, Try.ntmps20
  go_wp2_with (refine wpList_build rfl 24 _ rfl (by kernel_rfl) ?_; refine wpList_storeB rfl 24 (.tmp 4) (.tmp 10) rfl w.heap.size 24 _ zeroS.cs (by kernel_rfl) (by kernel_rfl) B1 rfl (by kernel_rfl) (by simp [Value.oneCell']) ?_; intro w2 B3 hg2)
  refine bodyPost_ret (v := fndV none) (results_blk2 Try.results20 _ w2 w.heap.size 24 _ _ rfl B3 Try.underlying24 rfl (by kernel_rfl)) rfl ⟨rfl, hb0.grown hg2 (by simp) (fun k hk => by injection hk with hk; omega)⟩
/-- A name is put. -/
theorem MapAt.put {w : World} {m : Nat} {l : List Sy} (h : MapAt w m l) (s : Sy) (hn : s.nm.size ≤ maxLen) (hl : l.length < maxLen) : ∃ w', (Instr.mapUpdate 60 (.map (some m)) (.string s.nm) s.val).run Try.prog w = .ok () w' ∧ MapAt w' m (l ++ [s]) ∧ w.grownBy w' (some m) := by
  obtain ⟨n, hN, ho⟩ := h
  obtain ⟨w', hrun, ho', hg⟩ := ho.update (string_keyed Try.underlying9) Try.underlying60 (Nat.lt_of_le_of_lt hN hl) (key_str s.nm hn) (show RV s.val = some (.held s.val, []) from rfl)
  exact ⟨w', hrun, ⟨n + 1, by rw [List.length_append]; exact Nat.succ_le_succ hN, by rw [LD_snoc]; exact ho'⟩, hg⟩
theorem MapAt.drew {w : World} {m : Nat} {l : List Sy} (h : MapAt w m l) : MapAt w.drew m l := h
theorem MapAt.lt {w : World} {m : Nat} {l : List Sy} (h : MapAt w m l) : m < w.heap.size := h.choose_spec.2.lt
end Go.Proofs.Ytmcmlglacblkiaa
