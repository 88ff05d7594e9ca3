/-
  The reference's writing: numbers put behind bytes, a name, pairs.
-/
import Derived.Test.YtcnemhhbihhcfaaCfgX
namespace Go.Proofs.Ytcnemhhbihhcfaa
open Go.RowKit
set_option linter.unusedVariables false

/-- Bytes of one's own that have grown since: those of v in w, now those of v' in w'. -/
structure Gr (base : Nat) (v : Value) (w : World) (v' : Value) (w' : World) (L : List UInt8) : Prop where
  own : OwnB w' base v' L
  mod : Mod (fun b => v.ownBlock = some b) w w'
  row : ∀ g, v'.ownBlock = some g → v.ownBlock = some g ∨ w.heap.size ≤ g
theorem Gr.refl {base : Nat} {v : Value} {w : World} {L : List UInt8} (h : OwnB w base v L) : Gr base v w v w L := ⟨h, Mod.refl _ _, fun _ h => .inl h⟩
theorem Gr.ext {base : Nat} {v v' : Value} {w w' w2 : World} {L : List UInt8} (h : Gr base v w v' w' L) (hm : Mod No w' w2) : Gr base v w v' w2 L :=
  ⟨OwnB.mod h.own hm (fun _ _ _ f => f), h.mod.trans (hm.mono (fun _ f => f.elim)), h.row⟩
theorem Gr.trans {base : Nat} {v v1 v2 : Value} {w w1 w2 : World} {L L' : List UInt8} (h : Gr base v w v1 w1 L) (k : Gr base v1 w1 v2 w2 L') : Gr base v w v2 w2 L' :=
  ⟨k.own, h.mod.trans' k.mod (fun i hi hg => by rcases h.row i hg with f | f; exact f; omega), fun g hg => by
    rcases k.row g hg with f | f
    · exact h.row g f
    · exact .inr (Nat.le_trans h.mod.size f)⟩
/-- Seen from an elder world. -/
theorem Gr.pre {base : Nat} {v v' : Value} {w0 w w' : World} {L : List UInt8} (h0 : Mod No w0 w) (h : Gr base v w v' w' L) : Gr base v w0 v' w' L :=
  ⟨h.own, (h0.mono (fun _ f => f.elim)).trans h.mod, fun g hg => by
    rcases h.row g hg with f | f
    · exact .inl f
    · exact .inr (Nat.le_trans h0.size f)⟩
theorem Gr.no {base : Nat} {v' : Value} {w w' : World} {L : List UInt8} (h : Gr base (.slice none 0 0) w v' w' L) : Mod No w w' := h.mod.mono (fun b f => by simp [Value.ownBlock] at f)
theorem nil_own (w : World) (base : Nat) : OwnB w base (.slice none 0 0) [] := ⟨rfl, .inl ⟨rfl, rfl⟩⟩
theorem gr_append {w w' : World} {base : Nat} {v v' : Value} {L X : List UInt8} (hw' : w'.ownsRow base 5 1 v' (L.length + X.length) (bcells L ++ bcells X)) (hg : w.grownBy w' v.ownBlock) (hr : v'.ownBlock = v.ownBlock ∨ v'.ownBlock = some w.heap.size) : Gr base v w v' w' (L ++ X) := by
  refine ⟨?_, Mod.grown (Mod.refl _ _) hg (fun k hk => .inr hk), fun g hg => ?_⟩
  · unfold OwnB
    rw [List.length_append, bcells_append]
    exact hw'
  · rcases hr with e | e
    · exact .inl (by rw [← e]; exact hg)
    · rw [hg] at e; simp at e; exact .inr (by omega)

theorem wrap_u8_low (n j : Nat) : IntKind.u8.wrap ((n : Int) / 2 ^ (8 * j)) = ((UInt8.ofNat (n / 256 ^ j)).toNat : Int) := by
  rw [← u8_shift n j]
  simp [IntKind.wrap, IntKind.bits, IntKind.signed]

set_option maxRecDepth 100000 in
theorem put32_ok {w : World} {base : Nat} {v : Value} {L : List UInt8} (h : OwnB w base v L) (hb : base ≤ w.heap.size) (hL : L.length ≤ 90000000) (n : Nat) (hn : n < 4294967296) :
    Calls Try.prog 39 #[v, .int .u32 (n : Int)] w fun e w' => ∃ v', e = .returned v' ∧ Gr base v w v' w' (L ++ be 4 n) := by
  obtain ⟨i0, hi, hz0, hz1, hz2⟩ := info_parts infoU8
  have hbe : bcells (be 4 n) = [.int .u8 ((n : Int) / 16777216 : Int), .int .u8 ((n : Int) / 65536 % 256 : Int), .int .u8 ((n : Int) / 256 % 256 : Int), .int .u8 ((n : Int) % 256 : Int)] := by
    simp [be, bcells]
    omega
  have HBE := Lib.hid hbe
  have HOW := Lib.hid h
  have HL := Lib.hid hL
  have HB := Lib.hid hb
  clear h hL hb hbe
  go_enter Try.func39, Try.ntmps39
  go_wp2_with (first
    | (at_builtin; refine wpList_append_own_at _ (by rfl) _ _ 34 (by rfl) base 5 i0 _ 1 1 Try.underlying34 hi hz0 hz1 hz2 rfl (by decide) v L.length (bcells L) (by rfl) (OwnB.mod HOW.out ((Mod.refl No w).alloc _) (fun _ _ _ f => f)) ⟨w.heap.size, 0, none⟩ 4 4 (bcells (be 4 n)) (by rfl) (by rw [bcells_length, be_length]) ?_ (bcells_one _) ?_ ?_ ?_ ?_;
       (rw [HBE.out]; exact World.news_of_block (at10 w _));
       (have := HL.out; unfold maxLen; omega);
       (have := HL.out; omega);
       (have := HB.out; simp; omega);
       intro v2 w2 own2 gr2 _ hr2; have H2 := Lib.hid (And.intro own2 (And.intro gr2 hr2)); clear own2 gr2 hr2)
    | fail)
  go_ret
  obtain ⟨own2, gr2, hr2⟩ := H2.out
  have hg := gr_append (base := base) (L := L) (X := be 4 n) (by rw [be_length]; exact own2) gr2 hr2
  exact ⟨v2, rfl, Gr.pre ((Mod.refl No w).alloc _) hg⟩
set_option maxRecDepth 100000 in
theorem put16_ok {w : World} {base : Nat} {v : Value} {L : List UInt8} (h : OwnB w base v L) (hb : base ≤ w.heap.size) (hL : L.length ≤ 90000000) (n : Nat) (hn : n < 65536) :
    Calls Try.prog 41 #[v, .int .u16 (n : Int)] w fun e w' => ∃ v', e = .returned v' ∧ Gr base v w v' w' (L ++ be 2 n) := by
  obtain ⟨i0, hi, hz0, hz1, hz2⟩ := info_parts infoU8
  have hbe : bcells (be 2 n) = [.int .u8 ((n : Int) / 256 : Int), .int .u8 ((n : Int) % 256 : Int)] := by
    simp [be, bcells]
    omega
  have HBE := Lib.hid hbe
  have HOW := Lib.hid h
  have HL := Lib.hid hL
  have HB := Lib.hid hb
  clear h hL hb hbe
  go_enter Try.func41, Try.ntmps41
  go_wp2_with (first
    | (at_builtin; refine wpList_append_own_at _ (by rfl) _ _ 34 (by rfl) base 5 i0 _ 1 1 Try.underlying34 hi hz0 hz1 hz2 rfl (by decide) v L.length (bcells L) (by rfl) (OwnB.mod HOW.out ((Mod.refl No w).alloc _) (fun _ _ _ f => f)) ⟨w.heap.size, 0, none⟩ 2 2 (bcells (be 2 n)) (by rfl) (by rw [bcells_length, be_length]) ?_ (bcells_one _) ?_ ?_ ?_ ?_;
       (rw [HBE.out]; exact World.news_of_block (at10 w _));
       (have := HL.out; unfold maxLen; omega);
       (have := HL.out; omega);
       (have := HB.out; simp; omega);
       intro v2 w2 own2 gr2 _ hr2; have H2 := Lib.hid (And.intro own2 (And.intro gr2 hr2)); clear own2 gr2 hr2)
    | fail)
  go_ret
  obtain ⟨own2, gr2, hr2⟩ := H2.out
  have hg := gr_append (base := base) (L := L) (X := be 2 n) (by rw [be_length]; exact own2) gr2 hr2
  exact ⟨v2, rfl, Gr.pre ((Mod.refl No w).alloc _) hg⟩

end Go.Proofs.Ytcnemhhbihhcfaa
