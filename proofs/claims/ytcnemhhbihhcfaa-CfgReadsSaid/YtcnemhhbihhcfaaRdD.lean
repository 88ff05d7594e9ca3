/-
  Package cfg: a tenant read; a list of tenants read.
-/
import Derived.Test.YtcnemhhbihhcfaaRdC
import Derived.Test.YtcnemhhbihhcfaaCfgV
import Derived.Great.BuildSlice
namespace Go.Proofs.Ytcnemhhbihhcfaa
open Go.RowKit
set_option linter.unusedVariables false

theorem ri_step {w0 : World} {n C T o : Nat} {A : Option Addr} {c : Nat} {B : List UInt8} {S : Nat → Prop} {pre post : List Value} {tt : TypeId} {s : St} (g : RG w0 n C T o A c B S pre) :
    ∀ k w1 f cc, tenFn[k]? = some f → (tenCap n)[k]? = some cc → RI w0 n C T A c B pre post tt s k w1 → w1.heap[n + 6]? = some (.cells (tenRow n).toArray 1 (0, 0)) ∧ Calls Try.prog f cc w1 fun e w' => e = .returned (.tuple #[]) ∧ RI w0 n C T A c B pre post tt s (k + 1) w' := by
  intro k w1 f c hf hc h
  have hk : k < 19 := (List.getElem?_eq_some_iff.1 hf).1
  refine ⟨?_, ?_⟩
  · obtain ⟨vp, vs, vt, h⟩ := h
    exact h.keep g g.rw6 (by omega) (by omega)
  have hor : k = 0 ∨ k = 1 ∨ k = 2 ∨ k = 3 ∨ k = 4 ∨ k = 5 ∨ k = 6 ∨ k = 7 ∨ k = 8 ∨ k = 9 ∨ k = 10 ∨ k = 11 ∨ k = 12 ∨ k = 13 ∨ k = 14 ∨ k = 15 ∨ k = 16 ∨ k = 17 ∨ k = 18 := by omega
  clear hk
  rcases hor with rfl | rfl | rfl | rfl | rfl | rfl | rfl | rfl | rfl | rfl | rfl | rfl | rfl | rfl | rfl | rfl | rfl | rfl | rfl
  · obtain rfl : 51 = f := Option.some.inj hf; obtain rfl : #[bxv n, bxv (n + 1)] = c := Option.some.inj hc; exact ri_0 g h
  · obtain rfl : 52 = f := Option.some.inj hf; obtain rfl : #[bxv n, bxv (n + 1)] = c := Option.some.inj hc; exact ri_1 g h
  · obtain rfl : 53 = f := Option.some.inj hf; obtain rfl : #[bxv n, bxv (n + 1)] = c := Option.some.inj hc; exact ri_2 g h
  · obtain rfl : 55 = f := Option.some.inj hf; obtain rfl : #[bxv n, bxv (n + 1)] = c := Option.some.inj hc; exact ri_3 g h
  · obtain rfl : 56 = f := Option.some.inj hf; obtain rfl : #[bxv n, bxv (n + 1)] = c := Option.some.inj hc; exact ri_4 g h
  · obtain rfl : 57 = f := Option.some.inj hf; obtain rfl : #[bxv n, bxv (n + 1)] = c := Option.some.inj hc; exact ri_5 g h
  · obtain rfl : 58 = f := Option.some.inj hf; obtain rfl : #[bxv n, bxv (n + 1)] = c := Option.some.inj hc; exact ri_6 g h
  · obtain rfl : 60 = f := Option.some.inj hf; obtain rfl : #[bxv n, bxv (n + 1)] = c := Option.some.inj hc; exact ri_7 g h
  · obtain rfl : 61 = f := Option.some.inj hf; obtain rfl : #[bxv n, bxv (n + 1)] = c := Option.some.inj hc; exact ri_8 g h
  · obtain rfl : 63 = f := Option.some.inj hf; obtain rfl : #[bxv n, bxv (n + 1)] = c := Option.some.inj hc; exact ri_9 g h
  · obtain rfl : 64 = f := Option.some.inj hf; obtain rfl : #[bxv n, bxv (n + 1)] = c := Option.some.inj hc; exact ri_10 g h
  · obtain rfl : 65 = f := Option.some.inj hf; obtain rfl : #[bxv n, bxv (n + 1)] = c := Option.some.inj hc; exact ri_11 g h
  · obtain rfl : 66 = f := Option.some.inj hf; obtain rfl : #[bxv n, bxv (n + 1)] = c := Option.some.inj hc; exact ri_12 g h
  · obtain rfl : 67 = f := Option.some.inj hf; obtain rfl : #[bxv n, bxv (n + 1), bxv (n + 2)] = c := Option.some.inj hc; exact ri_13 g h
  · obtain rfl : 69 = f := Option.some.inj hf; obtain rfl : #[bxv n, bxv (n + 1), bxv (n + 3)] = c := Option.some.inj hc; exact ri_14 g h
  · obtain rfl : 70 = f := Option.some.inj hf; obtain rfl : #[bxv n, bxv (n + 1), bxv (n + 4)] = c := Option.some.inj hc; exact ri_15 g h
  · obtain rfl : 71 = f := Option.some.inj hf; obtain rfl : #[bxv n, bxv (n + 2), bxv (n + 1)] = c := Option.some.inj hc; exact ri_16 g h
  · obtain rfl : 74 = f := Option.some.inj hf; obtain rfl : #[bxv n, bxv (n + 3), bxv (n + 1), bxv (n + 5)] = c := Option.some.inj hc; exact ri_17 g h
  · obtain rfl : 76 = f := Option.some.inj hf; obtain rfl : #[bxv n, bxv (n + 4), bxv (n + 1), bxv (n + 5)] = c := Option.some.inj hc; exact ri_18 g h

/-- A TENANT READ. -/
theorem tenant_rd {S : Nat → Prop} {w : World} {C : Nat} {A : Option Addr} {c : Nat} {s0 : St} (B : List UInt8) (hb : w.heap[C]? = some (rdObj A B.length c s0.1 s0.2)) (hrow : RowAt S w A (bcells B)) (hat : s0.1 ≤ B.length) (hc : B.length ≤ c) (hB : B.length ≤ 100000000) (hS : ¬ S C) {T o : Nat} (hST : ¬ S T) (hSl : ∀ b, S b → b < w.heap.size)
    {pre post : List Value} {tt : TypeId} (hT : w.heap[T]? = some (.cells (pre ++ zTen.toList ++ post).toArray tt (0, 0))) (ho : pre.length = o) (hTC : T ≠ C) :
    Calls Try.prog 35 #[.pointer (some ⟨C, 0, none⟩), .pointer (some ⟨T, o, none⟩)] w fun e w' => e = .returned (.tuple #[]) ∧ ∃ x : TV, x.t = (rten B s0).1 ∧ (rten B s0).2.1 ≤ B.length ∧ w'.heap[C]? = some (rdObj A B.length c (rten B s0).2.1 (rten B s0).2.2) ∧
      w'.heap[T]? = some (.cells (pre ++ x.cells ++ post).toArray tt (0, 0)) ∧ x.Rows (fun b => w.heap.size ≤ b) w' ∧ Mod (fun b => b = C ∨ b = T) w w' := by
  have hC := lt_of_block hb
  have hTl := lt_of_block hT
  refine tenant_walk (fun w' => ∃ x : TV, x.t = (rten B s0).1 ∧ (rten B s0).2.1 ≤ B.length ∧ w'.heap[C]? = some (rdObj A B.length c (rten B s0).2.1 (rten B s0).2.2) ∧
      w'.heap[T]? = some (.cells (pre ++ x.cells ++ post).toArray tt (0, 0)) ∧ x.Rows (fun b => w.heap.size ≤ b) w' ∧ Mod (fun b => b = C ∨ b = T) w w') (fun w0 hm hbx h2 h3 h4 h5 h6 => ?_)
  have g : RG w0 w.heap.size C T o A c B S pre :=
    { bx := hbx, pr := h5, rw6 := h6, C_lt := hC, T_lt := hTl, TC := hTC, ho := ho, row := hrow.keeps (hm.keeps (fun _ _ _ f => f)), S_lt := hSl, SC := hS, ST := hST, hc := hc, hB := hB }
  refine ⟨RI w0 w.heap.size C T A c B pre post tt s0, ?_, ri_step g, fun w' ⟨vp, vs, vt, h'⟩ => ?_⟩
  · exact ⟨.slice none 0 0, .slice none 0 0, .slice none 0 0, ⟨hm.obj hb id, hat, hm.obj hT id, Mod.refl _ _, h2, h3, h4, ⟨show (0:Nat) < 256 by decide, show (0:Nat) < 256 by decide, show (0:Nat) < 256 by decide⟩, none, 0, none, 0, none, 0, rfl, rfl, rfl, .nil _ _ _, .nil _ _ _, .nil _ _ _⟩⟩
  · have hsz := hm.size
    obtain ⟨P, p, Q, q, R, r', e1, e2, e3, r1, r2, r3⟩ := h'.rows
    refine ⟨⟨(rk B s0 19).t, vp, vs, vt⟩, rfl, h'.le, h'.rd, h'.ten, ⟨P, p, Q, q, R, r', e1, e2, e3, r1.mono (fun b _ hb => by omega), r2.mono (fun b _ hb => by omega), r3.mono (fun b _ hb => by omega)⟩, ?_⟩
    refine (hm.mono (fun _ f => f.elim)).trans' h'.mod (fun i hi f => ?_)
    rcases f with f | f | f
    · exact .inl f
    · exact .inr f
    · omega

/-! ### a list of tenants read -/
theorem rten_le (B : List UInt8) (s : St) (h : s.1 ≤ B.length) : (rten B s).2.1 ≤ B.length := by
  have a : ∀ r : RS, r.s.1 ≤ B.length → ∀ f ∈ rsteps B, (f r).s.1 ≤ B.length := by
    intro r hr f hf
    simp only [rsteps, List.mem_cons, List.mem_nil_iff, or_false] at hf
    rcases hf with rfl | rfl | rfl | rfl | rfl | rfl | rfl | rfl | rfl | rfl | rfl | rfl | rfl | rfl | rfl | rfl | rfl | rfl | rfl
    · exact rname_le B _ hr
    · exact rnum_le B 4 _ hr
    · exact rtake_le B _ 8 hr
    · exact rnum_le B 4 _ hr
    · exact rtake_le B _ 6 hr
    · exact rtake_le B _ 6 hr
    · exact rnum_le B 2 _ hr
    · exact rnum_le B 2 _ hr
    · exact rnum_le B 1 _ hr
    · exact rnum_le B 2 _ hr
    · exact rnum_le B 2 _ hr
    · exact rnum_le B 4 _ hr
    · exact rnum_le B 4 _ hr
    · exact rnum_le B 1 _ hr
    · exact rnum_le B 1 _ hr
    · exact rnum_le B 1 _ hr
    · exact rmany_le (rnum_le B 4) _ _ hr
    · exact rmany_le (rpr_le B) _ _ hr
    · exact rmany_le (rpr_le B) _ _ hr
  have b : ∀ (l : List (RS → RS)) (r : RS), (∀ f ∈ l, f ∈ rsteps B) → r.s.1 ≤ B.length → (l.foldl (fun r f => f r) r).s.1 ≤ B.length := by
    intro l
    induction l with
    | nil => intro r _ hr; exact hr
    | cons f l ih => intro r hl hr; exact ih (f r) (fun g hg => hl g (by simp [hg])) (a r hr f (hl f (by simp)))
  exact b _ _ (fun f hf => List.mem_of_mem_take hf) h
theorem infoTen : (Try.prog.info? 30).map (fun i => (i.zero, i.size, i.bytes)) = some (some (.agg zTen), 33, 160) := by kernel_rfl
theorem list33' {α : Type} : ∀ (l : List α), l.length = 33 → ∃ c0 c1 c2 c3 c4 c5 c6 c7 c8 c9 c10 c11 c12 c13 c14 c15 c16 c17 c18 c19 c20 c21 c22 c23 c24 c25 c26 c27 c28 c29 c30 c31 c32, l = [c0, c1, c2, c3, c4, c5, c6, c7, c8, c9, c10, c11, c12, c13, c14, c15, c16, c17, c18, c19, c20, c21, c22, c23, c24, c25, c26, c27, c28, c29, c30, c31, c32]
  | c0 :: c1 :: c2 :: c3 :: c4 :: c5 :: c6 :: c7 :: c8 :: c9 :: c10 :: c11 :: c12 :: c13 :: c14 :: c15 :: c16 :: c17 :: c18 :: c19 :: c20 :: c21 :: c22 :: c23 :: c24 :: c25 :: c26 :: c27 :: c28 :: c29 :: c30 :: c31 :: c32 :: [], _ => ⟨c0, c1, c2, c3, c4, c5, c6, c7, c8, c9, c10, c11, c12, c13, c14, c15, c16, c17, c18, c19, c20, c21, c22, c23, c24, c25, c26, c27, c28, c29, c30, c31, c32, rfl⟩
set_option maxRecDepth 100000 in
theorem ten_build (CA : Array Value) (h : CA.size = 33) : ∀ W, (Instr.buildSlice 46 1 #[(0, .agg CA)]).run Try.prog W = .ok (.slice (some ⟨W.heap.size, 0, none⟩) 1 1) (W.alloc (.cells CA 30)) := by
  intro W
  obtain ⟨ie, hie, hz0, hz1, hz2⟩ := info_parts infoTen
  refine Go.run_buildSlice W _ 30 1 _ CA ie _ Try.underlying46 hie hz0 (by rw [hz1]; decide) (by rw [hz1]; decide) ?_
  rw [hz1]
  obtain ⟨l⟩ := CA
  obtain ⟨c0, c1, c2, c3, c4, c5, c6, c7, c8, c9, c10, c11, c12, c13, c14, c15, c16, c17, c18, c19, c20, c21, c22, c23, c24, c25, c26, c27, c28, c29, c30, c31, c32, rfl⟩ := list33' l (by simpa using h)
  kernel_rfl

end Go.Proofs.Ytcnemhhbihhcfaa
