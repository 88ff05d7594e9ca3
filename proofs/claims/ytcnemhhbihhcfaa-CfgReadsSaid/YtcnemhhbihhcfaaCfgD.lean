/-
  Package cfg, fourth part: bytes, a count, a name, both ways.
-/
import Derived.Test.YtcnemhhbihhcfaaCfgC
import Derived.Maps.AppendAt
import Derived.Deep.DeepCutAuto
import Derived.StillTailTactics
namespace Go.Proofs.Ytcnemhhbihhcfaa
open Go.RowKit
set_option linter.unusedVariables false

theorem own_slice {w : World} {base : Nat} {e : TypeId} {size : Nat} {v : Value} {n : Nat} {xs : List Value} (h : w.ownsRow base e size v n xs) : ∃ a l c, v = .slice a l c := by
  rcases h.2 with ⟨rfl, _⟩ | ⟨g, cap, cur, rfl, _⟩
  · exact ⟨_, _, _, rfl⟩
  · exact ⟨_, _, _, rfl⟩

set_option maxRecDepth 100000 in
theorem bytes_wr {w : World} {C base : Nat} {L : List UInt8} {v : Value} (h : Wr w C base L v) (hb : base ≤ w.heap.size) (X : List UInt8) (hL : L.length + X.length ≤ 100000000) (ad : Addr) (c : Nat) (hX : ∀ j u, (bcells X)[j]? = some u → w.cell? (ad.add j) = some u) :
    Calls Try.prog 54 #[.pointer (some ⟨C, 0, none⟩), .slice (some ad) X.length c] w fun e w' => e = .returned (.tuple #[]) ∧ ∃ v', Wr w' C base (L ++ X) v' ∧ WMod C v w v' w' := by
  have c0 := blk_cell h.blk 0
  have c1 := blk_cell h.blk 1
  have f0 := blk_free h.blk 0
  simp at c0 c1
  obtain ⟨i0, hi, hz0, hz1, hz2⟩ := info_parts infoU8
  obtain ⟨n, hn⟩ : ∃ n, n = X.length := ⟨_, rfl⟩
  have hne := h.ne h.blk (by decide)
  have hst : ∀ v' w', w'.ownsRow base 5 1 v' (L.length + n) (bcells L ++ bcells X) → w.grownBy w' v.ownBlock → (v'.ownBlock = v.ownBlock ∨ v'.ownBlock = some w.heap.size) → w'.frozen? ⟨C, 0, none⟩ = false ∧ (∃ u, w'.cell? ⟨C, 0, none⟩ = some u) ∧ Wr (w'.setCell ⟨C, 0, none⟩ v') C base (L ++ X) v' ∧ WMod C v w v' (w'.setCell ⟨C, 0, none⟩ v') := by
    intro v' w' h1 h2 h3
    have hm : Mod (fun b => v.ownBlock = some b) w w' := Mod.grown (Mod.refl _ _) h2 (fun k hk => .inr hk)
    rw [← bcells_append] at h1
    have hbk := hm.obj h.blk hne
    exact ⟨blk_free hbk 0, ⟨_, by simpa using blk_cell hbk 0⟩, wr_step_any h hm h1 h3 (by rw [List.length_append, hn])⟩
  rw [← hn]
  have HST := Lib.hid hst
  have HOW := Lib.hid h.own
  have HX := Lib.hid hX
  have HN := Lib.hid hn
  have HL := Lib.hid hL
  have HB := Lib.hid hb
  clear hst h hX hn hL hb
  go_enter Try.func54, Try.ntmps54
  go_wp2_with (first | (at_builtin; refine wpList_append_own_at _ (by rfl) _ _ 34 (by rfl) base 5 i0 _ 1 1 Try.underlying34 hi hz0 hz1 hz2 rfl (by decide) v L.length (bcells L) (by rfl) HOW.out ad n c (bcells X) (by rfl) ?_ HX.out (bcells_one X) ?_ ?_ HB.out ?_; (rw [bcells_length, HN.out, Nat.mul_one]); (have := HL.out; have := HN.out; unfold maxLen; omega); (have := HL.out; have := HN.out; omega); intro v' w1 own1 hg1 _ hrow1; obtain ⟨a1, l1, k1, rfl⟩ := own_slice own1; obtain ⟨f2, ⟨u2, c2⟩, hW2⟩ := HST.out _ w1 own1 hg1 hrow1; have HW := Lib.hid hW2; clear hW2 own1 hg1 hrow1) | fail)
  first | go_end0 | (simp only [Exit.inBlock, Exit.then]; refine bodyPost_ret (results_none rfl _ _ _) rfl ?_) | refine bodyPost_ret (results_none rfl _ _ _) rfl ?_
  exact ⟨rfl, _, HW.out.1, HW.out.2⟩

theorem setRow_mod {w : World} {g : Nat} (cs : Array Value) : Mod (fun b => b = g) w (w.setRow g cs) :=
  ⟨rfl, rfl, rfl, by simp [World.setRow], fun k hk hf => setRow_other w g k cs hf⟩
set_option maxRecDepth 100000 in
theorem bytes_rd {S : Nat → Prop} {w : World} {C : Nat} {A : Option Addr} {c at_ : Nat} {sh : Bool} (B : List UInt8) (hb : w.heap[C]? = some (rdObj A B.length c at_ sh)) (hrow : RowAt S w A (bcells B)) (hat : at_ ≤ B.length) (hc : B.length ≤ c) (hB : B.length ≤ 100000000) (k : Nat) (hk : k ≤ 100000000) (hS : ¬ S C)
    {T o kc : Nat} {cs : List Value} {t : TypeId} (hT : w.heap[T]? = some (.cells cs.toArray t (0, 0))) (ho : o + k ≤ cs.length) (h1 : T ≠ C) :
    Calls Try.prog 54 #[.pointer (some ⟨C, 0, none⟩), .slice (some ⟨T, o, none⟩) k kc] w fun e w' => e = .returned (.tuple #[]) ∧ w'.heap[C]? = some (rdObj A B.length c (rtake B (at_, sh) k).2.1 (rtake B (at_, sh) k).2.2) ∧
      w'.heap[T]? = some (.cells (splice cs o (bcells (rtake B (at_, sh) k).1)).toArray t (0, 0)) ∧ Mod (fun b => b = C ∨ b = T) w w' := by
  have HT := Lib.hid (take_ok B hb hrow hat hc hB k hk hS)
  have hxl := rtake_length B (at_, sh) k
  obtain ⟨xs, hxs⟩ : ∃ xs, xs = (rtake B (at_, sh) k).1 := ⟨_, rfl⟩
  obtain ⟨st, hst⟩ : ∃ st, st = (rtake B (at_, sh) k).2 := ⟨_, rfl⟩
  rw [← hxs, ← hst] at HT
  rw [← hxs] at hxl
  rw [← hxs, ← hst]
  have HXL := Lib.hid hxl
  have c1 := blk_cell hb 1
  simp at c1
  have HTB := Lib.hid hT
  have hsz : (Try.prog.info? 5).map (·.size) = some 1 := by kernel_rfl
  clear hxl hb hrow hS hxs hst hT
  rcases Nat.eq_zero_or_pos k with h0 | h0
  · subst h0
    go_enter Try.func54, Try.ntmps54
    go_wp2_with (first | (go_at_call 91; refine HT.out.mono ?_; rintro e w1 ⟨A', c', rfl, hcc, hr1, hb1, hm1⟩; have HR1 := Lib.hid (And.intro hr1 (And.intro hb1 hm1)); have hcp := run_copy_none (P := Try.prog) w1 34 34 3 5 (some ⟨T, o, none⟩) A' 0 kc 0 c' Try.underlying34 hsz (Nat.min_self 0); clear hr1 hb1 hm1) | fail)
    go_end0
    have e : xs = [] := List.eq_nil_of_length_eq_zero HXL.out
    subst e
    refine ⟨rfl, HR1.out.2.1, ?_, HR1.out.2.2.mono (fun _ h => .inl h)⟩
    rw [HR1.out.2.2.obj HTB.out h1]
    simp [splice, bcells]
  · have hpos : ∀ A' w1, RowAt (fun b => S b ∨ w.heap.size ≤ b) w1 A' (bcells xs) → ∃ b o, A' = some ⟨b, o, none⟩ ∧ ∀ j v, (bcells xs)[j]? = some v → w1.cell? ((⟨b, o, none⟩ : Addr).add j) = some v := by
      intro A' w1 h
      obtain ⟨b, o, e, _, _, hc⟩ := h.open (by intro e; have := congrArg List.length e; rw [bcells_length, HXL.out] at this; simp at this; omega)
      exact ⟨b, o, e, fun j v hj => by rw [Addr.add_lit]; exact hc j v hj⟩
    have HP := Lib.hid hpos
    clear hpos
    go_enter Try.func54, Try.ntmps54
    go_wp2_with (first | (go_at_call 91; refine HT.out.mono ?_; rintro e w1 ⟨A', c', rfl, hcc, hr1, hb1, hm1⟩; obtain ⟨b1, o1, rfl, hc1⟩ := HP.out _ _ hr1; have hcp := run_copy_row (P := Try.prog) w1 34 34 3 5 T o k kc ⟨b1, o1, none⟩ k c' cs.toArray t (bcells xs) Try.underlying34 hsz (hm1.obj HTB.out h1) (by rw [bcells_length, HXL.out]; exact (Nat.min_self _).symm) hc1 (by rw [bcells_length, HXL.out]; simpa using ho) (bcells_one xs); have HR1 := Lib.hid (And.intro hr1 (And.intro hb1 hm1)); clear hr1 hb1 hm1 hc1) | fail)
    go_end0
    have hmm := HR1.out.2.2
    refine ⟨rfl, ?_, ?_, (hmm.mono (fun _ h => .inl h)).trans ((setRow_mod _).mono (fun _ h => .inr h))⟩
    · exact (setRow_mod _).obj HR1.out.2.1 (fun e => h1 e.symm)
    · exact setRow_heap _ T _ _ t _ (hmm.obj HTB.out h1)

end Go.Proofs.Ytcnemhhbihhcfaa
