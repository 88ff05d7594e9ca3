/-
  Both tables, the program's and the reference's: what is done to one and then to the other keeps them alike.
-/
import Derived.Test.YtimbhkbdmcbodaaRtF
import Derived.Test.YtimbhkbdmcbodaaSessS
import Derived.Test.YtimbhkbdmcbodaaSessH
import Derived.Test.YtimbhkbdmcbodaaPutH
namespace Go.Proofs.Ytimbhkbdmcbodaa
open Go.RowKit
set_option linter.unusedVariables false
set_option linter.unusedSimpArgs false

/-- The blocks that may turn. -/
def Turns (mb mo : Nat) (U : Nat → Prop) : Nat → Prop := fun b => b = mb ∨ b = mo ∨ U b
/-- Both tables, alike; all that they own lies at B or above. -/
structure Both (B tb mb mo rb : Nat) (U : Nat → Prop) (w : World) (L : List Sess) (M : List SV) : Prop where
  tab : ∃ S, Tab w tb mb mo S L ∧ (∀ b, S b → B ≤ b ∧ b < w.heap.size) ∧ ∀ b, U b → ¬ S b
  rtab : RTab U w rb M
  perm : (M.map (·.s)).Perm L
  srt : Srt (M.map (·.s))
  ub : ∀ b, U b → B ≤ b ∧ b ≠ tb ∧ b ≠ mb ∧ b ≠ mo
  base : B ≤ mb ∧ B ≤ mo ∧ B ≤ tb
section
variable {B tb mb mo rb : Nat} {U : Nat → Prop} {w w' : World} {L : List Sess} {M : List SV}
theorem Both.mod (h : Both B tb mb mo rb U w L M) (hm : Mod No w w') : Both B tb mb mo rb U w' L M := by
  obtain ⟨S, h1, h2, h3⟩ := h.tab
  exact ⟨⟨S, h1.mod hm, fun b hb => ⟨(h2 b hb).1, Nat.lt_of_lt_of_le (h2 b hb).2 hm.size⟩, h3⟩, h.rtab.mod hm (fun _ _ f => f), h.perm, h.srt, h.ub, h.base⟩
theorem Both.turns (h : Both B tb mb mo rb U w L M) : ∀ b, Turns mb mo U b → B ≤ b ∧ b < w.heap.size := by
  obtain ⟨S, h1, h2, h3⟩ := h.tab
  obtain ⟨_, _, g1, _⟩ := h1.byKey
  obtain ⟨_, _, g2, _⟩ := h1.byOut
  rintro b (rfl | rfl | hb)
  · exact ⟨h.base.1, lt_of_block g1⟩
  · exact ⟨h.base.2.1, lt_of_block g2⟩
  · exact ⟨(h.ub b hb).1, h.rtab.lt b hb⟩
theorem Both.len (h : Both B tb mb mo rb U w L M) : M.length = L.length := by simpa using h.perm.length_eq
theorem Tab.uniqKey {S : Nat → Prop} (h : Tab w tb mb mo S L) : Uniq (·.key) L := fun i j s t hi hj he => by
  obtain ⟨es, c, hb, hst, hall⟩ := h.byKey
  exact nodup_keys hst hall (·.key) (fun _ _ h => h.1) hi hj he
theorem Tab.uniqOf {S : Nat → Prop} (h : Tab w tb mb mo S L) : Uniq Sess.of L := fun i j s t hi hj he => by
  obtain ⟨es, c, hb, hst, hall⟩ := h.byOut
  exact nodup_keys hst hall Sess.of (fun _ _ h => h.1) hi hj he
theorem Both.key (h : Both B tb mb mo rb U w L M) (q : Key) : (M.map (·.s)).find? (fun s => s.key = q) = L.find? (fun s => s.key = q) := by
  obtain ⟨S, h1, _⟩ := h.tab
  exact find_perm h1.uniqKey h.perm q
theorem Both.ofs (h : Both B tb mb mo rb U w L M) (q : Key) : (M.map (·.s)).find? (fun s => s.of = q) = L.find? (fun s => s.of = q) := by
  obtain ⟨S, h1, _⟩ := h.tab
  exact find_perm h1.uniqOf h.perm q
/-- What stands behind a call of each. -/
def After (B tb mb mo rb : Nat) (U : Nat → Prop) (w : World) (L : List Sess) (w' : World) : Prop :=
  ∃ U' L' M', Both B tb mb mo rb U' w' L' M' ∧ L'.length ≤ L.length + 1 ∧ Mod (Turns mb mo U) w w'

/-! ### Add -/
theorem both_add {S0 : Nat → Prop} (h : Both B tb mb mo rb U w L M) (hl : L.length ≤ 1000) (s : Sess) (A : Option Addr) (c : Nat) (hk : s.key.wf) (ho : s.out.wf) (hx : RowAt S0 w A (ptCells s.peers)) (hS0 : ∀ b, S0 b → ¬ Turns mb mo U b) (hpl : s.peers.length ≤ 65536) (most : Int) :
    Calls Try.prog 7 #[.pointer (some ⟨tb, 0, none⟩), s.val A c, .int .i64 most] w fun e w1 => ∃ z, e = .returned (.int .i64 z) ∧ Mod (Turns mb mo U) w w1 ∧
      ∀ w2, Mod No w1 w2 → Calls Try.prog 15 #[.pointer (some ⟨rb, 0, none⟩), s.val A c, .int .i64 most] w2 fun e w3 => e = .returned (.int .i64 z) ∧ Mod (Turns mb mo U) w1 w3 ∧ After B tb mb mo rb U w L w3 := by
  obtain ⟨S, h1, h2, h3⟩ := h.tab
  refine (add_ok h1 s A c hk ho most hx hpl).mono ?_
  rintro e w1 ⟨rfl, hm1, S1, hS1, hT1⟩
  have hmT : Mod (Turns mb mo U) w w1 := hm1.mono (fun b hb => by rcases hb with hb | hb; exact .inl hb; exact .inr (.inl hb))
  refine ⟨_, rfl, hmT, fun w2 hm2 => ?_⟩
  have hm12 : Mod (fun b => b = mb ∨ b = mo) w w2 := hm1.trans (hm2.mono (fun _ f => f.elim))
  have hU : ∀ b, U b → ¬ (b = mb ∨ b = mo) := fun b hb f => by rcases f with f | f; exact (h.ub b hb).2.2.1 f; exact (h.ub b hb).2.2.2 f
  have hr2 := h.rtab.mod hm12 hU
  have hlen := h.len
  refine (radd_ok (S0 := S0) hr2 (by omega) s A c (hx.keeps (hm12.keeps (fun b _ hs f => hS0 b hs (by rcases f with f | f; exact .inl f; exact .inr (.inl f))))) hpl most).mono ?_
  have hsz := hm1.size
  have hsz2 := hm2.size
  have hB : B ≤ w.heap.size := by have := (h.turns mb (.inl rfl)); omega
  rintro e w3 ⟨hm3, h4⟩
  have hm13 : Mod (Turns mb mo U) w1 w3 := (hm2.mono (fun _ f => f.elim)).trans (hm3.mono (fun b hb => .inr (.inr hb)))
  have hT3 : ∀ {L'}, Tab w1 tb mb mo S1 L' → Tab w3 tb mb mo S1 L' := fun {L'} hT => by
    refine (hT.mod hm2).keeps (hm3.keeps (fun b hb hs f => ?_))
    rcases hs with hs | hs | hs | hs
    · rcases hS1 b hs with h5 | h5
      · exact h3 b f h5
      · have := h.rtab.lt b f
        omega
    · exact (h.ub b f).2.1 hs
    · exact (h.ub b f).2.2.1 hs
    · exact (h.ub b f).2.2.2 hs
  have hm3s := hm3.size
  have hS3 : ∀ b, S1 b → B ≤ b ∧ b < w3.heap.size := fun b hb => by
    rcases hS1 b hb with h5 | h5
    · have := h2 b h5; omega
    · omega
  have hUS : ∀ b, U b → ¬ S1 b := fun b hb f => by
    rcases hS1 b f with h5 | h5
    · exact h3 b hb h5
    · have := h.rtab.lt b hb; omega
  rw [h.key, h.ofs] at h4
  rcases h4 with ⟨rfl, hf, hr⟩ | ⟨hf, h4⟩
  · rw [hf] at hT1 ⊢
    simp only [if_true] at hT1 ⊢
    exact ⟨by first | rfl | trivial, hm13, U, L, M, ⟨⟨S1, hT3 hT1, hS3, hUS⟩, hr, h.perm, h.srt, h.ub, h.base⟩, by omega, hmT.trans hm13⟩
  · rw [hf] at hT1 ⊢
    simp only [Bool.false_eq_true, if_false] at hT1 ⊢
    rcases h4 with ⟨rfl, hle, hr⟩ | ⟨rfl, hle, U', k, A', c', hU', hk1, hk2, hr⟩
    · rw [hlen] at hle
      rw [if_pos hle] at hT1 ⊢
      exact ⟨by first | rfl | trivial, hm13, U, L, M, ⟨⟨S1, hT3 hT1, hS3, hUS⟩, hr, h.perm, h.srt, h.ub, h.base⟩, by omega, hmT.trans hm13⟩
    · rw [hlen] at hle
      rw [if_neg hle] at hT1 ⊢
      have hnk : L.find? (fun x => x.key = s.key) = none := by
        simp only [Bool.or_eq_false_iff] at hf
        simpa using hf.1
      have hmap : (M.take k ++ (⟨s, A', c'⟩ : SV) :: M.drop k).map (·.s) = (M.map (·.s)).take k ++ s :: (M.map (·.s)).drop k := by simp [List.map_take, List.map_drop]
      refine ⟨by first | rfl | trivial, hm13, U', L ++ [s], _, ⟨⟨S1, hT3 hT1, hS3, fun b hb f => ?_⟩, hr, ?_, ?_, fun b hb => ?_, h.base⟩, by simp, hmT.trans hm13⟩
      · rcases hU' b hb with h5 | h5
        · exact hUS b h5 f
        · rcases hS1 b f with h6 | h6
          · have := (h2 b h6).2; omega
          · omega
      · rw [hmap]
        exact insert_perm h.perm k s
      · rw [hmap]
        refine h.srt.insert ?_ ?_ ?_
        · intro x hx
          rw [← List.map_take] at hx
          obtain ⟨y, hy, rfl⟩ := List.mem_map.1 hx
          exact hk1 y hy
        · intro x hx
          rw [List.getElem?_map] at hx
          cases hM : M[k]? with
          | none => rw [hM] at hx; simp at hx
          | some y => rw [hM] at hx; simp at hx; rw [← hx]; exact hk2 y hM
        · rw [h.key]; exact hnk
      · rcases hU' b hb with h5 | h5
        · exact h.ub b h5
        · have t1 := lt_of_block h1.row
          have t2 := h.turns mb (.inl rfl)
          have t3 := h.turns mo (.inr (.inl rfl))
          exact ⟨by omega, by omega, by omega, by omega⟩
end
end Go.Proofs.Ytimbhkbdmcbodaa
