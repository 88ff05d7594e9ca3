/-
  Both tables: Put and Drop of one and then of the other; what is found in one is found in the other.
-/
import Derived.Test.YtimbhkbdmcbodaaRtG
namespace Go.Proofs.Ytimbhkbdmcbodaa
open Go.RowKit
set_option linter.unusedVariables false
set_option linter.unusedSimpArgs false
section
variable {B tb mb mo rb : Nat} {U : Nat → Prop} {w w' : World} {L : List Sess} {M : List SV}
/-- The call of the second behind the call of the first: what both tables come to. -/
theorem both_after {S1 : Nat → Prop} {L' : List Sess} {M' : List SV} {U' : Nat → Prop} {w1 w3 : World} (h : Both B tb mb mo rb U w L M) {S : Nat → Prop} (h1 : Tab w tb mb mo S L) (h2 : ∀ b, S b → B ≤ b ∧ b < w.heap.size) (h3 : ∀ b, U b → ¬ S b)
    (hm1 : Mod (fun b => b = mb ∨ b = mo) w w1) (hS1 : ∀ b, S1 b → S b ∨ (w.heap.size ≤ b ∧ b < w1.heap.size)) (hT1 : Tab w1 tb mb mo S1 L') (hm3 : Mod U w1 w3) (hU' : ∀ b, U' b → U b ∨ (w1.heap.size ≤ b ∧ b < w3.heap.size)) (hr : RTab U' w3 rb M')
    (hp : (M'.map (·.s)).Perm L') (hs : Srt (M'.map (·.s))) (hl : L'.length ≤ L.length + 1) : After B tb mb mo rb U w L w3 := by
  have hmT : Mod (Turns mb mo U) w w1 := hm1.mono (fun b hb => by rcases hb with hb | hb; exact .inl hb; exact .inr (.inl hb))
  have hsz := hm1.size
  have hB : B ≤ w.heap.size := by have := (h.turns mb (.inl rfl)); omega
  have hm13 : Mod (Turns mb mo U) w1 w3 := hm3.mono (fun b hb => .inr (.inr hb))
  have hT3 : Tab w3 tb mb mo S1 L' := by
    refine hT1.keeps (hm3.keeps (fun b hb hs f => ?_))
    rcases hs with hs | hs | hs | hs
    · rcases hS1 b hs with h5 | h5
      · exact h3 b f h5
      · have := h.rtab.lt b f
        omega
    · exact (h.ub b f).2.1 hs
    · exact (h.ub b f).2.2.1 hs
    · exact (h.ub b f).2.2.2 hs
  have hm3s := hm3.size
  refine ⟨U', L', M', ⟨⟨S1, hT3, fun b hb => ?_, fun b hb f => ?_⟩, hr, hp, hs, fun b hb => ?_, h.base⟩, hl, hmT.trans hm13⟩
  · rcases hS1 b hb with h5 | h5
    · have := h2 b h5; omega
    · omega
  · rcases hU' b hb with h5 | h5
    · rcases hS1 b f with h6 | h6
      · exact h3 b h5 h6
      · have := h.rtab.lt b h5; omega
    · rcases hS1 b f with h6 | h6
      · have := (h2 b h6).2; omega
      · omega
  · rcases hU' b hb with h5 | h5
    · exact h.ub b h5
    · have t1 := lt_of_block h1.row
      have t2 := h.turns mb (.inl rfl)
      have t3 := h.turns mo (.inr (.inl rfl))
      exact ⟨by omega, by omega, by omega, by omega⟩

/-! ### Put -/
/-- The program's Put in general. -/
theorem tput_ok {S S0 : Nat → Prop} (h : Tab w tb mb mo S L) (s : Sess) (A : Option Addr) (c : Nat) (hk : s.key.wf) (hx : RowAt S0 w A (ptCells s.peers)) (hpl : s.peers.length ≤ 65536) :
    Calls Try.prog 16 #[.pointer (some ⟨tb, 0, none⟩), s.val A c] w fun e w' => e = .returned (.bool (L.find? (fun x => x.key = s.key)).isSome) ∧ Mod (fun b => b = mb ∨ b = mo) w w' ∧ ∃ S', (∀ b, S' b → S b ∨ (w.heap.size ≤ b ∧ b < w'.heap.size)) ∧ Tab w' tb mb mo S' (lput s L) := by
  cases hf : L.find? (fun x => x.key = s.key) with
  | none =>
    refine (put_miss_ok h s A c hk hf).mono ?_
    rintro e w' ⟨rfl, hm⟩
    rw [lput_none hf]
    exact ⟨rfl, hm.mono (fun _ f => f.elim), S, fun b hb => .inl hb, h.mod hm⟩
  | some x =>
    obtain ⟨j, hj⟩ := List.getElem?_of_mem (List.mem_of_find?_eq_some hf)
    have hkey : x.key = s.key := by simpa using List.find?_some hf
    refine (put_hit_ok h s A c x j hj hkey hx hpl).mono ?_
    rintro e w' ⟨rfl, hm, S', hS', hT⟩
    rw [set_lput h.uniqKey hj hkey] at hT
    exact ⟨rfl, hm.mono (fun _ f => .inl f), S', hS', hT⟩
theorem both_put {S0 : Nat → Prop} (h : Both B tb mb mo rb U w L M) (hl : L.length ≤ 1000) (s : Sess) (A : Option Addr) (c : Nat) (hk : s.key.wf) (hx : RowAt S0 w A (ptCells s.peers)) (hS0 : ∀ b, S0 b → ¬ Turns mb mo U b) (hpl : s.peers.length ≤ 65536) :
    Calls Try.prog 16 #[.pointer (some ⟨tb, 0, none⟩), s.val A c] w fun e w1 => ∃ z, e = .returned (.bool z) ∧ Mod (Turns mb mo U) w w1 ∧
      ∀ w2, Mod No w1 w2 → Calls Try.prog 17 #[.pointer (some ⟨rb, 0, none⟩), s.val A c] w2 fun e w3 => e = .returned (.bool z) ∧ Mod (Turns mb mo U) w1 w3 ∧ After B tb mb mo rb U w L w3 := by
  obtain ⟨S, h1, h2, h3⟩ := h.tab
  refine (tput_ok h1 s A c hk hx hpl).mono ?_
  rintro e w1 ⟨rfl, hm1, S1, hS1, hT1⟩
  have hmT : Mod (Turns mb mo U) w w1 := hm1.mono (fun b hb => by rcases hb with hb | hb; exact .inl hb; exact .inr (.inl hb))
  refine ⟨_, rfl, hmT, fun w2 hm2 => ?_⟩
  have hm12 : Mod (fun b => b = mb ∨ b = mo) w w2 := hm1.trans (hm2.mono (fun _ f => f.elim))
  have hU : ∀ b, U b → ¬ (b = mb ∨ b = mo) := fun b hb f => by rcases f with f | f; exact (h.ub b hb).2.2.1 f; exact (h.ub b hb).2.2.2 f
  have hr2 := h.rtab.mod hm12 hU
  have hlen := h.len
  refine (rput_ok (S0 := S0) hr2 (by omega) s A c (hx.keeps (hm12.keeps (fun b _ hs f => hS0 b hs (by rcases f with f | f; exact .inl f; exact .inr (.inl f))))) hpl).mono ?_
  have hsz2 := hm2.size
  rintro e w3 ⟨he, hm3, h4⟩
  rw [h.key] at he h4
  have hm23 : Mod U w1 w3 := (hm2.mono (fun _ f => f.elim)).trans hm3
  refine ⟨he, hm23.mono (fun b hb => .inr (.inr hb)), ?_⟩
  rcases h4 with ⟨hf, hr⟩ | ⟨U', k, z, A', c', hU', hMk, hzk, hr⟩
  · rw [lput_none hf] at hT1
    exact both_after h h1 h2 h3 hm1 hS1 hT1 hm23 (fun b hb => .inl hb) hr h.perm h.srt (by omega)
  · have hmap : (M.set k ⟨{ s with out := z.s.out }, A', c'⟩).map (·.s) = lput s (M.map (·.s)) := by
      rw [List.map_set]
      exact set_lput h.srt.uniq (by rw [List.getElem?_map, hMk]; rfl) hzk
    refine both_after h h1 h2 h3 hm1 hS1 hT1 hm23 (fun b hb => ?_) hr (by rw [hmap]; exact lput_perm h.perm s) (by rw [hmap]; exact h.srt.lput s) (by simp [lput])
    rcases hU' b hb with h5 | h5
    · exact .inl h5
    · exact .inr (by omega)

/-! ### Drop -/
theorem tdrop_ok {S : Nat → Prop} (h : Tab w tb mb mo S L) (q : Key) (hk : q.wf) :
    Calls Try.prog 18 #[.pointer (some ⟨tb, 0, none⟩), q.val] w fun e w' => e = .returned (.bool (L.find? (fun x => x.key = q)).isSome) ∧ Mod (fun b => b = mb ∨ b = mo) w w' ∧ Tab w' tb mb mo S (ldrop q L) := by
  cases hf : L.find? (fun x => x.key = q) with
  | none =>
    refine (drop_miss_ok h q hk hf).mono ?_
    rintro e w' ⟨rfl, hm⟩
    rw [ldrop_none hf]
    exact ⟨rfl, hm.mono (fun _ f => f.elim), h.mod hm⟩
  | some x =>
    obtain ⟨j, hj⟩ := List.getElem?_of_mem (List.mem_of_find?_eq_some hf)
    have hkey : x.key = q := by simpa using List.find?_some hf
    have hd := drop_hit_ok h x j hj
    rw [hkey] at hd
    refine hd.mono ?_
    rintro e w' ⟨rfl, hm, hT⟩
    rw [erase_ldrop h.uniqKey hj, hkey] at hT
    exact ⟨rfl, hm, hT⟩
theorem both_drop (h : Both B tb mb mo rb U w L M) (hl : L.length ≤ 1000) (q : Key) (hk : q.wf) :
    Calls Try.prog 18 #[.pointer (some ⟨tb, 0, none⟩), q.val] w fun e w1 => ∃ z, e = .returned (.bool z) ∧ Mod (Turns mb mo U) w w1 ∧
      ∀ w2, Mod No w1 w2 → Calls Try.prog 19 #[.pointer (some ⟨rb, 0, none⟩), q.val] w2 fun e w3 => e = .returned (.bool z) ∧ Mod (Turns mb mo U) w1 w3 ∧ After B tb mb mo rb U w L w3 := by
  obtain ⟨S, h1, h2, h3⟩ := h.tab
  refine (tdrop_ok h1 q hk).mono ?_
  rintro e w1 ⟨rfl, hm1, hT1⟩
  have hmT : Mod (Turns mb mo U) w w1 := hm1.mono (fun b hb => by rcases hb with hb | hb; exact .inl hb; exact .inr (.inl hb))
  refine ⟨_, rfl, hmT, fun w2 hm2 => ?_⟩
  have hm12 : Mod (fun b => b = mb ∨ b = mo) w w2 := hm1.trans (hm2.mono (fun _ f => f.elim))
  have hU : ∀ b, U b → ¬ (b = mb ∨ b = mo) := fun b hb f => by rcases f with f | f; exact (h.ub b hb).2.2.1 f; exact (h.ub b hb).2.2.2 f
  have hr2 := h.rtab.mod hm12 hU
  have hlen := h.len
  refine (rdrop_ok hr2 (by omega) q).mono ?_
  have hsz2 := hm2.size
  rintro e w3 ⟨he, hm3, h4⟩
  rw [h.key] at he h4
  have hm23 : Mod U w1 w3 := (hm2.mono (fun _ f => f.elim)).trans hm3
  refine ⟨he, hm23.mono (fun b hb => .inr (.inr hb)), ?_⟩
  rcases h4 with ⟨hf, hr⟩ | ⟨U', k, z, hU', hMk, hzk, hr⟩
  · rw [ldrop_none hf] at hT1
    exact both_after h h1 h2 h3 hm1 (fun b hb => .inl hb) hT1 hm23 (fun b hb => .inl hb) hr h.perm h.srt (by omega)
  · have hmap : (M.eraseIdx k).map (·.s) = ldrop q (M.map (·.s)) := by
      rw [← hzk, ← erase_ldrop h.srt.uniq (j := k) (by rw [List.getElem?_map, hMk]; rfl)]
      simp [List.eraseIdx_eq_take_drop_succ, List.map_take, List.map_drop]
    refine both_after h h1 h2 h3 hm1 (fun b hb => .inl hb) hT1 hm23 (fun b hb => ?_) hr (by rw [hmap]; exact ldrop_perm h.perm q) (by rw [hmap]; exact h.srt.ldrop q) (by have := List.length_filter_le (fun x => decide (x.key ≠ q)) L; simp only [ldrop]; omega)
    rcases hU' b hb with h5 | h5
    · exact .inl h5
    · exact .inr (by omega)
end
end Go.Proofs.Ytimbhkbdmcbodaa
