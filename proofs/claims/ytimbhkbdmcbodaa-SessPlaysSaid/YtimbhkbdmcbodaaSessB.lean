/-
  Package sess, second part: slices.Clone at points, of, copied, lychhelp.Sess, the tables' small calls.
-/
import Derived.Test.YtimbhkbdmcbodaaSessA
import Derived.Deep.RegionHeld3
import Derived.Deep.DeepCutAuto
namespace Go.Proofs.Ytimbhkbdmcbodaa
open Go.RowKit
set_option linter.unusedVariables false

theorem infoPoint : (Try.prog.info? 26).map (fun i => (i.zero, i.size, i.bytes)) = some (some (.agg #[.int .u32 0, .int .u16 0]), 2, 8) := by kernel_rfl

/-! ### slices.Clone -/
theorem clone_nil (n c : Nat) (w : World) : Calls Try.prog 38 #[.slice none n c] w fun e w' => e = .returned (.slice none 0 0) ∧ w' = w := by
  have h := fun (w : World) => Lib.run_eql_slice_nil (P := Try.prog) w 22 26 none n c 0 0 Try.underlying22
  go_enter Try.func38, Try.ntmps38
  go_wp2
  go_ret
  exact ⟨rfl, rfl⟩
theorem clone_some {S : Nat → Prop} (a : Addr) (c : Nat) (l : List Point) (w : World) (hx : RowAt S w (some a) (ptCells l)) (hl : l.length ≤ 65536) (n : Nat) (hn : n = l.length) :
    Calls Try.prog 38 #[.slice (some a) n c] w fun e w' => ∃ v, e = .returned v ∧ w'.ownsRow w.heap.size 26 2 v n (ptCells l) ∧ Mod No w w' := by
  have h := fun (w : World) => Lib.run_eql_slice_nil (P := Try.prog) w 22 26 (some a) n c 0 0 Try.underlying22
  obtain ⟨i0, hi, hz0, hz1, hz2⟩ := info_parts infoPoint
  have hlen : (ptCells l).length = n * 2 := by rw [ptCells_length, hn]
  have hone : ∀ u ∈ ptCells l, u.oneCell' = true := by
    intro u hu
    obtain ⟨p, _, hp⟩ := List.mem_flatMap.1 hu
    simp only [Point.cells, List.mem_cons, List.not_mem_nil, or_false] at hp
    rcases hp with rfl | rfl <;> rfl
  have hnews : ∀ j u, (ptCells l)[j]? = some u → (w.alloc (.cells #[] 26)).cell? (a.add j) = some u := by
    intro j u hu
    rcases hx with h0 | ⟨b', o', e, _, hc⟩
    · rw [h0] at hu; simp at hu
    · cases e
      rw [Addr.add_lit]
      exact (Mod.alloc (Mod.refl No w) _).cell (hc j u hu) id
  have hb1 : n ≤ maxLen := by unfold maxLen; omega
  have hb2 : (0 + n) * 8 ≤ 140737488355328 := by omega
  have hown := World.ownsRow_made (base := w.heap.size) (e := 26) (size := 2) w #[] 0 (Nat.le_refl _) (Nat.zero_le _) rfl
  have HN := Lib.hid hn
  have HL := Lib.hid hlen
  have HW := Lib.hid hnews
  have HO := Lib.hid hone
  have HB := Lib.hid (And.intro hb1 hb2)
  clear hl hn hlen hnews hone hb1 hb2
  go_enter Try.func38, Try.ntmps38
  go_wp2_with (at_builtin; refine wpList_append_own _ rfl _ _ 22 rfl w.heap.size 26 i0 (.agg #[.int .u32 0, .int .u16 0]) 2 8 Try.underlying22 hi hz0 hz1 hz2 rfl (by decide) _ 0 [] rfl hown a n c (ptCells l) rfl HL.out HW.out HO.out (by have := HB.out.1; omega) HB.out.2 (by simp) ?_; intro v' w1 hown1 hgrow1 hnil1)
  have hm1 : Mod No w w1 := Mod.grown ((Mod.refl No w).alloc (.cells #[] 26)) hgrow1 (fun k hk => by cases hk; exact .inl (Nat.le_refl _))
  rw [Nat.zero_add, List.nil_append] at hown1
  go_wp2
  go_ret
  exact ⟨v', rfl, hown1, hm1⟩
theorem clone_own {S : Nat → Prop} (A : Option Addr) (c : Nat) (l : List Point) (w : World) (hx : RowAt S w A (ptCells l)) (hl : l.length ≤ 65536) :
    Calls Try.prog 38 #[.slice A l.length c] w fun e w' => ∃ v, e = .returned v ∧ w'.ownsRow w.heap.size 26 2 v l.length (ptCells l) ∧ Mod No w w' := by
  cases A with
  | none =>
    have hn : l = [] := by
      cases l with
      | nil => rfl
      | cons p l => rcases hx with h | ⟨b, o, e, _⟩ <;> simp [ptCells, Point.cells] at *
    subst hn
    exact (clone_nil 0 c w).mono fun e w' ⟨he, hw⟩ => ⟨_, he, World.ownsRow_nil _ _ _ _, hw ▸ Mod.refl _ _⟩
  | some a =>
    exact clone_some a c l w hx hl _ rfl
theorem clone_ok {S : Nat → Prop} (A : Option Addr) (c : Nat) (l : List Point) (w : World) (hx : RowAt S w A (ptCells l)) (hl : l.length ≤ 65536) :
    Calls Try.prog 38 #[.slice A l.length c] w fun e w' => ∃ A' c', e = .returned (.slice A' l.length c') ∧ l.length ≤ c' ∧ RowAt (fun b => w.heap.size ≤ b) w' A' (ptCells l) ∧ Mod No w w' := by
  refine (clone_own A c l w hx hl).mono ?_
  rintro e w1 ⟨v, rfl, hown, hm⟩
  obtain ⟨A', c', rfl, hc', hr⟩ := RowAt.of_owns hown
  exact ⟨A', c', rfl, hc', hr, hm⟩

/-! ### of, copied -/
theorem of_ok (s : Sess) (A : Option Addr) (c : Nat) (w : World) : Calls Try.prog 28 #[s.val A c] w fun e w' => e = .returned s.of.val ∧ Mod No w w' := by
  unfold Sess.val
  go_enter Try.func28, Try.ntmps28
  go_wp2
  exact bodyPost_ret (v := s.of.val) (by simp [results, Try.results28, go_sem, Sess.of, Key.val]) rfl ⟨rfl, ((Mod.refl _ _).alloc _).alloc _⟩
theorem copied_ok {S : Nat → Prop} (s : Sess) (A : Option Addr) (c : Nat) (w : World) (hx : RowAt S w A (ptCells s.peers)) (hl : s.peers.length ≤ 65536) :
    Calls Try.prog 29 #[s.val A c] w fun e w' => ∃ v, e = .returned v ∧ SessV (fun b => w.heap.size ≤ b) w' s v ∧ Mod No w w' := by
  have HL := Lib.hid hl
  clear hl
  unfold Sess.val
  go_enter Try.func29, Try.ntmps29
  go_wp2_with fail
  refine (clone_ok (S := fun b => S b ∧ b < w.heap.size) A c s.peers _ (RowAt.keeps ((hx.mono (fun b hb hs => ⟨hs, hb⟩))) (Mod.keeps (((Mod.refl No _).alloc _).alloc _) (fun _ _ _ => id))) HL.out).mono ?_
  rintro e w1 ⟨A', c', rfl, hc', hr, hm⟩
  have B0 := hm.obj (at20 w _ _) id
  have B1 := hm.obj (at21 w _ _) id
  have hm' : Mod No w w1 := (((Mod.refl No w).alloc _).alloc _).trans hm
  have hr' : RowAt (fun b => w.heap.size + 2 ≤ b) w1 A' (ptCells s.peers) := hr.mono (fun b _ h => by simpa using h)
  have HR := Lib.hid hr'
  have HM := Lib.hid hm'
  have k0 := blk_cell B0
  have k1 := blk_cell B1
  have f0 := blk_free B0
  have f1 := blk_free B1
  have z1 := lt_of_block B1
  clear hr hr' hm hm' hx B0 B1
  go_wp2
  refine bodyPost_ret (v := s.val A' c') (by simp [results, Try.results29, go_sem, Sess.val, k1]) rfl ⟨_, rfl, ⟨A', c', rfl, ?_⟩, ?_⟩
  · refine RowAt.mono (S := fun b => w.heap.size + 2 ≤ b) (HR.out.keeps (Mod.keeps (F := fun b => b < w.heap.size + 2) ?_ (fun b _ hb => by show ¬ b < _; omega))) (fun b _ hb => by show _ ≤ b; omega)
    repeat (first | with_reducible exact Mod.refl _ _ | refine Mod.setCell ?_ (.inr (by simp)) _)
  · repeat (first | with_reducible exact HM.out | refine Mod.setCell ?_ (.inl (by simp)) _)

/-! ### lychhelp.Sess -/
theorem key_beq (p q : Key) : (p.proto == q.proto && (p.pt.ip == q.pt.ip && p.pt.port == q.pt.port)) = decide (p = q) := by
  obtain ⟨a, b⟩ := p
  obtain ⟨c, d⟩ := q
  rw [point_beq]
  by_cases h1 : a = c <;> by_cases h2 : b = d <;> simp [h1, h2]
theorem helpSess_ok {S S' : Nat → Prop} (s t : Sess) (A B : Option Addr) (c d : Nat) (w : World) (hx : RowAt S w A (ptCells s.peers)) (hy : RowAt S' w B (ptCells t.peers)) (hl : s.peers.length ≤ 65536) :
    Calls Try.prog 22 #[s.val A c, t.val B d] w fun e w' => e = .returned (.bool (decide (s = t))) ∧ Mod No w w' := by
  have hp : ∀ w', Mod No w w' → Calls Try.prog 9 #[.slice A s.peers.length c, .slice B t.peers.length d] w' fun e w'' => e = .returned (.bool (decide (s.peers = t.peers))) ∧ Mod No w' w'' := fun w' h =>
    (points_ok A B c d s.peers t.peers w' (hx.keeps (h.keeps (fun _ _ _ => id))) (hy.keeps (h.keeps (fun _ _ _ => id))) (by omega)).mono fun e w'' ⟨he, n, hw⟩ => ⟨he, hw ▸ (Mod.refl _ _).drewN n⟩
  have HP := Lib.hid hp
  clear hx hy hp hl
  have e1 := key_beq s.key t.key
  have e2 := point_beq s.out t.out
  obtain ⟨r, hr⟩ : ∃ r, r = decide (s = t) := ⟨_, rfl⟩
  rw [← hr]
  have HR : Hid (r = (decide (s.key = t.key) && (decide (s.out = t.out) && (decide (s.gen = t.gen) && (decide (s.peers = t.peers) && (decide (s.state = t.state) && decide (s.til = t.til))))))) := by
    show r = _
    obtain ⟨a1, a2, a3, a4, a5, a6⟩ := s
    obtain ⟨b1, b2, b3, b4, b5, b6⟩ := t
    rw [hr]
    by_cases h1 : a1 = b1 <;> by_cases h2 : a2 = b2 <;> by_cases h3 : a3 = b3 <;> by_cases h4 : a4 = b4 <;> by_cases h5 : a5 = b5 <;> by_cases h6 : a6 = b6 <;> simp [h1, h2, h3, h4, h5, h6]
  clear hr
  generalize g1 : decide (s.key = t.key) = q1 at *
  generalize g2 : decide (s.out = t.out) = q2 at *
  unfold Sess.val
  have hgen : (s.gen == t.gen) = decide (s.gen = t.gen) := by by_cases h : s.gen = t.gen <;> simp [h]
  have hst : (s.state == t.state) = decide (s.state = t.state) := by by_cases h : s.state = t.state <;> simp [h]
  have htl : (s.til == t.til) = decide (s.til = t.til) := by by_cases h : s.til = t.til <;> simp [h]
  generalize g3 : decide (s.gen = t.gen) = q3 at *
  generalize g4 : decide (s.peers = t.peers) = q4 at *
  generalize g5 : decide (s.state = t.state) = q5 at *
  generalize g6 : decide (s.til = t.til) = q6 at *
  clear g1 g2 g3 g4 g5 g6
  cases q1
  · (
      go_enter Try.func22, Try.ntmps22
      go_wp2_with (go_at_call 9; refine (HP.out _ (((Mod.refl _ _).alloc _).alloc _)).mono ?_; rintro e w1 ⟨rfl, hm⟩; have B0 := hm.obj (at20 w _ _) id; have B1 := hm.obj (at21 w _ _) id; have k0 := blk_cell B0; have k1 := blk_cell B1; have HM := Lib.hid (((((Mod.refl No w).alloc _).alloc _)).trans hm); clear hm B0 B1)
      go_ret
      exact ⟨by rw [HR.out]; rfl, by first | exact HM.out | exact ((Mod.refl _ _).alloc _).alloc _⟩)
  cases q2
  · (
      go_enter Try.func22, Try.ntmps22
      go_wp2_with (go_at_call 9; refine (HP.out _ (((Mod.refl _ _).alloc _).alloc _)).mono ?_; rintro e w1 ⟨rfl, hm⟩; have B0 := hm.obj (at20 w _ _) id; have B1 := hm.obj (at21 w _ _) id; have k0 := blk_cell B0; have k1 := blk_cell B1; have HM := Lib.hid (((((Mod.refl No w).alloc _).alloc _)).trans hm); clear hm B0 B1)
      go_ret
      exact ⟨by rw [HR.out]; rfl, by first | exact HM.out | exact ((Mod.refl _ _).alloc _).alloc _⟩)
  cases q3
  · (
      go_enter Try.func22, Try.ntmps22
      go_wp2_with (go_at_call 9; refine (HP.out _ (((Mod.refl _ _).alloc _).alloc _)).mono ?_; rintro e w1 ⟨rfl, hm⟩; have B0 := hm.obj (at20 w _ _) id; have B1 := hm.obj (at21 w _ _) id; have k0 := blk_cell B0; have k1 := blk_cell B1; have HM := Lib.hid (((((Mod.refl No w).alloc _).alloc _)).trans hm); clear hm B0 B1)
      go_ret
      exact ⟨by rw [HR.out]; rfl, by first | exact HM.out | exact ((Mod.refl _ _).alloc _).alloc _⟩)
  cases q4
  · (
      go_enter Try.func22, Try.ntmps22
      go_wp2_with (go_at_call 9; refine (HP.out _ (((Mod.refl _ _).alloc _).alloc _)).mono ?_; rintro e w1 ⟨rfl, hm⟩; have B0 := hm.obj (at20 w _ _) id; have B1 := hm.obj (at21 w _ _) id; have k0 := blk_cell B0; have k1 := blk_cell B1; have HM := Lib.hid (((((Mod.refl No w).alloc _).alloc _)).trans hm); clear hm B0 B1)
      go_ret
      exact ⟨by rw [HR.out]; rfl, by first | exact HM.out | exact ((Mod.refl _ _).alloc _).alloc _⟩)
  cases q5
  · (
      go_enter Try.func22, Try.ntmps22
      go_wp2_with (go_at_call 9; refine (HP.out _ (((Mod.refl _ _).alloc _).alloc _)).mono ?_; rintro e w1 ⟨rfl, hm⟩; have B0 := hm.obj (at20 w _ _) id; have B1 := hm.obj (at21 w _ _) id; have k0 := blk_cell B0; have k1 := blk_cell B1; have HM := Lib.hid (((((Mod.refl No w).alloc _).alloc _)).trans hm); clear hm B0 B1)
      go_ret
      exact ⟨by rw [HR.out]; rfl, by first | exact HM.out | exact ((Mod.refl _ _).alloc _).alloc _⟩)
  cases q6
  · (
      go_enter Try.func22, Try.ntmps22
      go_wp2_with (go_at_call 9; refine (HP.out _ (((Mod.refl _ _).alloc _).alloc _)).mono ?_; rintro e w1 ⟨rfl, hm⟩; have B0 := hm.obj (at20 w _ _) id; have B1 := hm.obj (at21 w _ _) id; have k0 := blk_cell B0; have k1 := blk_cell B1; have HM := Lib.hid (((((Mod.refl No w).alloc _).alloc _)).trans hm); clear hm B0 B1)
      go_ret
      exact ⟨by rw [HR.out]; rfl, by first | exact HM.out | exact ((Mod.refl _ _).alloc _).alloc _⟩)
  (
      go_enter Try.func22, Try.ntmps22
      go_wp2_with (go_at_call 9; refine (HP.out _ (((Mod.refl _ _).alloc _).alloc _)).mono ?_; rintro e w1 ⟨rfl, hm⟩; have B0 := hm.obj (at20 w _ _) id; have B1 := hm.obj (at21 w _ _) id; have k0 := blk_cell B0; have k1 := blk_cell B1; have HM := Lib.hid (((((Mod.refl No w).alloc _).alloc _)).trans hm); clear hm B0 B1)
      go_ret
      exact ⟨by rw [HR.out]; rfl, by first | exact HM.out | exact ((Mod.refl _ _).alloc _).alloc _⟩)
end Go.Proofs.Ytimbhkbdmcbodaa
