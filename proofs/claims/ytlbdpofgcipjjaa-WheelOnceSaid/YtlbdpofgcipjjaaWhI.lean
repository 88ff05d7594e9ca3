/-
  The reference's wheel, third part: Tick.
-/
import Derived.Test.YtlbdpofgcipjjaaWhH
namespace Go.Proofs.Ytlbdpofgcipjjaa
open Go.RowKit Go.MapKept Go.ChangeMaps
set_option linter.unusedVariables false
attribute [local go_sem ↓] Go.wp_at_zero Go.wp_at_succ

theorem tw_at {n : Nat} : ∀ {L : List Due} {k : Nat}, (∀ p ∈ L.take k, p.2 ≤ n) → (∀ q, L[k]? = some q → ¬ q.2 ≤ n) → rdue L n = L.take k ∧ rrest L n = L.drop k
  | [], k, _, _ => by simp [rdue, rrest]
  | a :: l, 0, _, h2 => by
    have := h2 a rfl
    simp [rdue, rrest, List.takeWhile_cons, List.dropWhile_cons, this]
  | a :: l, k + 1, h1, h2 => by
    have ha := h1 a (by simp)
    have ih := tw_at (L := l) (k := k) (fun p hp => h1 p (by simp [hp])) (fun q hq => h2 q (by simpa using hq))
    simp only [rdue, rrest] at ih
    simp [rdue, rrest, List.takeWhile_cons, List.dropWhile_cons, ha, ih.1, ih.2]
/-- What is known in the loop: k are told. -/
structure RT (S : Nat → Prop) (w : World) (g now : Nat) (L : List Due) (k : Nat) (v : Value) (wr : World) : Prop where
  le : k ≤ L.length
  blk : ∃ A c, wr.heap[g]? = some (.cells #[.slice A (L.drop k).length c, .int .u32 now] 30 (0, 0)) ∧ (L.drop k).length ≤ c ∧ RowAt (fun b => S b ∧ b < w.heap.size) wr A ((L.drop k).flatMap encD)
  own : wr.ownsRow w.heap.size 3 1 v ((L.take k).map (·.1)).length (((L.take k).map (·.1)).map fun x => Value.int .i64 x)
  mod : Mod (fun j => j = g) w wr
  all : ∀ p ∈ L.take k, p.2 ≤ now
section
variable {S : Nat → Prop} {w w' : World} {g now : Nat} {L : List Due}
theorem RefW.lt (h : RefW S w g now L) : g < w.heap.size := by
  obtain ⟨A, c, hb, _⟩ := h.blk
  exact lt_of_block hb
theorem ref_tick_end (h : RefW S w g now L) (hn : 2147483647 ≤ now) : Calls Try.prog 15 #[.pointer (some ⟨g, 0, none⟩)] w fun e w' => e = .returned (.slice none 0 0) ∧ w' = w := by
  obtain ⟨A, c, hb, hc, hr⟩ := h.blk
  have c1 : w.cell? ⟨g, 1, none⟩ = some (.int .u32 now) := (blk_cell hb 1).trans rfl
  have hn' : decide ((2147483647 : Int) ≤ (now : Int)) = true := by simp; omega
  clear h hb hc hr hn
  go_enter Try.func15, Try.ntmps15
  go_wp2
  go_ret
  exact ⟨rfl, rfl⟩
theorem RT.step {k m cp : Nat} {v v5 : Value} {wr W2 w5 : World} {q : Due} {A3 : Option Addr} (h : RT S w g now L k v wr) (hS : ¬ S g) (hg : g < w.heap.size) (hq : L[k]? = some q) (hqn : q.2 ≤ now) (hm : m = (L.drop k).length) {A1 : Option Addr} (hb1 : wr.heap[g]? = some (.cells #[.slice A1 m cp, .int .u32 now] 30 (0, 0))) (hcp : m ≤ cp) (hr3 : RowAt (fun b => S b ∧ b < w.heap.size) wr A3 (((L.drop k).flatMap encD).drop 2))
    (m2 : Mod No wr W2) (ho : w5.ownsRow w.heap.size 3 1 v5 ((L.take k).map (·.1) ++ [q.1]).length (((L.take k).map (·.1) ++ [q.1]).map fun x => Value.int .i64 x)) (m5 : Mod (fun j => v.ownBlock = some j) W2 w5) (hb5 : v5.ownBlock = v.ownBlock ∨ ∃ j, v5.ownBlock = some j ∧ W2.heap.size ≤ j) : RT S w g now L (k + 1) v5 (w5.setCell ⟨g, 0, none⟩ (.slice A3 (m - 1) (cp - 1))) := by
  obtain ⟨hkl, hqe⟩ := List.getElem?_eq_some_iff.1 hq
  have htk : L.take (k + 1) = L.take k ++ [q] := by rw [List.take_succ_eq_append_getElem hkl, hqe]
  have hown := h.own.lt
  have hz := h.mod.size
  have hz2 := m2.size
  have hl : (L.drop (k + 1)).length = m - 1 := by rw [hm, List.length_drop, List.length_drop]; omega
  have mS : Mod (fun j => j = g) w5 (w5.setCell ⟨g, 0, none⟩ (.slice A3 (m - 1) (cp - 1))) := Mod.setCell (F := fun j => j = g) (Mod.refl _ _) (p := ⟨g, 0, none⟩) (.inr rfl) _
  have hne : ¬ v.ownBlock = some g := fun f => by have := (hown _ f).1; omega
  have hg5 := m5.obj (m2.obj hb1 (fun f => f)) hne
  refine ⟨hkl, ⟨A3, cp - 1, ?_, by rw [hl]; omega, ?_⟩, ?_, ?_, ?_⟩
  · rw [hl]
    simp only [World.setCell]
    rw [Array.getElem?_modify, if_pos rfl, hg5]
    rfl
  · have e : ((L.drop k).flatMap encD).drop 2 = (L.drop (k + 1)).flatMap encD := by
      have := flat_drop (L.drop k) 1 (by rw [List.length_drop]; omega)
      rw [List.drop_drop] at this
      exact this
    rw [e] at hr3
    exact ((hr3.keeps (m2.keeps (fun _ _ _ f => f))).keeps (m5.keeps (fun b _ hs f => by have := (hown _ f).1; omega))).keeps (mS.keeps (fun b _ hs f => hS (by subst f; exact hs.1)))
  · rw [htk, List.map_append]
    refine own_mod ho mS (fun j hj f => ?_)
    subst f
    rcases hb5 with e | ⟨j', e, hj'⟩
    · exact hne (e ▸ hj)
    · rw [e] at hj
      cases hj
      omega
  · exact ((h.mod.trans (m2.mono (fun _ f => f.elim))).trans' m5 (fun i hi f => by have := (hown _ f).1; omega)).trans mS
  · rw [htk]
    intro p hp
    rcases List.mem_append.1 hp with h1 | h1
    · exact h.all p h1
    · simp at h1; subst h1; exact hqn
def RTPost (S : Nat → Prop) (w : World) (g now : Nat) (L : List Due) (e : Ending) (w' : World) : Prop :=
  ∃ A c, e = .returned (.slice A (rdue L (now + 1)).length c) ∧ RowAt (fun b => w.heap.size ≤ b) w' A ((rdue L (now + 1)).map fun p => Value.int .i64 p.1) ∧ RefW S w' g (now + 1) (rrest L (now + 1)) ∧ Mod (fun j => j = g) w w'
set_option maxHeartbeats 2000000 in
theorem ref_tick_ok (h : RefW S w g now L) (hn : now < 2147483647) (hl : L.length ≤ 1000000) : Calls Try.prog 15 #[.pointer (some ⟨g, 0, none⟩)] w (RTPost S w g now L) := by
  obtain ⟨A, c, hb, hc, hr⟩ := h.blk
  have c1 : w.cell? ⟨g, 1, none⟩ = some (.int .u32 now) := (blk_cell hb 1).trans rfl
  have f1 : w.frozen? ⟨g, 1, none⟩ = false := blk_free hb 1
  have hn' : decide ((2147483647 : Int) ≤ (now : Int)) = false := by simp; omega
  have hmod : ((now : Int) + 1) % 4294967296 = (now : Int) + 1 := by omega
  have HN := Lib.hid (And.intro hn hl)
  have HW := Lib.hid h
  have HB := Lib.hid hb
  have HC := Lib.hid (And.intro hc hr)
  clear h hb hc hr hn hl
  go_enter Try.func15, Try.ntmps15
  go_upto_region 4 with fail
  obtain ⟨y, hy⟩ : ∃ y : Int, y = ((now + 1 : Nat) : Int) := ⟨_, rfl⟩
  have hy1 : (now : Int) + 1 = y := by rw [hy]; simp
  simp only [hmod, hy1]
  have HY := Lib.hid (And.intro hy hy1)
  clear hmod hy hy1 hn'
  go_wp2
  go_loopg [3] L.length (fun k' v wr => ∃ k : Nat, k' + k = L.length ∧ RT S w g (now + 1) L k v wr)
  case atStart =>
    refine ⟨0, by omega, Nat.zero_le _, ⟨A, c, ?_, HC.out.1, ?_⟩, ⟨rfl, .inl ⟨rfl, rfl⟩⟩, Mod.setCell (F := fun j => j = g) (Mod.refl _ _) (p := ⟨g, 1, none⟩) (.inr rfl) _, by simp⟩
    · simp only [World.setCell]
      rw [Array.getElem?_modify, if_pos rfl, HB.out, HY.out.1]
      rfl
    · have m1 : Mod (fun j => j = g) w (w.setCell ⟨g, 1, none⟩ (.int .u32 y)) := Mod.setCell (F := fun j => j = g) (Mod.refl _ _) (p := ⟨g, 1, none⟩) (.inr rfl) _
      exact (HC.out.2.keeps (m1.keeps (fun b _ hs f => HW.out.ng (by subst f; exact hs)))).mono (fun b hb hs => ⟨hs, by simpa [World.setCell] using hb⟩)
  case round =>
    obtain ⟨k, hk, hT⟩ := hrel
    obtain ⟨A1, cp, hb1, hcp, hr1⟩ := hT.blk
    obtain ⟨m, hm⟩ : ∃ m, m = (L.drop k).length := ⟨_, rfl⟩
    rw [← hm] at hb1 hcp
    have d0 : wr.cell? ⟨g, 0, none⟩ = some (.slice A1 m cp) := (blk_cell hb1 0).trans rfl
    have d1 : wr.cell? ⟨g, 1, none⟩ = some (.int .u32 y) := by rw [HY.out.1]; exact (blk_cell hb1 1).trans rfl
    have hml : m ≤ 1000000 := by have := HN.out.2; rw [List.length_drop] at hm; omega
    have HT := Lib.hid hT
    have HK := Lib.hid (And.intro hk hm)
    have HB1 := Lib.hid hb1
    clear c1 f1 hk hm hT hb1
    by_cases hstep : ∃ q, L[k]? = some q ∧ q.2 ≤ now + 1
    · as_aux_lemma =>
      obtain ⟨q, hq, hqn⟩ := hstep
      have hkl := (List.getElem?_eq_some_iff.1 hq).1
      have hq0 : (L.drop k)[0]? = some q := by rw [List.getElem?_drop]; exact hq
      obtain ⟨b, o, rfl, hbs, hbl, hcell⟩ := RowAt.elem encD 2 encD_len (by decide) hr1 hq0
      have ce0 := hcell 0 _ rfl
      have ce1 := hcell 1 _ rfl
      simp only [Nat.zero_mul, Nat.add_zero] at ce0 ce1
      obtain ⟨x, hx⟩ : ∃ x : Int, x = (q.2 : Int) := ⟨_, rfl⟩
      rw [← hx] at ce1
      have hm0 : 0 < m := by have := HK.out.2; rw [List.length_drop] at this; omega
      have ht : decide (x ≤ y) = true := by have := HY.out.1; simp; omega
      have hm1 : decide ((0 : Int) < (m : Int)) = true := by simpa using hm0
      obtain ⟨A3, hs3, hr3⟩ := slice_tail (P := Try.prog) 28 _ 2 Try.underlying28 elemDue sizeRDue (some ⟨b, o, none⟩) m cp 1 hm0 hcp
      have hs3' : ∀ W, (Instr.slice 28 (.slice (some ⟨b, o, none⟩) m cp) (some (.int .i64 1)) none none).run Try.prog W = .ok (.slice A3 (m - 1) (cp - 1)) W := hs3
      have HQ := Lib.hid (And.intro hq hqn)
      have HR3 := Lib.hid (And.intro hr1 hr3)
      have HCP := Lib.hid hcp
      clear hq hqn hkl hq0 hcell hx hs3 hr1 hr3
      go_upto_region 5 with fail
      go_quiet (fail)
      obtain ⟨W2, hW2⟩ : ∃ W2, W2 = wr.drewN nq := ⟨_, rfl⟩
      rw [← hW2]
      have mW2 : Mod No wr W2 := by rw [hW2]; exact (Mod.refl No wr).drewN nq
      have d0' := mW2.cell d0 (fun f => f)
      have ce0' := mW2.cell ce0 (fun f => f)
      have hT := HT.out
      have hgl := HW.out.lt
      have happ := app_int (own_mod hT.own mW2 (fun _ _ f => f)) (by rw [List.length_map, List.length_take]; have := HN.out.2; omega) (by have := hT.mod.size; have := mW2.size; omega) q.1 3 36
      have hg : ∀ w5, Mod (fun j => u3.ownBlock = some j) W2 w5 → w5.cell? ⟨g, 0, none⟩ = some (.slice (some ⟨b, o, none⟩) m cp) ∧ w5.frozen? ⟨g, 0, none⟩ = false := fun w5 h5 => by
        have hne : ¬ u3.ownBlock = some g := fun f => by have := (hT.own.lt g f).1; omega
        have h6 := h5.obj (mW2.obj HB1.out (fun f => f)) hne
        exact ⟨(blk_cell h6 0).trans rfl, blk_free h6 0⟩
      have HAP := Lib.hid happ
      have HG := Lib.hid hg
      have MW := Lib.hid mW2
      clear hW2 mW2 hT hgl happ hg d0 d1 ce0 ce1
      go_wp2_with (at_builtin; obtain ⟨v5, w5, hrun, ho5, hm5, hb5⟩ := HAP.out; obtain ⟨cg5, fg5⟩ := HG.out w5 hm5; refine Lib.wpList_append_run _ (by rfl) _ _ _ _ (by rfl) _ _ (by rfl) (by rfl) _ _ hrun ?_)
      obtain ⟨hk, hm⟩ := HK.out
      obtain ⟨hq, hqn⟩ := HQ.out
      obtain ⟨hr1, hr3⟩ := HR3.out
      have hkl := (List.getElem?_eq_some_iff.1 hq).1
      go_roundg (L.length - (k + 1))
      case measure => omega
      case rel => exact ⟨k + 1, by omega, RT.step HT.out HW.out.ng HW.out.lt hq hqn hm HB1.out HCP.out (hr3 _ _ _ (by rw [lt_flat, hm]) hr1) MW.out ho5 hm5 hb5⟩
    · as_aux_lemma =>
      have hno : ∀ q, L[k]? = some q → ¬ q.2 ≤ now + 1 := fun q hq hd => hstep ⟨q, hq, hd⟩
      have HNO := Lib.hid hno
      clear hno hstep
      have hown := HT.out.own
      obtain ⟨Ao, co, rfl, hnc, hrow⟩ := RowAt.of_owns hown
      have HR := Lib.hid (And.intro hr1 hrow)
      clear hown hnc hrow
      by_cases hm0 : 0 < m
      · have hkl : k < L.length := by have := HK.out.2; rw [List.length_drop] at this; omega
        obtain ⟨q, hq⟩ : ∃ q, L[k]? = some q := ⟨_, List.getElem?_eq_getElem hkl⟩
        have hq0 : (L.drop k)[0]? = some q := by rw [List.getElem?_drop]; exact hq
        obtain ⟨b, o, rfl, hbs, hbl, hcell⟩ := RowAt.elem encD 2 encD_len (by decide) hr1 hq0
        have ce1 := hcell 1 _ rfl
        simp only [Nat.zero_mul, Nat.add_zero] at ce1
        obtain ⟨x, hx⟩ : ∃ x : Int, x = (q.2 : Int) := ⟨_, rfl⟩
        rw [← hx] at ce1
        have ht : decide (x ≤ y) = false := by have := HY.out.1; have := HNO.out q hq; simp; omega
        have hm1 : decide ((0 : Int) < (m : Int)) = true := by simpa using hm0
        clear hq hkl hq0 hcell hx hr1
        go_upto_region 5 with fail
        go_quiet (fail)
        go_wp2
        go_ret
        have hT := HT.out
        have hm := HK.out.2
        obtain ⟨hr1, hrow⟩ := HR.out
        obtain ⟨e1, e2⟩ := tw_at hT.all HNO.out
        have e3 : (rdue L (now + 1)).length = k := by have := hT.le; rw [e1, List.length_take]; omega
        have mq : Mod No wr (wr.drewN nq) := (Mod.refl No wr).drewN nq
        have hob := mq.obj HB1.out (fun f => f)
        rw [hm, ← e2] at hob
        refine ⟨Ao, co, ?_, ?_, ⟨⟨_, cp, hob, ?_, ?_⟩, HW.out.ng, fun b hb => HW.out.new b (by have := hT.mod.size; have := mq.size; omega)⟩, hT.mod.trans (mq.mono (fun _ f => f.elim))⟩
        · have e4 : ((L.take k).map (·.1)).length = k := by have := hT.le; rw [List.length_map, List.length_take]; omega
          rw [e3]
          show Ending.returned (Value.slice Ao _ co) = _
          rw [e4]
        · rw [e1]
          rw [List.map_map] at hrow
          exact hrow.keeps (mq.keeps (fun _ _ _ f => f))
        · rw [e2, ← hm]; exact hcp
        · rw [e2]
          exact (hr1.keeps (mq.keeps (fun _ _ _ f => f))).mono (fun b _ hb => hb.1)
      · have hm1 : decide ((0 : Int) < (m : Int)) = false := by simp; omega
        have hm2 : decide (0 < m) = false := by simpa using hm0
        clear hm0 hr1
        go_upto_region 5 with fail
        go_quiet (fail)
        go_wp2
        go_ret
        have hT := HT.out
        have hm := HK.out.2
        obtain ⟨hr1, hrow⟩ := HR.out
        obtain ⟨e1, e2⟩ := tw_at hT.all HNO.out
        have e3 : (rdue L (now + 1)).length = k := by have := hT.le; rw [e1, List.length_take]; omega
        have mq : Mod No wr (wr.drewN nq) := (Mod.refl No wr).drewN nq
        have hob := mq.obj HB1.out (fun f => f)
        rw [hm, ← e2] at hob
        refine ⟨Ao, co, ?_, ?_, ⟨⟨_, cp, hob, ?_, ?_⟩, HW.out.ng, fun b hb => HW.out.new b (by have := hT.mod.size; have := mq.size; omega)⟩, hT.mod.trans (mq.mono (fun _ f => f.elim))⟩
        · have e4 : ((L.take k).map (·.1)).length = k := by have := hT.le; rw [List.length_map, List.length_take]; omega
          rw [e3]
          show Ending.returned (Value.slice Ao _ co) = _
          rw [e4]
        · rw [e1]
          rw [List.map_map] at hrow
          exact hrow.keeps (mq.keeps (fun _ _ _ f => f))
        · rw [e2, ← hm]; exact hcp
        · rw [e2]
          exact (hr1.keeps (mq.keeps (fun _ _ _ f => f))).mono (fun b _ hb => hb.1)
end

end Go.Proofs.Ytlbdpofgcipjjaa
