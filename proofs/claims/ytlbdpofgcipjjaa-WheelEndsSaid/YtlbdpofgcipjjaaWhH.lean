/-
  The reference's wheel, second part: Set.
-/
import Derived.Test.YtlbdpofgcipjjaaWhG
import Derived.Deep.CutBlock
import Derived.Deep.DeepCutAuto
namespace Go.Proofs.Ytlbdpofgcipjjaa
open Go.RowKit Go.MapKept Go.ChangeMaps
set_option linter.unusedVariables false
attribute [local go_sem ↓] Go.wp_at_zero Go.wp_at_succ

theorem rins_at {d : Due} : ∀ {L : List Due} {k : Nat}, (∀ p ∈ L.take k, dlt p d) → (∀ q, L[k]? = some q → ¬ dlt q d) → rins L d = L.take k ++ d :: L.drop k
  | [], k, _, _ => by simp [rins]
  | a :: l, 0, _, h2 => by
    unfold rins
    rw [if_neg (h2 a rfl)]
    rfl
  | a :: l, k + 1, h1, h2 => by
    unfold rins
    rw [if_pos (h1 a (by simp)), rins_at (k := k) (fun p hp => h1 p (by simp [hp])) (fun q hq => h2 q (by simpa using hq))]
    rfl
theorem flat_take (L : List Due) (k : Nat) (hk : k ≤ L.length) : (L.flatMap encD).take (k * 2) = (L.take k).flatMap encD := by
  have e1 : L.flatMap encD = (L.take k).flatMap encD ++ (L.drop k).flatMap encD := by rw [← List.flatMap_append, List.take_append_drop]
  have e2 : ((L.take k).flatMap encD).length = k * 2 := by rw [lt_flat, List.length_take]; omega
  rw [e1, List.take_append_of_le_length (by omega), List.take_of_length_le (by omega)]
theorem flat_drop (L : List Due) (k : Nat) (hk : k ≤ L.length) : (L.flatMap encD).drop (k * 2) = (L.drop k).flatMap encD := by
  have e1 : L.flatMap encD = (L.take k).flatMap encD ++ (L.drop k).flatMap encD := by rw [← List.flatMap_append, List.take_append_drop]
  have e2 : ((L.take k).flatMap encD).length = k * 2 := by rw [lt_flat, List.length_take]; omega
  rw [e1, List.drop_append_of_le_length (by omega), List.drop_of_length_le (by omega), List.nil_append]
theorem take_all {d : Due} {L : List Due} {k : Nat} {q : Due} (hq : L[k]? = some q) (h : ∀ p ∈ L.take k, dlt p d) (hl : dlt q d) : ∀ p ∈ L.take (k + 1), dlt p d := by
  obtain ⟨hlt, e⟩ := List.getElem?_eq_some_iff.1 hq
  rw [List.take_succ_eq_append_getElem hlt, e]
  intro p hp
  rcases List.mem_append.1 hp with h1 | h1
  · exact h p h1
  · simp at h1; subst h1; exact hl
section
variable {S : Nat → Prop} {w w' : World} {g now : Nat} {L : List Due}
set_option maxHeartbeats 2000000 in
theorem ref_set_ok (h0 : RefW S w g now L) (hok : DOk L) (hl0 : L.length ≤ 1000000) (id : Int) (a : Nat) : Calls Try.prog 10 #[.pointer (some ⟨g, 0, none⟩), .int .i64 id, .int .u32 (a : Int)] w fun e w' => e = .returned (.tuple #[]) ∧ RefW S w' g now (rset L id a) ∧ Mod (fun j => j = g) w w' := by
  have hd := ref_drop_ok h0 hok hl0 id
  have hlr : (rdrop L id).length ≤ 1000000 := by have : (rdrop L id).length ≤ L.length := List.length_filter_le _ _; omega
  unfold rset
  generalize rdrop L id = L1 at *
  have HD := Lib.hid hd
  obtain ⟨y, hy⟩ : ∃ y : Int, y = (a : Int) := ⟨_, rfl⟩
  rw [← hy]
  have HY := Lib.hid hy
  clear hd h0 hok hl0 hy
  go_enter Try.func10, Try.ntmps10
  go_upto_region 1 with (go_at_call 12; refine HD.out.mono ?_; rintro e w1 ⟨rfl, hW, hM⟩)
  obtain ⟨A, c, hb, hc, hr⟩ := hW.blk
  obtain ⟨n, hn⟩ : ∃ n, n = L1.length := ⟨_, rfl⟩
  have c0 : w1.cell? ⟨g, 0, none⟩ = some (.slice A L1.length c) := (blk_cell hb 0).trans rfl
  rw [← hn] at c0 hlr
  have HA := Lib.hid hn
  have HW := Lib.hid hW
  have HB := Lib.hid hb
  have HC := Lib.hid hc
  have HM := Lib.hid hM
  clear hb hn hc hW hM HD
  go_upto_block 0 with fail
  go_cut [6] (fun s6 wx => w1 = wx ∧ ∃ k : Nat, s6 = .int .i64 k ∧ k ≤ n ∧ (∀ p ∈ L1.take k, dlt p (id, a)) ∧ ∀ q, L1[k]? = some q → ¬ dlt q (id, a))
  case first =>
    go_wp2_with fail
    go_loop [6] (fun i => ∃ k : Nat, i = .int .i64 k ∧ k ≤ n ∧ ∀ p ∈ L1.take k, dlt p (id, a)) (fun i => n - (intOf i).toNat)
    case atStart => exact ⟨0, rfl, by omega, by simp⟩
    case round =>
      obtain ⟨k, rfl, hk, hall⟩ := hrel
      have HALL := Lib.hid hall
      clear hall
      by_cases hstep : ∃ q, L1[k]? = some q ∧ dlt q (id, a)
      · as_aux_lemma =>
        obtain ⟨q, hq, hlt⟩ := hstep
        have hkn : k < n := by have := (List.getElem?_eq_some_iff.1 hq).1; have := HA.out; omega
        obtain ⟨b, o, rfl, hbs, hbl, hcell⟩ := RowAt.elem encD 2 encD_len (by decide) hr hq
        have ce0 := hcell 0 _ rfl
        have ce1 := hcell 1 _ rfl
        rw [Nat.add_zero] at ce0
        have HQ := Lib.hid (And.intro hq hlt)
        obtain ⟨x, hx⟩ : ∃ x : Int, x = (q.2 : Int) := ⟨_, rfl⟩
        rw [← hx] at ce1
        have hlt' : x < y ∨ (¬ x < y ∧ x = y ∧ q.1 < id) := by
          have := HY.out
          unfold dlt at hlt
          simp only at hlt
          omega
        clear hq hcell hr hbs hlt hx
        generalize q.1 = q1 at *
        rcases hlt' with h1 | ⟨h1, h2, h3⟩
        · have t1 : decide (x < y) = true := by simpa using h1
          clear h1
          go_wp2
          go_round
          case rel => exact ⟨k + 1, by go_num, by omega, take_all HQ.out.1 HALL.out HQ.out.2⟩
          case measure => simp [intOf]; omega
        · have t1 : decide (x < y) = false := by simpa using h1
          have t2 : (x == y) = true := by simpa using h2
          have t3 : decide (q1 < id) = true := by simpa using h3
          clear h1 h2 h3
          go_wp2
          go_round
          case rel => exact ⟨k + 1, by go_num, by omega, take_all HQ.out.1 HALL.out HQ.out.2⟩
          case measure => simp [intOf]; omega
      · as_aux_lemma =>
        have hno : ∀ q, L1[k]? = some q → ¬ dlt q (id, a) := fun q hq hd => hstep ⟨q, hq, hd⟩
        have HNO := Lib.hid hno
        clear hno hstep
        by_cases hkn : k < n
        · obtain ⟨q, hq⟩ : ∃ q, L1[k]? = some q := ⟨_, List.getElem?_eq_getElem (by have := HA.out; omega)⟩
          have hlt := HNO.out q hq
          obtain ⟨b, o, rfl, hbs, hbl, hcell⟩ := RowAt.elem encD 2 encD_len (by decide) hr hq
          have ce0 := hcell 0 _ rfl
          have ce1 := hcell 1 _ rfl
          rw [Nat.add_zero] at ce0
          obtain ⟨x, hx⟩ : ∃ x : Int, x = (q.2 : Int) := ⟨_, rfl⟩
          rw [← hx] at ce1
          have hlt' : ¬ x < y ∧ (¬ x = y ∨ (x = y ∧ ¬ q.1 < id)) := by
            have := HY.out
            unfold dlt at hlt
            simp only at hlt
            omega
          clear hq hcell hr hbs hlt hx
          generalize q.1 = q1 at *
          obtain ⟨h1, h23⟩ := hlt'
          have t1 : decide (x < y) = false := by simpa using h1
          rcases h23 with h2 | ⟨h2, h3⟩
          · have t2 : (x == y) = false := by simpa using h2
            clear h1 h2
            go_wp2_with fail
            go_meet
            exact ⟨rfl, k, rfl, hk, HALL.out, HNO.out⟩
          · have t2 : (x == y) = true := by simpa using h2
            have t3 : decide (q1 < id) = false := by simpa using h3
            clear h1 h2 h3
            go_wp2_with fail
            go_meet
            exact ⟨rfl, k, rfl, hk, HALL.out, HNO.out⟩
        · have t0 : decide (k < n) = false := by simpa using hkn
          go_wp2_with fail
          go_meet
          exact ⟨rfl, k, rfl, hk, HALL.out, HNO.out⟩
  case rest =>
    obtain ⟨rfl, k, rfl, hk, hall, hno⟩ := hcut
    have HALL := Lib.hid hall
    have hll := HA.out
    have hcn : n ≤ c := by have := HC.out; omega
    have hf := slice_full (P := Try.prog) 28 _ 2 Try.underlying28 elemDue sizeRDue A n c k hk hcn
    obtain ⟨A2, hs2, hr2⟩ := slice_tail (P := Try.prog) 28 _ 2 Try.underlying28 elemDue sizeRDue A n c k hk hcn
    have hrA : RowAt S w1 A ((L1.take k).flatMap encD) := by rw [← flat_take L1 k (by omega)]; exact row_take hr _
    have hrB : RowAt S w1 A2 ((L1.drop k).flatMap encD) := by rw [← flat_drop L1 k (by omega)]; exact hr2 S w1 _ (by rw [lt_flat, hll]) hr
    have e1 : (L1.take k).length = k := by rw [List.length_take]; omega
    have e2 : (L1.drop k).length = n - k := by rw [List.length_drop]; omega
    obtain ⟨W1, hW1⟩ : ∃ W1, W1 = (w1.alloc (.cells #[.int .i64 id, .int .u32 y] 56)).drew := ⟨_, rfl⟩
    have mW1 : Mod No w1 W1 := by rw [hW1]; exact ((Mod.refl No w1).alloc _).drew
    have hblk1 : W1.heap[w1.heap.size]? = some (.cells #[.int .i64 id, .int .u32 y] 56 (0, 0)) := by rw [hW1]; exact at10d w1 _
    have hrX : RowAt S W1 (some ⟨w1.heap.size, 0, none⟩) (([(id, a)] : List Due).flatMap encD) := by
      refine .inr ⟨_, 0, rfl, HW.out.new _ (Nat.le_refl _), fun j u hj => ?_⟩
      rw [Nat.zero_add, blk_cell hblk1 j, HY.out]
      simpa [encD] using hj
    obtain ⟨A3, c3, w3, hrun3, hm3, hc3, hrow3⟩ := app_full (c2 := c - k) hrX (hrB.keeps (mW1.keeps (fun _ _ _ f => f))) (by rw [e2]; simp; omega) 28
    have hzW : w1.heap.size ≤ W1.heap.size := mW1.size
    have hrow3' : RowAt S w3 A3 (((id, a) :: L1.drop k).flatMap encD) := hrow3.mono (fun b _ hb => hb.elim (fun h => h) (fun h => HW.out.new b (by omega)))
    have hmA : Mod No w1 w3 := mW1.trans hm3
    obtain ⟨A4, c4, w4, hrun4, hm4, hc4, hrow4⟩ := app_full (c2 := c3) (hrA.keeps (hmA.keeps (fun _ _ _ f => f))) hrow3' (by rw [e1, List.length_cons, e2]; omega) 28
    have hm14 : Mod No w1 w4 := hmA.trans hm4
    have hrow4' : RowAt (fun b => S b ∨ w1.heap.size ≤ b) w4 A4 ((L1.take k ++ (id, a) :: L1.drop k).flatMap encD) := hrow4.mono (fun b _ hb => hb.elim .inl (fun h => .inr (by have := hmA.size; omega)))
    have hfin := RefW.stored (L' := L1.take k ++ (id, a) :: L1.drop k) HW.out hm14 (by rw [List.length_append, List.length_cons]; simpa using hc4) hrow4'
    rw [← rins_at HALL.out hno] at hfin
    have e3 : (rins L1 (id, a)).length = k + (n - k + 1) := by rw [rins_length]; omega
    have e5 : ([(id, a)] : List Due).length = 1 := rfl
    rw [e1, List.length_cons, e2] at hrun4
    rw [e5, e2] at hrun3
    rw [e3] at hfin
    have hcW : W1.cell? ⟨g, 0, none⟩ = some (.slice A n c) := mW1.cell c0 (fun f => f)
    have hcw3 : w3.cell? ⟨g, 0, none⟩ = some (.slice A n c) := hmA.cell c0 (fun f => f)
    have hcw4 : w4.cell? ⟨g, 0, none⟩ = some (.slice A n c) := hm14.cell c0 (fun f => f)
    have hfw4 : w4.frozen? ⟨g, 0, none⟩ = false := blk_free (hm14.obj HB.out (fun f => f)) 0
    rw [Nat.add_comm 1 (n - k)] at hrun3
    rw [hW1] at hrun3 hcW
    have HF := Lib.hid (And.intro hfin.1 (HM.out.trans hfin.2))
    have R3 := Lib.hid hrun3
    have R4 := Lib.hid hrun4
    have HNO := Lib.hid hno
    have hk0 : (0 : Int) ≤ (k : Int) := by omega
    have hk1 : (k : Int) ≤ (n : Int) := by omega
    have hk2 : (n : Int) ≤ (c : Int) := by omega
    have hk3 : (k : Int) ≤ (c : Int) := by omega
    clear hno hll hrA hrB e1 e2 e3 e5 mW1 hblk1 hrX hrun3 hm3 hc3 hrow3 hrow3' hmA hrun4 hm4 hc4 hrow4 hm14 hrow4' hfin hzW hr2 hW1
    go_wp2
    go_region_law (first | (refine step_append_at (by with_reducible rfl) (by rfl) _ _ _ _ (by rfl) _ _ (by rfl) (by rfl) _ _ R3.out ?_) | (refine step_append_at (by with_reducible rfl) (by rfl) _ _ _ _ (by rfl) _ _ (by rfl) (by rfl) _ _ R4.out ?_))
    all_goals (go_end0; exact ⟨rfl, HF.out⟩)
end

end Go.Proofs.Ytlbdpofgcipjjaa
