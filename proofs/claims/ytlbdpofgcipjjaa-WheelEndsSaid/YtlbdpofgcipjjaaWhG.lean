/-
  The reference's wheel, first part: what it holds; At, Drop.
-/
import Derived.Test.YtlbdpofgcipjjaaWhF
import Derived.Test.YtlbdpofgcipjjaaAppF
import Derived.Test.YtlbdpofgcipjjaaSliceG
import Derived.Deep.RegionLaw
namespace Go.Proofs.Ytlbdpofgcipjjaa
open Go.RowKit Go.MapKept Go.ChangeMaps
set_option linter.unusedVariables false
attribute [local go_sem ↓] Go.wp_at_zero Go.wp_at_succ

/-- The reference's wheel at block g: its row and its clock. -/
structure RefW (S : Nat → Prop) (w : World) (g : Nat) (now : Nat) (L : List Due) : Prop where
  blk : ∃ A c, w.heap[g]? = some (.cells #[.slice A L.length c, .int .u32 now] 30 (0, 0)) ∧ L.length ≤ c ∧ RowAt S w A (L.flatMap encD)
  ng : ¬ S g
  new : ∀ b, w.heap.size ≤ b → S b
section
variable {S : Nat → Prop} {w w' : World} {g now : Nat} {L : List Due}
theorem RefW.mod {F : Nat → Prop} (h : RefW S w g now L) (hm : Mod F w w') (hg : ¬ F g) (hF : ∀ b, S b → ¬ F b) : RefW S w' g now L := by
  obtain ⟨A, c, hb, hc, hr⟩ := h.blk
  exact ⟨⟨A, c, hm.obj hb hg, hc, hr.keeps (hm.keeps (fun b _ hs => hF b hs))⟩, h.ng, fun b hb => h.new b (by have := hm.size; omega)⟩
theorem lt_flat {l : List Due} : (l.flatMap encD).length = l.length * 2 := flat_length encD 2 encD_len l
theorem find_at {k : Nat} {d : Due} {id : Int} (hd : L[k]? = some d) (he : d.1 = id) (hn : ∀ p ∈ L.take k, p.1 ≠ id) : L.find? (fun p => p.1 = id) = some d := by
  obtain ⟨hl, e⟩ := List.getElem?_eq_some_iff.1 hd
  have h1 : L = L.take k ++ d :: L.drop (k + 1) := by rw [← e, ← List.drop_eq_getElem_cons hl, List.take_append_drop]
  rw [h1, List.find?_append, List.find?_eq_none.2 (fun p hp => by simpa using hn p hp)]
  simp [he]
theorem has_at {k : Nat} {d : Due} {id : Int} (hd : L[k]? = some d) (he : d.1 = id) (hn : ∀ p ∈ L.take k, p.1 ≠ id) : rhas L id = true ∧ rat L id = d.2 := by
  refine ⟨rhas_iff.2 ⟨d.2, ?_⟩, ?_⟩
  · rw [← he]; exact List.mem_of_getElem? hd
  · unfold rat
    rw [find_at hd he hn]
    rfl
theorem has_not {id : Int} (hn : ∀ p ∈ L, p.1 ≠ id) : rhas L id = false ∧ rat L id = 0 ∧ rdrop L id = L := by
  refine ⟨?_, ?_, List.filter_eq_self.2 (fun p hp => by simpa using hn p hp)⟩
  · rw [Bool.eq_false_iff]
    intro f
    obtain ⟨a, ha⟩ := rhas_iff.1 f
    exact hn _ ha rfl
  · unfold rat
    rw [List.find?_eq_none.2 (fun p hp => by simpa using hn p hp)]
    rfl
theorem take_none {id : Int} {k : Nat} {d : Due} (hd : L[k]? = some d) (hn : ∀ p ∈ L.take k, p.1 ≠ id) (he : d.1 ≠ id) : ∀ p ∈ L.take (k + 1), p.1 ≠ id := by
  obtain ⟨hl, e⟩ := List.getElem?_eq_some_iff.1 hd
  rw [List.take_succ_eq_append_getElem hl, e]
  intro p hp
  rcases List.mem_append.1 hp with h | h
  · exact hn p h
  · simp at h; subst h; exact he

theorem ref_at_ok (h : RefW S w g now L) (hl : L.length ≤ 1000000) (id : Int) : Calls Try.prog 17 #[.pointer (some ⟨g, 0, none⟩), .int .i64 id] w fun e w' => e = .returned (.tuple #[.int .u32 (rat L id), .bool (rhas L id)]) ∧ w' = w := by
  obtain ⟨A, c, hb, hc, hr⟩ := h.blk
  have c0 : w.cell? ⟨g, 0, none⟩ = some (.slice A L.length c) := (blk_cell hb 0).trans rfl
  obtain ⟨r1, hr1⟩ : ∃ r, r = rat L id := ⟨_, rfl⟩
  obtain ⟨r2, hr2⟩ : ∃ r, r = rhas L id := ⟨_, rfl⟩
  obtain ⟨n, hn⟩ : ∃ n, n = L.length := ⟨_, rfl⟩
  rw [← hr1, ← hr2]
  rw [← hn] at c0 hl
  have HA := Lib.hid (And.intro hr1 (And.intro hr2 hn))
  clear hb hr1 hr2 hn hc
  go_enter Try.func17, Try.ntmps17
  go_wp2
  go_loop [6] (fun i => ∃ k : Nat, i = .int .i64 k ∧ k ≤ n ∧ ∀ p ∈ L.take k, p.1 ≠ id) (fun i => n - (intOf i).toNat)
  case atStart => exact ⟨0, rfl, by omega, by simp⟩
  case round =>
    obtain ⟨k, rfl, hk, hno⟩ := hrel
    have HNO := Lib.hid hno
    clear hno
    by_cases hlt : k < n
    · obtain ⟨d, hd⟩ : ∃ d, L[k]? = some d := ⟨_, List.getElem?_eq_getElem (by have := HA.out.2.2; omega)⟩
      obtain ⟨b, o, rfl, hbs, hbl, hcell⟩ := RowAt.elem encD 2 encD_len (by decide) hr hd
      have ce0 := hcell 0 _ rfl
      have ce1 := hcell 1 _ rfl
      rw [Nat.add_zero] at ce0
      have HD := Lib.hid hd
      clear hd hcell hr hbs
      obtain ⟨d1, d2⟩ := d
      simp only at *
      by_cases he : d1 = id
      · have ht : (d1 == id) = true := by simpa using he
        have HE := Lib.hid he
        clear he
        go_wp2
        go_ret2
        obtain ⟨e1, e2⟩ := has_at HD.out HE.out HNO.out
        rw [HA.out.1, HA.out.2.1, e1, e2]
        exact ⟨rfl, rfl⟩
      · have ht : (d1 == id) = false := by simpa using he
        have HE := Lib.hid he
        clear he
        go_wp2
        go_round
        case rel => exact ⟨k + 1, by go_num, by omega, take_none HD.out HNO.out HE.out⟩
        case measure => simp [intOf]; omega
    · have hk' : k = n := by omega
      subst hk'
      go_wp2
      go_ret2
      have hno := HNO.out
      rw [HA.out.2.2, List.take_length] at hno
      obtain ⟨e1, e2, _⟩ := has_not hno
      rw [HA.out.1, HA.out.2.1, e1, e2]
      exact ⟨rfl, rfl⟩
theorem elemDue : Try.prog.elem 28 = 56 := by kernel_rfl
theorem sizeRDue : ∀ W, (sizeOf 56).run Try.prog W = .ok 2 W := fun W => by kernel_rfl
theorem infoRDue : (Try.prog.info? 56).map (fun i => (i.zero, i.size, i.bytes)) = some (some (.agg #[.int .i64 0, .int .u32 0]), 2, 16) := by kernel_rfl
theorem encD_all (l : List Due) : ∀ u ∈ l.flatMap encD, u.oneCell' = true := by
  intro u hu
  obtain ⟨d, _, hd⟩ := List.mem_flatMap.1 hu
  exact encD_one d u hd
/-- append of dues onto a full row. -/
theorem app_full {w : World} {A : Option Addr} {X : List Due} (hx : RowAt S w A (X.flatMap encD)) {A2 : Option Addr} {c2 : Nat} {Y : List Due} (hy : RowAt S w A2 (Y.flatMap encD)) (hl : X.length + Y.length ≤ 2000000) (ty : TypeId) :
    ∃ A' c' w', (Builtin.append_ #[28, 28] ty #[.slice A X.length X.length, .slice A2 Y.length c2]).run Try.prog w = .ok (.slice A' (X.length + Y.length) c') w' ∧ Mod No w w' ∧ X.length + Y.length ≤ c' ∧ RowAt (fun b => S b ∨ w.heap.size ≤ b) w' A' ((X ++ Y).flatMap encD) := by
  obtain ⟨i0, hi, hz0, hz1, hz2⟩ := info_parts infoRDue
  obtain ⟨A', c', w', h1, h2, h3, _, h4⟩ := run_append_full (P := Try.prog) w 28 ty 56 i0 _ 2 16 Try.underlying28 hi hz0 hz1 hz2 (by decide) A X.length _ hx lt_flat A2 Y.length c2 _ hy lt_flat (encD_all Y) (by unfold maxLen; omega) (by omega)
  exact ⟨A', c', w', h1, h2, h3, by rw [List.flatMap_append]; exact h4⟩
theorem RefW.stored {A' : Option Addr} {c' : Nat} {L' : List Due} {w1 : World} (h : RefW S w g now L) (hm : Mod No w w1) (hc : L'.length ≤ c') (hr : RowAt (fun b => S b ∨ w.heap.size ≤ b) w1 A' (L'.flatMap encD)) : RefW S (w1.setCell ⟨g, 0, none⟩ (.slice A' L'.length c')) g now L' ∧ Mod (fun j => j = g) w (w1.setCell ⟨g, 0, none⟩ (.slice A' L'.length c')) := by
  obtain ⟨A, c, hb, _⟩ := h.blk
  have hb1 := hm.obj hb id
  have m2 : Mod (fun j => j = g) w1 (w1.setCell ⟨g, 0, none⟩ (.slice A' L'.length c')) := Mod.setCell (F := fun j => j = g) (Mod.refl _ _) (p := ⟨g, 0, none⟩) (.inr rfl) _
  have m3 : Mod (fun j => j = g) w (w1.setCell ⟨g, 0, none⟩ (.slice A' L'.length c')) := (hm.mono (fun _ f => f.elim)).trans m2
  refine ⟨⟨⟨A', c', ?_, hc, ?_⟩, h.ng, fun b hb => h.new b (by have := m3.size; omega)⟩, m3⟩
  · simp only [World.setCell]
    rw [Array.getElem?_modify, if_pos rfl, hb1]
    rfl
  · exact (hr.mono (fun b _ hs => hs.elim (fun x => x) (fun x => h.new b x))).keeps (m2.keeps (fun b _ hs f => h.ng (by subst f; exact hs)))
set_option maxHeartbeats 1000000 in
theorem ref_drop_ok (h : RefW S w g now L) (hok : DOk L) (hl : L.length ≤ 1000000) (id : Int) : Calls Try.prog 12 #[.pointer (some ⟨g, 0, none⟩), .int .i64 id] w fun e w' => e = .returned (.bool (rhas L id)) ∧ RefW S w' g now (rdrop L id) ∧ Mod (fun j => j = g) w w' := by
  obtain ⟨A, c, hb, hc, hr⟩ := h.blk
  have c0 : w.cell? ⟨g, 0, none⟩ = some (.slice A L.length c) := (blk_cell hb 0).trans rfl
  obtain ⟨r2, hr2⟩ : ∃ r, r = rhas L id := ⟨_, rfl⟩
  obtain ⟨n, hn⟩ : ∃ n, n = L.length := ⟨_, rfl⟩
  rw [← hr2]
  rw [← hn] at c0 hl
  have HA := Lib.hid (And.intro hr2 hn)
  have HW := Lib.hid h
  have HB := Lib.hid hb
  have HC := Lib.hid hc
  clear hb hr2 hn hc h
  go_enter Try.func12, Try.ntmps12
  go_wp2
  go_loop [5] (fun i => ∃ k : Nat, i = .int .i64 k ∧ k ≤ n ∧ ∀ p ∈ L.take k, p.1 ≠ id) (fun i => n - (intOf i).toNat)
  case atStart => exact ⟨0, rfl, by omega, by simp⟩
  case round =>
    obtain ⟨k, rfl, hk, hno⟩ := hrel
    have HNO := Lib.hid hno
    clear hno
    by_cases hlt : k < n
    · obtain ⟨d, hd⟩ : ∃ d, L[k]? = some d := ⟨_, List.getElem?_eq_getElem (by have := HA.out.2; omega)⟩
      have hr' := hr
      obtain ⟨b, o, rfl, hbs, hbl, hcell⟩ := RowAt.elem encD 2 encD_len (by decide) hr hd
      have ce0 := hcell 0 _ rfl
      rw [Nat.add_zero] at ce0
      have HD := Lib.hid hd
      clear hd hcell hr hbs
      obtain ⟨d1, d2⟩ := d
      simp only at *
      by_cases he : d1 = id
      · have ht : (d1 == id) = true := by simpa using he
        have HE := Lib.hid he
        have hcn : n ≤ c := by have := HC.out; have := HA.out.2; omega
        have hf := slice_full (P := Try.prog) 28 _ 2 Try.underlying28 elemDue sizeRDue (some ⟨b, o, none⟩) n c k hk hcn
        obtain ⟨A2, hs2, hr2⟩ := slice_tail (P := Try.prog) 28 _ 2 Try.underlying28 elemDue sizeRDue (some ⟨b, o, none⟩) n c (k + 1) (by omega) hcn
        have hll := HA.out.2
        have hrA : RowAt S w.drew (some ⟨b, o, none⟩) ((L.take k).flatMap encD) := by
          have := row_take hr' (k * 2)
          have e : (L.flatMap encD).take (k * 2) = (L.take k).flatMap encD := by
            have e1 : L.flatMap encD = (L.take k).flatMap encD ++ (L.drop k).flatMap encD := by rw [← List.flatMap_append, List.take_append_drop]
            have e2 : ((L.take k).flatMap encD).length = k * 2 := by rw [lt_flat, List.length_take]; omega
            rw [e1, List.take_append_of_le_length (by omega), List.take_of_length_le (by omega)]
          rw [e] at this
          exact this
        have hrB : RowAt S w.drew A2 ((L.drop (k + 1)).flatMap encD) := by
          have := hr2 S w _ (by rw [lt_flat, hll]) hr'
          have e : (L.flatMap encD).drop ((k + 1) * 2) = (L.drop (k + 1)).flatMap encD := by
            have e1 : L.flatMap encD = (L.take (k + 1)).flatMap encD ++ (L.drop (k + 1)).flatMap encD := by rw [← List.flatMap_append, List.take_append_drop]
            have e2 : ((L.take (k + 1)).flatMap encD).length = (k + 1) * 2 := by rw [lt_flat, List.length_take]; omega
            rw [e1, List.drop_append_of_le_length (by omega), List.drop_of_length_le (by omega), List.nil_append]
          rw [e] at this
          exact this
        have e1 : (L.take k).length = k := by rw [List.length_take]; omega
        have e2 : (L.drop (k + 1)).length = n - (k + 1) := by rw [List.length_drop]; omega
        obtain ⟨A', c', w1, hrun, hm1, hc1, hrow1⟩ := app_full (c2 := c - (k + 1)) hrA hrB (by rw [e1, e2]; omega) 28
        rw [e1, e2] at hrun hc1
        have hcA : w1.cell? ⟨g, 0, none⟩ = some (.slice (some ⟨b, o, none⟩) n c) := hm1.cell (w := w.drew) c0 (fun f => f)
        have hfA : w1.frozen? ⟨g, 0, none⟩ = false := blk_free (hm1.obj (w := w.drew) HB.out (fun f => f)) 0
        simp only [Int.natCast_add, Int.natCast_one] at hs2
        have hk0 : (0 : Int) ≤ (k : Int) := by omega
        have hk1 : IntKind.i64.wrap ((k : Int) + 1) = (k : Int) + 1 := IntWalk.i64_in _ (by omega)
        have HM := Lib.hid hm1
        have HR := Lib.hid (And.intro hc1 hrow1)
        have HRUN := Lib.hid hrun
        clear he hll e1 e2 hrA hrB hm1 hc1 hrow1 hr2 hr' hrun
        go_wp2
        go_region_law
          ((refine step_append_run (by rfl) _ _ _ _ (by rfl) _ _ (by rfl) (by rfl) _ _ HRUN.out ?_))
        all_goals
          go_wp2
          go_ret
          have hd := HD.out
          have he := HE.out
          have hm1 : Mod No w w1 := (Mod.refl No w).drew.trans HM.out
          obtain ⟨hc1, hrow1⟩ := HR.out
          have e3 : (L.take k ++ L.drop (k + 1)).length = k + (n - (k + 1)) := by have := HA.out.2; rw [List.length_append, List.length_take, List.length_drop]; omega
          have e4 : rdrop L id = L.take k ++ L.drop (k + 1) := by
            rw [← List.eraseIdx_eq_take_drop_succ, erase_filter (f := fun p : Due => p.1) (a := (d1, d2)) hok.ids hd, rdrop, ← he]
          have h9 := RefW.stored (L' := L.take k ++ L.drop (k + 1)) HW.out hm1 (by rw [e3]; exact hc1) hrow1
          rw [e3] at h9
          rw [HA.out.1, (has_at hd he HNO.out).1, e4]
          exact ⟨rfl, h9⟩
      · have ht : (d1 == id) = false := by simpa using he
        have HE := Lib.hid he
        clear he
        go_wp2
        go_round
        case rel => exact ⟨k + 1, by go_num, by omega, take_none HD.out HNO.out HE.out⟩
        case measure => simp [intOf]; omega
    · have hk' : k = n := by omega
      subst hk'
      go_wp2
      go_ret
      have hno := HNO.out
      rw [HA.out.2, List.take_length] at hno
      obtain ⟨e1, _, e3⟩ := has_not hno
      rw [HA.out.1, e1, e3]
      exact ⟨rfl, HW.out, Mod.refl _ _⟩
end

end Go.Proofs.Ytlbdpofgcipjjaa
