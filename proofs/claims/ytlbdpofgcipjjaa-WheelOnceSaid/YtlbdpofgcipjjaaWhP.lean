/-
  The law WheelOnce, walked.
-/
import Derived.Test.YtlbdpofgcipjjaaWhO
namespace Go.Proofs.Ytlbdpofgcipjjaa
open Go.RowKit Go.MapKept Go.ChangeMaps
set_option linter.unusedVariables false
attribute [local go_sem ↓] Go.wp_at_zero Go.wp_at_succ

theorem nat_of_u16' {z : Int} (h : (Lit.int .u16 z).wf = true) : ∃ n : Nat, z = (n : Int) ∧ n < 65536 := by
  have h1 : IntKind.u16.min ≤ z ∧ z ≤ IntKind.u16.max := by simpa [Lit.wf] using h
  simp [IntKind.min, IntKind.max, IntKind.signed, IntKind.bits] at h1
  exact ⟨z.toNat, by omega, by omega⟩
/-- Number i's tick, ahead of the clock b. -/
def onF (b : Nat) (ns : List Nat) (i : Nat) : Nat := b + 1 + (ns.getD i 0) % 2000
/-- What is due: of the first k numbers, each at its tick, none before lo. -/
structure OnInv (b : Nat) (ns : List Nat) (k lo : Nat) (L : List Due) : Prop where
  ok : DOk L
  mem : ∀ p ∈ L, ∃ i : Nat, i < k ∧ p.1 = (i : Int) ∧ p.2 = onF b ns i
  lo : ∀ p ∈ L, lo ≤ p.2
theorem OnInv.set {b k : Nat} {ns : List Nat} {L : List Due} (h : OnInv b ns k (b + 1) L) : OnInv b ns (k + 1) (b + 1) (rset L (k : Int) (onF b ns k)) ∧ (rset L (k : Int) (onF b ns k)).length = L.length + 1 := by
  have hno : ∀ p ∈ L, p.1 ≠ (k : Int) := fun p hp => by
    obtain ⟨i, hi, e, _⟩ := h.mem p hp
    omega
  refine ⟨⟨h.ok.set _ _, fun p hp => ?_, fun p hp => ?_⟩, by rw [rset, rins_length, (has_not hno).2.2]⟩
  · rcases mem_rset.1 hp with rfl | ⟨h1, _⟩
    · exact ⟨k, by omega, rfl, rfl⟩
    · obtain ⟨i, hi, e, e2⟩ := h.mem p h1
      exact ⟨i, by omega, e, e2⟩
  · rcases mem_rset.1 hp with rfl | ⟨h1, _⟩
    · unfold onF
      simp only
      omega
    · exact h.lo p h1
theorem OnInv.tick {b n lo : Nat} {ns : List Nat} {L : List Due} (h : OnInv b ns n (lo + 1) L) (hl : lo < 2147483647) : tnow lo = lo + 1 ∧ OnInv b ns n (lo + 2) (trest L lo) ∧ L.length = (tdue L lo).length + (trest L lo).length ∧ (tdue L lo).Pairwise dlt ∧ (∀ p ∈ tdue L lo, ∃ i : Nat, i < n ∧ p.1 = (i : Int) ∧ onF b ns i = lo + 1 ∧ p.2 = lo + 1) := by
  unfold tnow trest tdue
  rw [if_pos hl, if_pos hl, if_pos hl]
  refine ⟨rfl, ⟨h.ok.rest _, fun p hp => h.mem p ((List.dropWhile_sublist _).subset hp), fun p hp => ?_⟩, ?_, h.ok.sorted.sublist (List.takeWhile_sublist _), fun p hp => ?_⟩
  · rw [(due_filter h.ok.sorted _).2, List.mem_filter] at hp
    have := hp.2
    simp at this
    omega
  · have := congrArg List.length (List.takeWhile_append_dropWhile (p := fun p : Due => decide (p.2 ≤ lo + 1)) (l := L))
    rw [List.length_append] at this
    exact this.symm
  · have h1 : p ∈ L := (List.takeWhile_sublist _).subset hp
    obtain ⟨i, hi, e, e2⟩ := h.mem p h1
    have h2 := h.lo p h1
    rw [(due_filter h.ok.sorted _).1, List.mem_filter] at hp
    have := hp.2
    simp at this
    exact ⟨i, hi, e, by omega, by omega⟩
theorem OnInv.fin {b n lo : Nat} {ns : List Nat} {L : List Due} (h : OnInv b ns n lo L) (hl : b + 2000 < lo) : L = [] := by
  cases L with
  | nil => rfl
  | cons p l =>
    obtain ⟨i, hi, e, e2⟩ := h.mem p (by simp)
    have := h.lo p (by simp)
    unfold onF at e2
    omega
/-- What the inner loop knows of the numbers told. -/
theorem told_at {n lo b : Nat} {ns : List Nat} {D : List Due} (hp : D.Pairwise dlt) (hm : ∀ p ∈ D, ∃ i : Nat, i < n ∧ p.1 = (i : Int) ∧ onF b ns i = lo + 1 ∧ p.2 = lo + 1) {j : Nat} (hj : j < D.length) :
    ∃ i : Nat, i < n ∧ D[j].1 = (i : Int) ∧ onF b ns i = lo + 1 ∧ (∀ j', j = j' + 1 → ∃ (i' : Nat) (h : j' < D.length), D[j'].1 = (i' : Int) ∧ i' < i) := by
  obtain ⟨i, hi, e, e2, e3⟩ := hm D[j] (List.getElem_mem hj)
  refine ⟨i, hi, e, e2, fun j' hjj => ?_⟩
  subst hjj
  have hj' : j' < D.length := by omega
  obtain ⟨i', hi', e', e2', e3'⟩ := hm D[j'] (List.getElem_mem hj')
  refine ⟨i', hj', e', ?_⟩
  have := List.pairwise_iff_getElem.1 hp j' (j' + 1) hj' hj (by omega)
  unfold dlt at this
  omega
set_option maxRecDepth 100000 in
set_option maxHeartbeats 2000000 in
theorem once_walk (w : World) (x : Nat) (A : Option Addr) (c n : Nat) (zs : List Int) (hn : zs.length = n) (hn63 : n ≤ 9223372036854775807) (hrow : RowAt (fun _ => True) w A (zs.map fun z => Value.int .u16 z)) (hok : ∀ z ∈ zs, (Lit.int .u16 z).wf = true) :
    Calls Try.prog 4 #[.int .u32 (x : Int), .slice A n c] w fun e w' => e = .returned (.bool true) ∧ Mod No w w' := by
  have hkn := known_ok w
  have hns : ∀ i, i < n → ∃ m : Nat, zs[i]? = some (m : Int) ∧ (zs.map Int.toNat).getD i 0 = m ∧ m < 65536 := fun i hi => by
    obtain ⟨z, hz⟩ : ∃ z, zs[i]? = some z := ⟨_, List.getElem?_eq_getElem (by omega)⟩
    obtain ⟨a, rfl, ha⟩ := nat_of_u16' (hok z (List.mem_of_getElem? hz))
    exact ⟨a, hz, by simp [hz], ha⟩
  generalize zs.map Int.toNat = ns at hns
  have HL := Lib.hid (And.intro hn (And.intro hrow hns))
  clear hn hrow hok hns
  by_cases h50 : 50 < n
  · have t1 : decide ((50 : Int) < (n : Int)) = true := by simp; omega
    go_enter Try.func4, Try.ntmps4
    go_wp2_with (go_at_call 7; refine hkn.mono ?_; rintro e w1 ⟨rfl, hm⟩)
    go_ret
    exact ⟨rfl, hm⟩
  · have t1 : decide ((50 : Int) < (n : Int)) = false := by simp; omega
    go_enter Try.func4, Try.ntmps4
    go_upto_region 6 with (go_at_call 7; refine hkn.mono ?_; rintro e w1 ⟨rfl, hm⟩)
    obtain ⟨b, hb⟩ : ∃ b : Nat, (x : Int) % 1073741824 = (b : Int) := ⟨x % 1073741824, by simp⟩
    simp only [hb]
    have hb2 : b < 1073741824 := by omega
    have hnw := newW w1 (now := b) (by omega)
    have HB := Lib.hid hb2
    have hn50 : n ≤ 50 := by omega
    clear hb hb2 hkn hn63 h50 t1
    go_upto_region 7 with (go_at_call 8; refine hnw.mono ?_; rintro e w2 ⟨rfl, ⟨F, hW, hF⟩, hm2⟩)
    have h2 : One F w (w1.heap.size + 1) b [] w2 := ⟨hW, hm.trans hm2, fun j hj => by have := hF j hj; have := hm.size; omega⟩
    generalize w1.heap.size + 1 = g at *
    clear hW hF hm2 hm hnw
    go_wp2
    go_loopw [6] (fun i wr => ∃ k : Nat, i = .int .i64 k ∧ k ≤ n ∧ ∃ L, L.length = k ∧ OnInv b ns k (b + 1) L ∧ One F w g b L wr) (fun i _ => n - (intOf i).toNat)
    case atStart => exact ⟨0, rfl, by omega, [], rfl, ⟨DOk.nil, by simp, by simp⟩, h2⟩
    case round =>
      obtain ⟨k, rfl, hk, L, hLk, hI, hT⟩ := hrel
      clear h2
      by_cases hlt : k < n
      · as_aux_lemma =>
        obtain ⟨hn, hrow, hns⟩ := HL.out
        obtain ⟨a, hz, hg, ha⟩ := hns k hlt
        obtain ⟨bb, o, rfl, hbs, hbl, hcell⟩ := (hrow.keeps (hT.mod.keeps (fun _ _ _ f => f))).open (by intro f; have := congrArg List.length f; simp at this; subst this; simp at hz)
        have ce := hcell k (.int .u16 (a : Int)) (by simp [hz])
        have hs := setW hT.ww (id := (k : Int)) (by unfold In64; omega) (a := onF b ns k) (by unfold onF; have := HB.out; omega)
        obtain ⟨hI2, hl2⟩ := hI.set
        have e1 : ((onF b ns k : Nat) : Int) = (b : Int) + 1 + (a : Int) % 2000 := by unfold onF; rw [hg]; simp
        rw [e1] at hs
        have hw1 : ((b : Int) + 1) % 4294967296 = (b : Int) + 1 := by have := HB.out; omega
        have hw2 : ((b : Int) + 1 + (a : Int) % 2000) % 4294967296 = (b : Int) + 1 + (a : Int) % 2000 := by have := HB.out; omega
        have HT := Lib.hid hT
        have HI := Lib.hid (And.intro hI2 (hl2.trans (by rw [hLk])))
        have HS := Lib.hid hs
        clear hn hrow hns hz hcell hbs hT hI hI2 hl2 hLk hs e1 hg ha
        go_wp2_with (go_at_call 9; refine HS.out.mono ?_; rintro e w5 ⟨rfl, hW5, hM5⟩; have HT6 := Lib.hid (HT.out.stepW hW5 hM5); clear hW5 hM5)
        exact ⟨⟨k + 1, by go_num, by omega, _, HI.out.2, HI.out.1, HT6.out⟩, by simp [intOf]; omega⟩
      · as_aux_lemma =>
        have hkn : k = n := by omega
        subst hkn
        have HT := Lib.hid (And.intro hI hT)
        have HLk := Lib.hid hLk
        clear hI hT hLk
        go_wp2
        go_loopw [7, 8] (fun v i wr => ∃ q : Nat, i = .int .u32 (q : Int) ∧ 1 ≤ q ∧ q ≤ 2001 ∧ ∃ L, v = .int .i64 (L.length : Int) ∧ L.length ≤ k ∧ OnInv b ns k (b + (q - 1) + 1) L ∧ One F w g (b + (q - 1)) L wr) (fun _ i _ => 2001 - (intOf i).toNat)
        case atStart => exact ⟨1, rfl, by omega, by omega, L, by rw [HLk.out], by rw [HLk.out]; omega, HT.out.1, HT.out.2⟩
        case round =>
          obtain ⟨q, rfl, hq1, hq2, L1, rfl, hL1, hI1, hT1⟩ := hrel
          by_cases hqlt : q ≤ 2000
          · have ht0 : decide ((q : Int) ≤ 2000) = true := by simp; omega
            obtain ⟨e1, hI2, hlen, hpw, hmem⟩ := hI1.tick (by have := HB.out; omega)
            have hs := tickW hT1.ww (by omega)
            unfold TickW at hs
            rw [e1] at hs
            generalize tdue L1 (b + (q - 1)) = D at *
            generalize trest L1 (b + (q - 1)) = L2 at *
            obtain ⟨d, hd⟩ : ∃ d, d = D.length := ⟨_, rfl⟩
            rw [← hd] at hs hlen
            have HLEN := Lib.hid hlen
            have HS := Lib.hid hs
            have H1 := Lib.hid (And.intro hI1 hT1)
            have H2 := Lib.hid (And.intro hI2 (And.intro hpw (And.intro hmem hd)))
            clear hI1 hT1 hI2 hpw hmem hd hs e1 HT HLk hlen
            go_wp2_with (go_at_call 14; refine HS.out.mono ?_; rintro e w5 ⟨A5, c5, rfl, r5, hW5, hM5⟩; have HT6 := Lib.hid (H1.out.2.stepW hW5 hM5); have R5 := Lib.hid r5; clear hW5 hM5 r5)
            go_loopw [7, 10] (fun v i wr => ∃ j : Nat, i = .int .i64 j ∧ j ≤ d ∧ v = .int .i64 ((L1.length : Int) - j) ∧ Mod No w5 wr) (fun _ i _ => d - (intOf i).toNat)
            case atStart => exact ⟨0, rfl, by omega, by simp, Mod.refl _ _⟩
            case round =>
              obtain ⟨j, rfl, hj, rfl, hm⟩ := hrel
              by_cases hjd : j < d
              · as_aux_lemma =>
                obtain ⟨hI2, hpw, hmem, hd⟩ := H2.out
                have hj2 : j < D.length := by omega
                obtain ⟨i, hi, ei, ef, hpre⟩ := told_at hpw hmem hj2
                obtain ⟨hn, hrow, hns⟩ := HL.out
                obtain ⟨a, hz, hg, ha⟩ := hns i hi
                have hmw : Mod No w wr := HT6.out.mod.trans hm
                obtain ⟨bb, o, rfl, _, _, hcell⟩ := (hrow.keeps (hmw.keeps (fun _ _ _ f => f))).open (by intro f; have := congrArg List.length f; simp at this; subst this; simp at hz)
                have ce := hcell i (.int .u16 (a : Int)) (by simp [hz])
                obtain ⟨b5, o5, rfl, _, _, hc5⟩ := (R5.out.keeps (hm.keeps (fun _ _ _ f => f))).open (by intro f; have := congrArg List.length f; simp at this; subst this; simp at hj2)
                have cj := hc5 j (.int .i64 (i : Int)) (by rw [List.getElem?_map, List.getElem?_eq_getElem hj2, ← ei]; rfl)
                have hpre2 : ∀ j', j = j' + 1 → ∃ i' : Nat, wr.cell? ⟨b5, o5 + j', none⟩ = some (.int .i64 (i' : Int)) ∧ i' < i := fun j' hjj => by
                  obtain ⟨i', h', ee, hlt'⟩ := hpre j' hjj
                  exact ⟨i', hc5 j' (.int .i64 (i' : Int)) (by rw [List.getElem?_map, List.getElem?_eq_getElem h', ← ee]; rfl), hlt'⟩
                have haq : (a : Int) % 2000 + 1 = (q : Int) := by unfold onF at ef; rw [hg] at ef; omega
                have t1 : decide ((i : Int) < 0) = false := by simp
                have t2 : decide ((k : Int) ≤ (i : Int)) = false := by simp; omega
                have t2' : decide (k ≤ i) = false := by simp; omega
                have t3 : ((a : Int) % 2000 + 1 != (q : Int)) = false := by simpa using haq
                have hi0 : (0 : Int) ≤ (i : Int) := by omega
                have hik : (i : Int) < (k : Int) := by omega
                have HM := Lib.hid hm
                clear hI2 hpw hmem hd hj2 ei ef hpre hn hrow hns hz hg hmw hcell hc5 haq hm
                cases j with
                | zero =>
                  rw [Nat.add_zero] at cj
                  clear hpre2
                  go_wp2
                  go_quiet (fail)
                  go_wp2
                  exact ⟨⟨0 + 1, by go_num, by omega, by go_num, HM.out.drewN _⟩, by simp [intOf]; omega⟩
                | succ j' =>
                  obtain ⟨i', cj', hlt'⟩ := hpre2 j' rfl
                  have t5 : decide ((i : Int) ≤ (i' : Int)) = false := by simp; omega
                  have t5' : decide (i ≤ i') = false := by simp; omega
                  clear hpre2
                  simp only [Int.natCast_add, Int.natCast_one]
                  have hd50 : d ≤ 50 := by have := HLEN.out; omega
                  have t6 : decide ((0 : Int) < (j' : Int) + 1) = true := by simp
                  have w0 : (0 : Int) ≤ (j' : Int) + 1 := by omega
                  have w1 : ((j' : Int) + 1).toNat = j' + 1 := by omega
                  have w2 : (j' : Int) + 1 < (d : Int) := by omega
                  have w3 : (0 : Int) ≤ (j' : Int) := by omega
                  have w4 : (j' : Int) < (d : Int) := by omega
                  have w5 : IntKind.i64.wrap ((j' : Int) + 1 - 1) = (j' : Int) := by rw [show (j' : Int) + 1 - 1 = (j' : Int) by omega]; exact IntWalk.i64_in _ (by omega)
                  go_wp2
                  go_quiet (fail)
                  go_wp2
                  exact ⟨⟨j' + 1 + 1, by go_num, by omega, by go_num, HM.out.drewN _⟩, by simp [intOf]; omega⟩
              · as_aux_lemma =>
                have hjd' : j = d := by omega
                subst hjd'
                have HM := Lib.hid hm
                clear hm
                go_wp2
                have hlen := HLEN.out
                have ea : b + (q + 1 - 1) + 1 = b + (q - 1) + 2 := by omega
                have eb : b + (q + 1 - 1) = b + (q - 1) + 1 := by omega
                have hv : Value.int IntKind.i64 ((L1.length : Int) - (j : Int)) = .int .i64 (L2.length : Int) := by rw [hlen]; go_num
                refine ⟨⟨q + 1, by go_num, by omega, by omega, L2, hv, by omega, ?_, ?_⟩, by simp [intOf]; omega⟩
                · rw [ea]; exact H2.out.1
                · rw [eb]; exact HT6.out.step HM.out
          · as_aux_lemma =>
            have hq' : q = 2001 := by omega
            subst hq'
            have hL0 := hI1.fin (by omega)
            subst hL0
            have hc := countW hT1.ww
            simp only [List.length_nil, Int.natCast_zero] at hc
            have HTT := Lib.hid hT1
            have HC := Lib.hid hc
            clear hI1 hT1 hc HT
            go_wp2_with (go_at_call 18; refine HC.out.mono ?_; rintro e w5 ⟨rfl, hw5⟩; obtain rfl := hw5.symm)
            go_ret
            exact ⟨rfl, HTT.out.mod⟩

end Go.Proofs.Ytlbdpofgcipjjaa
