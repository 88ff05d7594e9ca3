/-
  The wheel and the reference's wheel as the laws see them; the help's Ints.
-/
import Derived.Test.YtlbdpofgcipjjaaWhI
namespace Go.Proofs.Ytlbdpofgcipjjaa
open Go.RowKit Go.MapKept Go.ChangeMaps
set_option linter.unusedVariables false
attribute [local go_sem ↓] Go.wp_at_zero Go.wp_at_succ

/-- A wheel, its blocks F: its clock, and what is due, in order. -/
def WW (F : Nat → Prop) (w : World) (g now : Nat) (L : List Due) : Prop := ∃ bs bi M, F = Own g bs bi ∧ Whl w g bs bi now M ∧ WInv now M L ∧ now < 4294967296
def tnow (now : Nat) : Nat := if now < 2147483647 then now + 1 else now
def tdue (L : List Due) (now : Nat) : List Due := if now < 2147483647 then rdue L (now + 1) else []
def trest (L : List Due) (now : Nat) : List Due := if now < 2147483647 then rrest L (now + 1) else L
section
variable {F S : Nat → Prop} {w w' : World} {g now : Nat} {L : List Due}
theorem WW.lt (h : WW F w g now L) {j : Nat} (hj : F j) : j < w.heap.size := by
  obtain ⟨bs, bi, M, rfl, hW, _⟩ := h
  exact hW.own_lt hj
theorem WW.gF (h : WW F w g now L) : F g := by
  obtain ⟨bs, bi, M, rfl, hW, _⟩ := h
  exact .inl rfl
theorem WW.mod {G : Nat → Prop} (h : WW F w g now L) (hm : Mod G w w') (hG : ∀ j, F j → ¬ G j) : WW F w' g now L := by
  obtain ⟨bs, bi, M, rfl, hW, hv⟩ := h
  exact ⟨bs, bi, M, rfl, hW.mod hm hG, hv⟩
theorem WW.ok (h : WW F w g now L) : DOk L := by
  obtain ⟨bs, bi, M, rfl, hW, hv, _⟩ := h
  exact hv.ok
theorem WW.now_lt (h : WW F w g now L) : now < 4294967296 := by
  obtain ⟨bs, bi, M, rfl, hW, hv, hn⟩ := h
  exact hn
theorem newW (w : World) {now : Nat} (hn : now < 4294967296) : Calls Try.prog 8 #[.int .u32 now] w fun e w' => e = .returned (.pointer (some ⟨w.heap.size + 1, 0, none⟩)) ∧ (∃ F, WW F w' (w.heap.size + 1) now [] ∧ ∀ j, F j → w.heap.size ≤ j) ∧ Mod No w w' := by
  refine new_ok.mono ?_
  rintro e w' ⟨rfl, hW, hm, _⟩
  refine ⟨rfl, ⟨_, ⟨_, _, _, rfl, hW, WInv.new now, hn⟩, fun j hj => ?_⟩, hm⟩
  rcases hj with rfl | rfl | ⟨k, hk, rfl⟩
  · omega
  · omega
  · simp only; omega
theorem dropW (h : WW F w g now L) {id : Int} (hx : In64 id) : Calls Try.prog 11 #[.pointer (some ⟨g, 0, none⟩), .int .i64 id] w fun e w' => e = .returned (.bool (rhas L id)) ∧ WW F w' g now (rdrop L id) ∧ Mod F w w' := by
  obtain ⟨bs, bi, M, rfl, hW, hv, hn⟩ := h
  refine (drop_ok hW hv hx).mono ?_
  rintro e w' ⟨rfl, h1, h2, _⟩
  exact ⟨rfl, ⟨_, _, _, rfl, h1, hv.drop id, hn⟩, h2⟩
theorem atW (h : WW F w g now L) {id : Int} (hx : In64 id) : Calls Try.prog 16 #[.pointer (some ⟨g, 0, none⟩), .int .i64 id] w fun e w' => e = .returned (.tuple #[.int .u32 (rat L id), .bool (rhas L id)]) ∧ w' = w := by
  obtain ⟨bs, bi, M, rfl, hW, hv, hn⟩ := h
  exact at_ok hW hv hx
theorem nowW (h : WW F w g now L) : Calls Try.prog 19 #[.pointer (some ⟨g, 0, none⟩)] w fun e w' => e = .returned (.int .u32 now) ∧ w' = w := by
  obtain ⟨bs, bi, M, rfl, hW, hv, hn⟩ := h
  exact now_ok hW
theorem countW (h : WW F w g now L) : Calls Try.prog 18 #[.pointer (some ⟨g, 0, none⟩)] w fun e w' => e = .returned (.int .i64 L.length) ∧ w' = w := by
  obtain ⟨bs, bi, M, rfl, hW, hv, hn⟩ := h
  rw [← hv.count]
  exact count_ok hW
theorem setW (h : WW F w g now L) {id : Int} (hx : In64 id) {a : Nat} (ha : a < 4294967296) : Calls Try.prog 9 #[.pointer (some ⟨g, 0, none⟩), .int .i64 id, .int .u32 (a : Int)] w fun e w' => e = .returned (.tuple #[]) ∧ WW F w' g now (rset L id a) ∧ Mod F w w' := by
  obtain ⟨bs, bi, M, rfl, hW, hv, hn⟩ := h
  refine (set_ok hW hv hx ha hn).mono ?_
  rintro e w' ⟨rfl, h1, h2, _⟩
  have h3 := (hv.drop id).set (id := id) (a := a) (s := slotOf a now) mdrop_none (Nat.mod_lt _ (by omega)) (fun hlt => by unfold slotOf; rw [Nat.mod_eq_of_lt (show now + 1 < 4294967296 by omega)])
  have e : rset (rdrop L id) id a = rset L id a := by
    unfold rset
    congr 1
    exact (has_not (L := rdrop L id) (fun p hp => (mem_rdrop.1 hp).2)).2.2
  rw [e] at h3
  exact ⟨rfl, ⟨_, _, _, rfl, h1, h3, hn⟩, h2⟩
def TickW (F : Nat → Prop) (w : World) (g now : Nat) (L : List Due) (e : Ending) (w' : World) : Prop :=
  ∃ A c, e = .returned (.slice A (tdue L now).length c) ∧ RowAt (fun b => w.heap.size ≤ b) w' A ((tdue L now).map fun p => Value.int .i64 p.1) ∧ WW F w' g (tnow now) (trest L now) ∧ Mod F w w'
theorem tickW (h : WW F w g now L) (hl : L.length ≤ 1000000) : Calls Try.prog 14 #[.pointer (some ⟨g, 0, none⟩)] w (TickW F w g now L) := by
  obtain ⟨bs, bi, M, rfl, hW, hv, hn⟩ := h
  unfold TickW tdue tnow trest
  by_cases hlt : now < 2147483647
  · simp only [if_pos hlt]
    refine (tick_ok hW hv hlt (by have := hv.count; omega)).mono ?_
    rintro e w' ⟨A, c, rfl, hr, h1, h2⟩
    exact ⟨A, c, rfl, hr, ⟨_, _, _, rfl, h1, hv.ticked hlt, by omega⟩, h2⟩
  · simp only [if_neg hlt]
    refine (tick_end hW (by omega)).mono ?_
    rintro e w' ⟨rfl, rfl⟩
    exact ⟨none, 0, rfl, .nil _ _ _, ⟨_, _, _, rfl, hW, hv, hn⟩, Mod.refl _ _⟩
def TickR (S : Nat → Prop) (w : World) (g now : Nat) (L : List Due) (e : Ending) (w' : World) : Prop :=
  ∃ A c, e = .returned (.slice A (tdue L now).length c) ∧ RowAt (fun b => w.heap.size ≤ b) w' A ((tdue L now).map fun p => Value.int .i64 p.1) ∧ RefW S w' g (tnow now) (trest L now) ∧ Mod (fun j => j = g) w w'
theorem tickR (h : RefW S w g now L) (hl : L.length ≤ 1000000) : Calls Try.prog 15 #[.pointer (some ⟨g, 0, none⟩)] w (TickR S w g now L) := by
  unfold TickR tdue tnow trest
  by_cases hlt : now < 2147483647
  · simp only [if_pos hlt]
    exact ref_tick_ok h hlt hl
  · simp only [if_neg hlt]
    refine (ref_tick_end h (by omega)).mono ?_
    rintro e w' ⟨rfl, rfl⟩
    exact ⟨none, 0, rfl, .nil _ _ _, h, Mod.refl _ _⟩
theorem refW_new {S : Nat → Prop} {w : World} {g now : Nat} (hb : w.heap[g]? = some (.cells #[.slice none 0 0, .int .u32 now] 30 (0, 0))) (hg : ¬ S g) (hn : ∀ b, w.heap.size ≤ b → S b) : RefW S w g now [] := ⟨⟨none, 0, hb, Nat.le_refl _, .nil _ _ _⟩, hg, hn⟩
end

/-! ### Ints -/
theorem ints_take {xs ys : List Int} {k : Nat} (hx : k < xs.length) (hy : k < ys.length) (h : xs.take k = ys.take k) : xs.take (k + 1) = ys.take (k + 1) ↔ xs[k] = ys[k] := by
  constructor
  · intro f
    rw [List.take_succ_eq_append_getElem hx, List.take_succ_eq_append_getElem hy, h] at f
    have f2 := List.append_cancel_left f
    exact List.head_eq_of_cons_eq f2
  · intro f
    rw [List.take_succ_eq_append_getElem hx, List.take_succ_eq_append_getElem hy, h, f]
theorem ints_ok {S1 S2 : Nat → Prop} {w : World} {A B : Option Addr} {c d : Nat} {xs ys : List Int} (hx : RowAt S1 w A (xs.map fun x => Value.int .i64 x)) (hy : RowAt S2 w B (ys.map fun x => Value.int .i64 x)) (hl : xs.length ≤ 1000000) (hl2 : ys.length ≤ 1000000) :
    Calls Try.prog 13 #[.slice A xs.length c, .slice B ys.length d] w fun e w' => e = .returned (.bool (decide (xs = ys))) ∧ Mod No w w' := by
  obtain ⟨r, hr⟩ : ∃ r, r = decide (xs = ys) := ⟨_, rfl⟩
  obtain ⟨n, hn⟩ : ∃ n, n = xs.length := ⟨_, rfl⟩
  obtain ⟨m, hm⟩ : ∃ m, m = ys.length := ⟨_, rfl⟩
  rw [← hr]
  rw [← hn] at hl ⊢
  rw [← hm] at hl2 ⊢
  have HA := Lib.hid (And.intro hr (And.intro hn hm))
  clear hr hn hm
  by_cases hne : n = m
  · subst hne
    go_enter Try.func13, Try.ntmps13
    go_wp2
    go_loopw [5] (fun i wr => ∃ k : Nat, i = .int .i64 k ∧ k ≤ n ∧ xs.take k = ys.take k ∧ Mod No w wr) (fun i _ => n - (intOf i).toNat)
    case atStart => exact ⟨0, rfl, by omega, rfl, Mod.refl _ _⟩
    case round =>
      obtain ⟨k, rfl, hk, heq, hmr⟩ := hrel
      have HE := Lib.hid (And.intro heq hmr)
      by_cases hlt : k < n
      · obtain ⟨_, h1, h2⟩ := HA.out
        have hx' := (hx.keeps (hmr.keeps (fun _ _ _ f => f)))
        have hy' := (hy.keeps (hmr.keeps (fun _ _ _ f => f)))
        obtain ⟨b1, o1, rfl, _, _, hc1⟩ := hx'.open (by intro f; have := congrArg List.length f; simp at this; subst this; simp at h1; omega)
        obtain ⟨b2, o2, rfl, _, _, hc2⟩ := hy'.open (by intro f; have := congrArg List.length f; simp at this; subst this; simp at h2; omega)
        have c1 := hc1 k (.int .i64 xs[k]) (by simp [List.getElem?_eq_getElem (show k < xs.length by omega)])
        have c2 := hc2 k (.int .i64 ys[k]) (by simp [List.getElem?_eq_getElem (show k < ys.length by omega)])
        have hik := ints_take (show k < xs.length by omega) (show k < ys.length by omega) heq
        have HI := Lib.hid hik
        generalize xs[k] = x at c1 hik HI
        generalize ys[k] = y at c2 hik HI
        clear hc1 hc2 hx' hy' h1 h2 heq hmr hik
        by_cases hxy : x = y
        · have ht : (x != y) = false := by simpa using hxy
          have HXY := Lib.hid hxy
          clear hxy
          go_wp2
          go_quiet (fail)
          go_wp2
          go_roundw
          case rel => exact ⟨k + 1, by go_num, by omega, HI.out.2 HXY.out, HE.out.2.drewN _⟩
          case measure => simp [intOf]; omega
        · have ht : (x != y) = true := by simpa using hxy
          have HXY := Lib.hid hxy
          clear hxy
          go_wp2
          go_quiet (fail)
          go_wp2
          go_ret
          refine ⟨?_, HE.out.2.drewN _⟩
          rw [HA.out.1, decide_eq_false (fun f => HXY.out (HI.out.1 (by rw [f])))]
          rfl
      · have hkn : k = n := by omega
        subst hkn
        clear heq hmr
        go_wp2
        go_ret
        refine ⟨?_, HE.out.2⟩
        have := HE.out.1
        obtain ⟨h0, h1, h2⟩ := HA.out
        rw [List.take_of_length_le (by omega), List.take_of_length_le (by omega)] at this
        rw [h0, decide_eq_true this]
        rfl
  · have ht : ((n : Int) != (m : Int)) = true := by simp; omega
    have HNE := Lib.hid hne
    go_enter Try.func13, Try.ntmps13
    go_wp2
    go_ret
    obtain ⟨h0, h1, h2⟩ := HA.out
    refine ⟨?_, Mod.refl _ _⟩
    rw [h0, decide_eq_false (fun f => HNE.out (by rw [h1, h2, f]))]
    rfl

end Go.Proofs.Ytlbdpofgcipjjaa
