/-
  Package sess, sixth part: slices.IndexFunc, ContainsFunc, Index, Contains at points; Allows.
-/
import Derived.Test.YtimbhkbdmcbodaaSessB
namespace Go.Proofs.Ytimbhkbdmcbodaa
open Go.RowKit
set_option linter.unusedVariables false

/-- The place of the first element of which q holds; -1. -/
def idxOf (q : Point → Bool) (l : List Point) : Int := match l.findIdx? q with | some i => (i : Int) | none => -1
theorem idxOf_some {q : Point → Bool} {l : List Point} {k : Nat} {x : Point} (hk : l[k]? = some x) (hq : q x = true) (hpre : ∀ j y, j < k → l[j]? = some y → q y = false) : idxOf q l = k := by
  have hlt : k < l.length := (List.getElem?_eq_some_iff.1 hk).1
  have hx : l[k] = x := (List.getElem?_eq_some_iff.1 hk).2
  have : l.findIdx? q = some k := by
    rw [List.findIdx?_eq_some_iff_getElem]
    exact ⟨hlt, by rw [hx]; exact hq, fun j hj => by simpa using hpre j _ hj (List.getElem?_eq_getElem (by omega))⟩
  rw [idxOf, this]
theorem idxOf_none {q : Point → Bool} {l : List Point} (hpre : ∀ j y, j < l.length → l[j]? = some y → q y = false) : idxOf q l = -1 := by
  have : l.findIdx? q = none := by
    rw [List.findIdx?_eq_none_iff]
    intro x hx
    obtain ⟨j, hj⟩ := List.getElem?_of_mem hx
    exact hpre j x (List.getElem?_eq_some_iff.1 hj).1 hj
  rw [idxOf, this]
theorem idxOf_lt (q : Point → Bool) (l : List Point) : -1 ≤ idxOf q l ∧ idxOf q l < l.length := by
  unfold idxOf
  split
  · rename_i i h
    have := (List.findIdx?_eq_some_iff_getElem.1 h).1
    omega
  · omega
theorem idxOf_any (q : Point → Bool) (l : List Point) : decide (0 ≤ idxOf q l) = l.any q := by
  unfold idxOf
  split
  · rename_i i h
    obtain ⟨h1, h2, _⟩ := List.findIdx?_eq_some_iff_getElem.1 h
    have : l.any q = true := List.any_eq_true.2 ⟨_, List.getElem_mem h1, h2⟩
    simp [this]
  · rename_i h
    have : l.any q = false := by
      rw [List.any_eq_false]
      intro x hx
      have := List.findIdx?_eq_none_iff.1 h x hx
      simp [this]
    simp [this]

/-- What a closure does that a library function is handed: it tells q of each point, and writes nothing that is there. -/
structure Tells (F : Nat → Prop) (fn : Nat) (cp : Value) (q : Point → Bool) (w : World) : Prop where
  enters : ∀ (a : Array Value) (W : World), (callFunc fn a).run Try.prog W = .ok (.enter fn a) W
  says : ∀ (W : World) (x : Point), Mod F w W → Calls Try.prog fn #[x.val, cp] W fun e W' => e = .returned (.bool (q x)) ∧ Mod No W W'

theorem indexFunc_ok' {S : Nat → Prop} (fn : Nat) (cp : Value) (q : Point → Bool) (A : Option Addr) (c : Nat) (l : List Point) (w : World) (hx : RowAt S w A (ptCells l)) (n : Nat) (hn : n = l.length) (hl : n ≤ 9223372036854775807) (hq : Tells No fn cp q w) :
    Calls Try.prog 50 #[.slice A n c, .func (.func fn) #[] #[cp]] w fun e w' => e = .returned (.int .i64 (idxOf q l)) ∧ Mod No w w' := by
  have HX := Lib.hid (hx.mono (S' := fun b => S b ∧ b < w.heap.size) (fun b hb hs => ⟨hs, hb⟩))
  have HQ := Lib.hid hq.says
  have hen := hq.enters
  have HN := Lib.hid hn
  clear hx hq hn
  go_enter Try.func50, Try.ntmps50
  go_wp2
  go_loopw [8] (fun i wr => ∃ k : Nat, i = .int .i64 k ∧ k ≤ n ∧ (∀ j y, j < k → l[j]? = some y → q y = false) ∧ Mod No w wr) (fun i _ => n - (intOf i).toNat)
  case atStart => exact ⟨0, rfl, by omega, by omega, Mod.refl _ _⟩
  case round =>
    obtain ⟨k, rfl, hk, hpre, hm⟩ := hrel
    have HP := Lib.hid hpre
    have HM := Lib.hid hm
    clear hpre
    by_cases hlt : k < n
    · obtain ⟨p, hp⟩ : ∃ p, l[k]? = some p := ⟨_, List.getElem?_eq_getElem (by have := HN.out; omega)⟩
      obtain ⟨b, o, rfl, _, _, hx0, hx1⟩ := pts_at (HX.out.keeps (hm.keeps (fun _ _ _ => id))) hp
      have HK := Lib.hid hp
      have p1 : (0:Int) ≤ k := by omega
      have p2 : (k:Int) < n := by omega
      clear hp hm
      go_wp2_with fail
      refine (HQ.out _ p HM.out).mono ?_
      rintro e w1 ⟨rfl, hm1⟩
      have HM1 := Lib.hid (HM.out.trans hm1)
      clear hm1
      cases hqp : q p
      · have HE := Lib.hid hqp
        clear hqp
        go_wp2
        refine ⟨⟨k + 1, by go_num, by omega, ?_, HM1.out⟩, by simp [intOf]; omega⟩
        intro j y hj hy
        rcases Nat.lt_or_ge j k with h | h
        · exact HP.out j y h hy
        · obtain rfl : j = k := by omega
          have := HK.out
          rw [hy] at this
          cases this
          exact HE.out
      · have HE := Lib.hid (idxOf_some HK.out hqp HP.out)
        clear hqp
        go_wp2
        go_ret
        exact ⟨by rw [HE.out]; rfl, HM1.out⟩
    · have hk' : k = n := by omega
      subst hk'
      have HI := Lib.hid (idxOf_none (q := q) (l := l) (fun j y hj => HP.out j y (by have := HN.out; omega)))
      go_wp2
      go_ret
      exact ⟨by rw [HI.out]; rfl, HM.out⟩

theorem indexFunc_ok {S : Nat → Prop} (fn : Nat) (cp : Value) (q : Point → Bool) (A : Option Addr) (c : Nat) (l : List Point) (w : World) (hx : RowAt S w A (ptCells l)) (hl : l.length ≤ 9223372036854775807) (hq : Tells No fn cp q w) :
    Calls Try.prog 50 #[.slice A l.length c, .func (.func fn) #[] #[cp]] w fun e w' => e = .returned (.int .i64 (idxOf q l)) ∧ Mod No w w' :=
  indexFunc_ok' fn cp q A c l w hx _ rfl hl hq
theorem containsFunc_ok {S : Nat → Prop} (fn : Nat) (cp : Value) (q : Point → Bool) (A : Option Addr) (c : Nat) (l : List Point) (w : World) (hx : RowAt S w A (ptCells l)) (hl : l.length ≤ 9223372036854775807) (hq : Tells No fn cp q w) :
    Calls Try.prog 41 #[.slice A l.length c, .func (.func fn) #[] #[cp]] w fun e w' => e = .returned (.bool (l.any q)) ∧ Mod No w w' := by
  have H := Lib.hid (fun W h => indexFunc_ok (S := fun b => S b ∧ b < w.heap.size) fn cp q A c l W ((hx.mono (fun b hb hs => ⟨hs, hb⟩)).keeps (Mod.keeps h (fun _ _ _ => id))) hl ⟨hq.enters, fun W' x h' => hq.says W' x (h.trans h')⟩)
  have HA := Lib.hid (idxOf_any q l)
  clear hx hq hl
  go_enter Try.func41, Try.ntmps41
  go_wp2_with fail
  refine (H.out _ (Mod.refl _ _)).mono ?_
  rintro e w1 ⟨rfl, hm⟩
  go_wp2
  go_ret
  exact ⟨by rw [← HA.out]; rfl, hm⟩

/-! ### Index, Contains -/
theorem index_ok' {S : Nat → Prop} (p : Point) (A : Option Addr) (c : Nat) (l : List Point) (w : World) (hx : RowAt S w A (ptCells l)) (n : Nat) (hn : n = l.length) (hl : n ≤ 9223372036854775807) :
    Calls Try.prog 51 #[.slice A n c, p.val] w fun e w' => e = .returned (.int .i64 (idxOf (fun x => decide (p = x)) l)) ∧ Mod No w w' := by
  have HX := Lib.hid (hx.mono (S' := fun b => S b ∧ b < w.heap.size) (fun b hb hs => ⟨hs, hb⟩))
  have HN := Lib.hid hn
  clear hx hn
  unfold Point.val
  go_enter Try.func51, Try.ntmps51
  go_wp2
  go_loopw [8] (fun i wr => ∃ k : Nat, i = .int .i64 k ∧ k ≤ n ∧ (∀ j y, j < k → l[j]? = some y → decide (p = y) = false) ∧ ∃ m, wr = (w.alloc (.cells #[.int .u32 p.ip, .int .u16 p.port] 26)).drewN m) (fun i _ => n - (intOf i).toNat)
  case atStart => exact ⟨0, rfl, by omega, by omega, 0, rfl⟩
  case round =>
    obtain ⟨k, rfl, hk, hpre, m, rfl⟩ := hrel
    have HP := Lib.hid hpre
    clear hpre
    by_cases hlt : k < n
    · obtain ⟨x, hp⟩ : ∃ x, l[k]? = some x := ⟨_, List.getElem?_eq_getElem (by have := HN.out; omega)⟩
      obtain ⟨b, o, rfl, _, _, hx0, hx1⟩ := pts_at HX.out hp
      have HK := Lib.hid hp
      have p1 : (0:Int) ≤ k := by omega
      have p2 : (k:Int) < n := by omega
      clear hp
      have hpq := point_beq p x
      by_cases hd : p = x
      · have hb : (p.ip == x.ip && p.port == x.port) = true := by rw [hpq]; simpa using hd
        have HE := Lib.hid (idxOf_some (q := fun y => decide (p = y)) HK.out (by simpa using hd) HP.out)
        clear hpq hd
        go_wp2
        go_quiet (fail)
        go_wp2
        all_goals first
          | (exfalso; simp_all; done)
          | (go_ret
             exact ⟨by rw [HE.out]; rfl, ((Mod.refl _ _).alloc _).trans (by repeat (first | with_reducible exact Mod.refl _ _ | refine Mod.drewN ?_ _ | refine Mod.drew ?_))⟩)
      · have hb : (p.ip == x.ip && p.port == x.port) = false := by rw [hpq]; simpa using hd
        have HD := Lib.hid hd
        clear hpq hd
        go_wp2
        go_quiet (fail)
        go_wp2
        all_goals first
          | (exfalso; simp_all; done)
          | (refine ⟨⟨k + 1, by go_num, by omega, ?_, _, rfl⟩, by simp [intOf]; omega⟩
             intro j y hj hy
             rcases Nat.lt_or_ge j k with h | h
             · exact HP.out j y h hy
             · obtain rfl : j = k := by omega
               have := HK.out
               rw [hy] at this
               cases this
               simpa using HD.out)
    · have hk' : k = n := by omega
      subst hk'
      have HI := Lib.hid (idxOf_none (q := fun y => decide (p = y)) (l := l) (fun j y hj => HP.out j y (by have := HN.out; omega)))
      go_wp2
      go_ret
      exact ⟨by rw [HI.out]; rfl, ((Mod.refl _ _).alloc _).trans (by repeat (first | with_reducible exact Mod.refl _ _ | refine Mod.drewN ?_ _ | refine Mod.drew ?_))⟩
theorem contains_ok {S : Nat → Prop} (p : Point) (A : Option Addr) (c : Nat) (l : List Point) (w : World) (hx : RowAt S w A (ptCells l)) (hl : l.length ≤ 9223372036854775807) :
    Calls Try.prog 43 #[.slice A l.length c, p.val] w fun e w' => e = .returned (.bool (l.any (fun x => decide (p = x)))) ∧ Mod No w w' := by
  have H := Lib.hid (fun W h => index_ok' (S := fun b => S b ∧ b < w.heap.size) p A c l W ((hx.mono (fun b hb hs => ⟨hs, hb⟩)).keeps (Mod.keeps h (fun _ _ _ => id))) _ rfl hl)
  have HA := Lib.hid (idxOf_any (fun x => decide (p = x)) l)
  clear hx hl
  unfold Point.val at *
  go_enter Try.func43, Try.ntmps43
  go_wp2_with fail
  refine (H.out _ ((Mod.refl _ _).alloc _)).mono ?_
  rintro e w1 ⟨rfl, hm⟩
  go_wp2
  go_ret
  exact ⟨by rw [← HA.out]; rfl, ((Mod.refl _ _).alloc _).trans hm⟩

/-! ### the closures -/
theorem peer1_ok (F : Nat → Prop) (w : World) (pb : Nat) (p : Point) (hF : ¬ F pb) (h : w.heap[pb]? = some (.cells #[.int .u32 p.ip, .int .u16 p.port] 26 (0, 0))) : Tells F 39 (.pointer (some ⟨pb, 0, none⟩)) (fun x => decide (x = p)) w := by
  refine ⟨fun a W => by go_simp, fun W x hm => ?_⟩
  have B := hm.obj h hF
  have k0 : W.cell? ⟨pb, 0, none⟩ = some (.int .u32 p.ip) := (blk_cell B 0).trans rfl
  have k1 : W.cell? ⟨pb, 1, none⟩ = some (.int .u16 p.port) := (blk_cell B 1).trans rfl
  have hpq := Lib.hid (point_beq x p)
  have z := lt_of_block B
  clear h hm B
  unfold Point.val
  go_enter Try.func39, Try.ntmps39
  go_wp2
  go_ret
  exact ⟨by rw [← hpq.out]; rfl, (Mod.refl _ _).alloc _⟩
theorem allows1_ok (F : Nat → Prop) (w : World) (pb : Nat) (p : Point) (hF : ¬ F pb) (h : w.heap[pb]? = some (.cells #[.int .u32 p.ip, .int .u16 p.port] 26 (0, 0))) : Tells F 42 (.pointer (some ⟨pb, 0, none⟩)) (fun x => x.ip == p.ip) w := by
  refine ⟨fun a W => by go_simp, fun W x hm => ?_⟩
  have B := hm.obj h hF
  have k0 : W.cell? ⟨pb, 0, none⟩ = some (.int .u32 p.ip) := (blk_cell B 0).trans rfl
  have z := lt_of_block B
  clear h hm B
  unfold Point.val
  go_enter Try.func42, Try.ntmps42
  go_wp2
  go_ret
  exact ⟨rfl, (Mod.refl _ _).alloc _⟩

/-! ### Allows -/
def allows (filter : Int) (l : List Point) (p : Point) : Bool :=
  if filter = 1 then l.any (fun x => x.ip == p.ip) else if filter = 2 then l.any (fun x => decide (p = x)) else true
theorem allows_ok {S : Nat → Prop} (f : Int) (p : Point) (A : Option Addr) (c : Nat) (l : List Point) (w : World) (hx : RowAt S w A (ptCells l)) (hl : l.length ≤ 9223372036854775807) :
    Calls Try.prog 27 #[.int .i64 f, .slice A l.length c, p.val] w fun e w' => e = .returned (.bool (allows f l p)) ∧ Mod No w w' := by
  have HX := Lib.hid (hx.mono (S' := fun b => S b ∧ b < w.heap.size) (fun b hb hs => ⟨hs, hb⟩))
  have HL := Lib.hid hl
  clear hx hl
  by_cases h1 : f = 1
  · have HA : Hid (allows f l p = l.any (fun x => x.ip == p.ip)) := by show _ = _; rw [allows, if_pos h1]
    subst h1
    unfold Point.val
    go_enter Try.func27, Try.ntmps27
    go_wp2_with fail
    refine (containsFunc_ok (S := fun b => S b ∧ b < w.heap.size) 42 _ (fun x => x.ip == p.ip) A c l _ (HX.out.keeps (Mod.keeps ((Mod.refl No _).alloc _) (fun _ _ _ => id))) HL.out (allows1_ok No _ _ p id (at10 w _))).mono ?_
    rintro e w1 ⟨rfl, hm⟩
    go_wp2
    go_ret
    exact ⟨by rw [HA.out]; rfl, ((Mod.refl _ _).alloc _).trans hm⟩
  · by_cases h2 : f = 2
    · have HA : Hid (allows f l p = l.any (fun x => decide (p = x))) := by show _ = _; rw [allows, if_neg h1, if_pos h2]
      subst h2
      have hc := Lib.hid (fun W h => contains_ok (S := fun b => S b ∧ b < w.heap.size) p A c l W (HX.out.keeps (Mod.keeps h (fun _ _ _ => id))) HL.out)
      unfold Point.val at *
      go_enter Try.func27, Try.ntmps27
      go_wp2_with fail
      refine (hc.out _ ((Mod.refl _ _).alloc _)).mono ?_
      rintro e w1 ⟨rfl, hm⟩
      go_wp2
      go_ret
      exact ⟨by rw [HA.out]; rfl, ((Mod.refl _ _).alloc _).trans hm⟩
    · have HA : Hid (allows f l p = true) := by show _ = _; rw [allows, if_neg h1, if_neg h2]
      have b1 : (f == 1) = false := by simpa using h1
      have b2 : (f == 2) = false := by simpa using h2
      clear h1 h2
      unfold Point.val
      go_enter Try.func27, Try.ntmps27
      go_wp2
      go_ret
      exact ⟨by rw [HA.out]; rfl, (Mod.refl _ _).alloc _⟩
end Go.Proofs.Ytimbhkbdmcbodaa
