/-
  What the laws call besides: lists of tenants that may be asked; whole settings and changes loaded under names of their own.
-/
import Derived.Test.YtcnemhhbihhcfaaOpenC
namespace Go.Proofs.Ytcnemhhbihhcfaa
open Go.RowKit
set_option linter.unusedVariables false

def conLoad (v : Value) : Sem Value := Instr.loadAt 48 v
@[go_sem ↓] theorem con_load_fold (v : Value) : Instr.loadAt 48 v = conLoad v := rfl
def chgLoad (v : Value) : Sem Value := Instr.loadAt 38 v
@[go_sem ↓] theorem chg_load_fold (v : Value) : Instr.loadAt 38 v = chgLoad v := rfl
theorem conLoad_run {W : World} {b : Nat} {CA : Array Value} (h : W.heap[b]? = some (.cells CA 48 (0, 0))) (hc : CA.size = 29) : (conLoad (.pointer (some ⟨b, 0, none⟩))).run Try.prog W = .ok (.agg CA) W := by
  simp only [conLoad, Instr.loadAt, Instr.sureAddr, Sem.run_bind, Sem.run_pure, Result.andThen_ok]
  exact run_loadVar_row W b _ _ CA (0, 0) _ h Try.underlying48 rfl (by rw [conSize, hc])
theorem chgLoad_run {W : World} {b : Nat} {CA : Array Value} (h : W.heap[b]? = some (.cells CA 38 (0, 0))) (hc : CA.size = 35) : (chgLoad (.pointer (some ⟨b, 0, none⟩))).run Try.prog W = .ok (.agg CA) W := load_chg h hc
/-- The tenant within a change that lies in a block of its own. -/
theorem chgTen_run {W : World} {b : Nat} {put : Bool} {name : List UInt8} {x : TV} (h : W.heap[b]? = some (.cells (cChg put name x) 38 (0, 0))) : (tenLoad (.pointer (some ⟨b, 2, none⟩))).run Try.prog W = .ok (.agg x.cells.toArray) W :=
  tenLoad_mid W b 2 x.cells rfl (fun j v hj => by rw [blk_cell h, cChg2]; exact hj)
theorem bytes_same {S S' : Nat → Prop} {w : World} (A B : Option Addr) (c d : Nat) (xs : List UInt8) (hx : RowAt S w A (bcells xs)) (hy : RowAt S' w B (bcells xs)) :
    Calls Try.prog 20 #[.slice A xs.length c, .slice B xs.length d] w fun e w' => e = .returned (.bool true) ∧ w' = w := by
  have h := bytes_ok A B c d xs xs hx hy
  simpa using h
theorem light_of {t : Ten} (h : light t = true) : t.name.length ≤ 300 ∧ t.pool.length ≤ 300 ∧ t.statics.length ≤ 300 ∧ t.twices.length ≤ 300 := by
  simp only [light, Bool.and_eq_true, decide_eq_true_eq] at h
  exact ⟨h.1.1.1, h.1.1.2, h.1.2, h.2⟩

/-- All light, and no more than so many? -/
def lights (l : List TV) (most : Nat) : Bool := (l.take most).all (fun x => light x.t) && decide (l.length ≤ most)
theorem lights_of {l : List TV} {most : Nat} (h : lights l most = true) : l.length ≤ most ∧ ∀ x ∈ l, light x.t = true := by
  simp only [lights, Bool.and_eq_true, decide_eq_true_eq, List.all_eq_true] at h
  refine ⟨h.2, fun x hx => h.1 x ?_⟩
  rw [List.take_of_length_le h.2]
  exact hx
set_option maxRecDepth 100000 in
theorem lights_ok {w : World} (l : List TV) (most : Nat) (hm : most ≤ 1000) (hl : l.length ≤ 9223372036854775807) {A : Option Addr} {c : Nat} (hrow : RowAt (fun _ => True) w A (tvCells l)) (ho : ∀ x ∈ l, x.Open w) :
    Calls Try.prog 19 #[.slice A l.length c, .int .i64 most] w fun e w' => e = .returned (.bool (lights l most)) ∧ Mod No w w' := by
  obtain ⟨n, hn⟩ : ∃ n, n = l.length := ⟨_, rfl⟩
  rw [← hn] at hl
  rw [← hn]
  have HN := Lib.hid hn
  have H0 := Lib.hid (And.intro (hrow.mono (S' := fun b => b < w.heap.size) (fun b hb _ => hb)) ho)
  obtain ⟨r, hr⟩ : ∃ r, r = lights l most := ⟨_, rfl⟩
  rw [← hr]
  have HR := Lib.hid hr
  clear hn hrow ho hr
  go_enter Try.func19, Try.ntmps19
  go_wp2
  go_loopw [5] (fun i wr => ∃ j : Nat, i = .int .i64 j ∧ j ≤ n ∧ j ≤ most ∧ ((l.take j).all (fun x => light x.t)) = true ∧ Mod No w wr) (fun i _ => most - (intOf i).toNat)
  case atStart => exact ⟨0, rfl, by omega, by omega, by simp, Mod.refl _ _⟩
  case round =>
    obtain ⟨j, rfl, hj, hjm, hall, hmw⟩ := hrel
    have HA := Lib.hid (And.intro hall hmw)
    clear hall hmw
    by_cases hlt : j < n
    · by_cases hlm : j < most
      · obtain ⟨z, hz⟩ : ∃ z, l[j]? = some z := ⟨_, List.getElem?_eq_getElem (by have := HN.out; omega)⟩
        have hkp : ∀ S, Keeps S w wr := fun S => HA.out.2.keeps (fun _ _ _ f => f)
        obtain ⟨b, o', rfl, _, hblt, hx0⟩ := (H0.out.1.keeps (hkp _)).elem TV.cells 33 TV.len (by omega) hz
        have hld := tenLoad_mid wr b (o' + j * 33) z.cells rfl hx0
        have hzo := H0.out.2 z (List.mem_of_getElem? hz)
        have hT := light_ok z.t (.agg z.cells.toArray) (hzo.val.keeps (hkp _))
        obtain ⟨TA, hTA⟩ : ∃ TA, TA = z.cells.toArray := ⟨_, rfl⟩
        rw [← hTA] at hT hld
        obtain ⟨lz, hlz⟩ : ∃ lz, lz = light z.t := ⟨_, rfl⟩
        rw [← hlz] at hT
        have HT := Lib.hid hT
        have HZ := Lib.hid (And.intro hz hlz)
        have p1 : (0:Int) ≤ j := by omega
        have p2 : (j:Int) < n := by omega
        have p3 : (j:Int) < most := by omega
        clear hz hkp hx0 hzo hT hTA hlz
        cases lz
        · go_wp2_with (first | (go_at_call 10; refine HT.out.mono ?_; rintro e w1 ⟨rfl, m1⟩; have H1 := Lib.hid m1; clear m1) | fail)
          go_ret
          refine ⟨?_, HA.out.2.trans H1.out⟩
          have : lights l most = false := by
            cases hq : lights l most with
            | false => rfl
            | true => have := (lights_of hq).2 z (List.mem_of_getElem? HZ.out.1); rw [← HZ.out.2] at this; simp at this
          rw [HR.out, this]; rfl
        · go_wp2_with (first | (go_at_call 10; refine HT.out.mono ?_; rintro e w1 ⟨rfl, m1⟩; have H1 := Lib.hid m1; clear m1) | fail)
          refine ⟨⟨j + 1, by go_num, by omega, by omega, ?_, HA.out.2.trans H1.out⟩, by simp [intOf]; omega⟩
          rw [take_snoc' HZ.out.1, List.all_append, HA.out.1]
          simp [← HZ.out.2]
      · obtain rfl : j = most := by omega
        have p0 : ¬ ((n : Int) ≤ j) := by omega
        have p1 : decide ((n : Int) ≤ j) = false := by simpa using p0
        have hres : lights l j = false := by simp only [lights, ← HN.out]; simp; intro _; omega
        have H9 := Lib.hid hres
        clear hres
        go_wp2
        go_ret
        exact ⟨by rw [HR.out, H9.out]; rfl, HA.out.2⟩
    · obtain rfl : n = j := by omega
      have p0 : ((n : Int) ≤ most) := by omega
      have p1 : decide ((n : Int) ≤ most) = true := by simpa using p0
      have hres : lights l most = true := by
        have e : l.take most = l.take n := by rw [List.take_of_length_le (by have := HN.out; omega), List.take_of_length_le (by have := HN.out; omega)]
        simp only [lights, e, HA.out.1, ← HN.out, Bool.true_and, decide_eq_true_eq]
        omega
      have H9 := Lib.hid hres
      clear hres
      go_wp2
      go_ret
      exact ⟨by rw [HR.out, H9.out]; rfl, HA.out.2⟩

end Go.Proofs.Ytcnemhhbihhcfaa
