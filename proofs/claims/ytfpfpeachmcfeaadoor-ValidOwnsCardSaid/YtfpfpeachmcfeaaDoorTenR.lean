/-
  valid.Tenant's small closures.
-/
import Derived.Test.YtfpfpeachmcfeaaDoorFstN
namespace Go.Proofs.YtfpfpeachmcfeaaDoor
open Go.RowKit
set_option linter.unusedVariables false
set_option linter.unusedSimpArgs false
attribute [local go_sem ↓] Go.wp_at_zero Go.wp_at_succ

def badVni (t : Ten) : Bool := decide (t.vni = 0) || decide (16777215 < t.vni)
def badPool (t : Ten) : Bool := decide (8 < t.pool.length) || decide (0 ∈ t.pool) || !decide t.pool.Nodup
def badPorts (t : Ten) : Bool := decide (t.lo < 1) || decide (t.hi < t.lo)
def badFilter (t : Ten) : Bool := decide (t.filter < 0) || decide (2 < t.filter)
def badQuota (t : Ten) : Bool := decide (t.sess < 1) || decide (256 < t.sess) || decide (t.queue < 1) || decide (64 < t.queue) || decide (1000000 < t.rate) || decide (t.burst < 1) || decide (1000000 < t.burst)
def badVtep (t : Ten) : Bool := decide (t.vtep = 0)

/-- A tenant that stands in a block of its own. -/
structure Held (g : Nat) (x : TV) (w : World) : Prop where
  blk : w.heap[g]? = some (.cells x.cells.toArray 30 (0, 0))
  rows : x.Rows (fun b => b < w.heap.size) w
theorem Held.keep {g : Nat} {x : TV} {w w' : World} (h : Held g x w) (hm : Mod No w w') : Held g x w' :=
  ⟨hm.obj h.blk (fun f => f), (h.rows.keeps (hm.keeps (fun _ _ _ f => f))).imp (fun b hb => by have := hm.size; omega)⟩
/-- A closure's answer. -/
def Says (b : Bool) (w : World) : Ending → World → Prop := fun e w' => e = .returned (.bool b) ∧ Mod No w w'

theorem vniC_ok {g : Nat} {x : TV} {w : World} (h : Held g x w) : Calls Tryd.prog 44 #[.pointer (some ⟨g, 0, none⟩)] w (Says (badVni x.t) w) := by
  have c0 : w.cell? ⟨g, 1, none⟩ = some (.int .u32 (x.t.vni : Int)) := (blk_cell h.blk 1).trans rfl
  obtain ⟨v, hv⟩ : ∃ v, v = x.t.vni := ⟨_, rfl⟩
  have hB : badVni x.t = (decide (v = 0) || decide (16777215 < v)) := by rw [hv]; rfl
  rw [← hv] at c0
  rw [hB]
  clear hB hv h
  unfold Says
  go_enter Tryd.func44, Tryd.ntmps44
  go_wp2
  all_goals
    go_ret
    exact ⟨by (show Ending.returned (.bool _) = Ending.returned (.bool _); refine congrArg (fun b => Ending.returned (.bool b)) ?_; first | rfl | (simp; done) | (rw [Bool.eq_iff_iff]; simp only [Bool.or_eq_true, decide_eq_true_eq, beq_iff_eq, true_iff, iff_true]; omega)), Mod.refl _ _⟩
theorem vtepC_ok {g : Nat} {x : TV} {w : World} (h : Held g x w) : Calls Tryd.prog 49 #[.pointer (some ⟨g, 0, none⟩)] w (Says (badVtep x.t) w) := by
  have c0 : w.cell? ⟨g, 10, none⟩ = some (.int .u32 (x.t.vtep : Int)) := (blk_cell h.blk 10).trans rfl
  obtain ⟨v, hv⟩ : ∃ v, v = x.t.vtep := ⟨_, rfl⟩
  have hB : badVtep x.t = (decide (v = 0)) := by rw [hv]; rfl
  rw [← hv] at c0
  rw [hB]
  clear hB hv h
  unfold Says
  go_enter Tryd.func49, Tryd.ntmps49
  go_wp2
  all_goals
    go_ret
    exact ⟨by (show Ending.returned (.bool _) = Ending.returned (.bool _); refine congrArg (fun b => Ending.returned (.bool b)) ?_; first | rfl | (simp; done) | (rw [Bool.eq_iff_iff]; simp only [Bool.or_eq_true, decide_eq_true_eq, beq_iff_eq, true_iff, iff_true]; omega)), Mod.refl _ _⟩
theorem portsC_ok {g : Nat} {x : TV} {w : World} (h : Held g x w) : Calls Tryd.prog 46 #[.pointer (some ⟨g, 0, none⟩)] w (Says (badPorts x.t) w) := by
  have c0 : w.cell? ⟨g, 24, none⟩ = some (.int .u16 (x.t.lo : Int)) := (blk_cell h.blk 24).trans rfl
  have c1 : w.cell? ⟨g, 25, none⟩ = some (.int .u16 (x.t.hi : Int)) := (blk_cell h.blk 25).trans rfl
  obtain ⟨a, ha⟩ : ∃ a, a = x.t.lo := ⟨_, rfl⟩
  obtain ⟨b, hb⟩ : ∃ b, b = x.t.hi := ⟨_, rfl⟩
  have hB : badPorts x.t = (decide (a < 1) || decide (b < a)) := by rw [ha, hb]; rfl
  rw [← ha] at c0
  rw [← hb] at c1
  rw [hB]
  clear hB ha hb h
  unfold Says
  go_enter Tryd.func46, Tryd.ntmps46
  go_wp2
  all_goals
    go_ret
    exact ⟨by (show Ending.returned (.bool _) = Ending.returned (.bool _); refine congrArg (fun b => Ending.returned (.bool b)) ?_; first | rfl | (simp; done) | (rw [Bool.eq_iff_iff]; simp only [Bool.or_eq_true, decide_eq_true_eq, beq_iff_eq, true_iff, iff_true]; omega)), Mod.refl _ _⟩
theorem quotaC_ok {g : Nat} {x : TV} {w : World} (h : Held g x w) : Calls Tryd.prog 48 #[.pointer (some ⟨g, 0, none⟩)] w (Says (badQuota x.t) w) := by
  have c0 : w.cell? ⟨g, 29, none⟩ = some (.int .i64 x.t.sess) := (blk_cell h.blk 29).trans rfl
  have c1 : w.cell? ⟨g, 30, none⟩ = some (.int .i64 x.t.queue) := (blk_cell h.blk 30).trans rfl
  have c2 : w.cell? ⟨g, 31, none⟩ = some (.int .u32 (x.t.rate : Int)) := (blk_cell h.blk 31).trans rfl
  have c3 : w.cell? ⟨g, 32, none⟩ = some (.int .u32 (x.t.burst : Int)) := (blk_cell h.blk 32).trans rfl
  obtain ⟨a, ha⟩ : ∃ a, a = x.t.sess := ⟨_, rfl⟩
  obtain ⟨b, hb⟩ : ∃ b, b = x.t.queue := ⟨_, rfl⟩
  obtain ⟨c, hc⟩ : ∃ c, c = x.t.rate := ⟨_, rfl⟩
  obtain ⟨d, hd⟩ : ∃ d, d = x.t.burst := ⟨_, rfl⟩
  have hB : badQuota x.t = (decide (a < 1) || decide (256 < a) || decide (b < 1) || decide (64 < b) || decide (1000000 < c) || decide (d < 1) || decide (1000000 < d)) := by rw [ha, hb, hc, hd]; rfl
  rw [← ha] at c0
  rw [← hb] at c1
  rw [← hc] at c2
  rw [← hd] at c3
  rw [hB]
  clear hB ha hb hc hd h
  unfold Says
  go_enter Tryd.func48, Tryd.ntmps48
  go_wp2
  all_goals
    go_ret
    exact ⟨by (show Ending.returned (.bool _) = Ending.returned (.bool _); refine congrArg (fun b => Ending.returned (.bool b)) ?_; first | rfl | (simp; done) | (rw [Bool.eq_iff_iff]; simp only [Bool.or_eq_true, decide_eq_true_eq, beq_iff_eq, true_iff, iff_true]; omega)), Mod.refl _ _⟩

end Go.Proofs.YtfpfpeachmcfeaaDoor
