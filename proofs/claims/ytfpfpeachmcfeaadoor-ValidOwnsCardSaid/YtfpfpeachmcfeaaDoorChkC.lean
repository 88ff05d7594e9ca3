/-
  valid.Check.
-/
import Derived.Test.YtfpfpeachmcfeaaDoorChkB
namespace Go.Proofs.YtfpfpeachmcfeaaDoor
open Go.RowKit
set_option linter.unusedVariables false
set_option linter.unusedSimpArgs false
attribute [local go_sem ↓] Go.wp_at_zero Go.wp_at_succ
attribute [local go_sem ↓] store_fold alloc_fold load_fold slice_op_fold ten_zero_fold con_load_fold
attribute [local go_sem] run_store_func

theorem box_con (CA : Array Value) (h : CA.size = 29) : ∀ W, (Instr.box 39 (.agg CA)).run Tryd.prog W = .ok (.pointer (some ⟨W.heap.size, 0, none⟩)) (W.alloc (.cells CA 39)) := by
  intro W
  go_simp

/-! ### plain -/
/-- What is taken ahead of the k-th tenant. -/
def takenAt (ip : Nat) (l : List TV) (k : Nat) : List Nat := ip :: (l.take k).flatMap (fun x => ownedN x.t)
def vMore (ip : Nat) (l : List TV) (k : Nat) (x : TV) : Int :=
  if (match (l.take k).getLast? with | some y => nameLe x.t.name y.t.name | none => false) then 90
  else if (l.take k).any (fun y => decide (y.t.vni = x.t.vni)) then 91
  else if (takenAt ip l k).any (fun y => decide (y ∈ ownedN x.t)) then 92 else 0
def vAt (B : TV → Bool) (ip : Nat) (l : List TV) (k : Nat) (x : TV) : Int := if vTen (B x) x.t = 0 then vMore ip l k x else vTen (B x) x.t
def vLoop (B : TV → Bool) (ip : Nat) (l : List TV) : Nat → List TV → Int
  | _, [] => 0
  | k, x :: r => if vAt B ip l k x = 0 then vLoop B ip l (k + 1) r else vAt B ip l k x
def vCheck (B : TV → Bool) (c : Con) (l : List TV) : Int :=
  if c.ip = 0 ∨ 1000 < c.drain ∨ 16 < l.length then 96 else vLoop B c.ip l 0 l
theorem vLoop_step {B : TV → Bool} {ip : Nat} {l : List TV} {k : Nat} {x : TV} (hk : l[k]? = some x) : vLoop B ip l k (l.drop k) = if vAt B ip l k x = 0 then vLoop B ip l (k + 1) (l.drop (k + 1)) else vAt B ip l k x := by
  obtain ⟨hlt, e⟩ := List.getElem?_eq_some_iff.1 hk
  rw [List.drop_eq_getElem_cons hlt, e]
  rfl
theorem vLoop_end {B : TV → Bool} {ip : Nat} {l : List TV} {k : Nat} (hk : l.length ≤ k) : vLoop B ip l k (l.drop k) = 0 := by rw [List.drop_eq_nil_of_le hk]; rfl
theorem takenAt_snoc {ip : Nat} {l : List TV} {k : Nat} {x : TV} (hk : l[k]? = some x) : takenAt ip l (k + 1) = takenAt ip l k ++ ownedN x.t := by
  obtain ⟨hlt, e⟩ := List.getElem?_eq_some_iff.1 hk
  unfold takenAt
  rw [List.take_succ_eq_append_getElem hlt, e, List.flatMap_append]
  simp
theorem takenAt_len {ip : Nat} {l : List TV} (h : ∀ x ∈ l, Short x.t) (k : Nat) : (takenAt ip l k).length ≤ 1 + k * 2000 := by
  induction k with
  | zero => simp [takenAt]
  | succ k ih =>
    by_cases hk : k < l.length
    · have hx := h l[k] (List.getElem_mem hk)
      rw [takenAt_snoc (List.getElem?_eq_getElem hk), List.length_append]
      have : (ownedN l[k].t).length ≤ 2000 := by
        unfold ownedN
        rw [List.length_append, rights_len]
        have := hx.1
        have := hx.2.1
        omega
      have h2 : (k + 1) * 2000 = k * 2000 + 2000 := Nat.succ_mul k 2000
      omega
    · have : takenAt ip l (k + 1) = takenAt ip l k := by
        unfold takenAt
        rw [List.take_of_length_le (by omega), List.take_of_length_le (by omega)]
      rw [this]
      exact Nat.le_trans ih (by omega)

def chkRules (gi g ga gk : Nat) (ip : Nat) (l : List TV) (k : Nat) (x : TV) : List RuleV :=
  [⟨90, 28, #[.pointer (some ⟨gi, 0, none⟩), .pointer (some ⟨g, 0, none⟩), .pointer (some ⟨ga, 0, none⟩)], match (l.take k).getLast? with | some y => nameLe x.t.name y.t.name | none => false⟩,
   ⟨91, 29, #[.pointer (some ⟨ga, 0, none⟩), .pointer (some ⟨g, 0, none⟩)], (l.take k).any (fun y => decide (y.t.vni = x.t.vni))⟩,
   ⟨92, 32, #[.pointer (some ⟨gk, 0, none⟩), .pointer (some ⟨g, 0, none⟩)], (takenAt ip l k).any (fun y => decide (y ∈ ownedN x.t))⟩]
theorem chkRules_first (gi g ga gk ip : Nat) (l : List TV) (k : Nat) (x : TV) : firstBad (chkRules gi g ga gk ip l k x) = vMore ip l k x := by
  unfold firstBad chkRules vMore
  generalize (match (l.take k).getLast? with | some y => nameLe x.t.name y.t.name | none => false) = a
  generalize (l.take k).any (fun y => decide (y.t.vni = x.t.vni)) = b
  generalize (takenAt ip l k).any (fun y => decide (y ∈ ownedN x.t)) = c
  cases a <;> cases b <;> cases c <;> rfl
theorem enterK1 : ∀ (a : Array Value) (W : World), (callFunc 28 a).run Tryd.prog W = .ok (.enter 28 a) W := enters_of Tryd.func28 (by kernel_rfl) rfl
theorem enterK2 : ∀ (a : Array Value) (W : World), (callFunc 29 a).run Tryd.prog W = .ok (.enter 29 a) W := enters_of Tryd.func29 (by kernel_rfl) rfl
theorem enterK3 : ∀ (a : Array Value) (W : World), (callFunc 32 a).run Tryd.prog W = .ok (.enter 32 a) W := enters_of Tryd.func32 (by kernel_rfl) rfl
theorem chkRules_enter (gi g ga gk ip : Nat) (l : List TV) (k : Nat) (x : TV) : ∀ r ∈ chkRules gi g ga gk ip l k x, ∀ (a : Array Value) (W : World), (callFunc r.fn a).run Tryd.prog W = .ok (.enter r.fn a) W := by
  intro r hr
  simp only [chkRules, List.mem_cons, List.not_mem_nil, or_false] at hr
  rcases hr with rfl | rfl | rfl
  · exact enterK1
  · exact enterK2
  · exact enterK3
/-- The three rules, asked. -/
theorem more_ok {gi g ga gk ip k n : Nat} {x : TV} {w : World} (h : Held g x w) (hsh : Short x.t) {A K : Option Addr} {ca ck : Nat} (l : List TV) (hk : k < l.length) (hl : l.length ≤ 1000)
    (ci : w.cell? ⟨gi, 0, none⟩ = some (.int .i64 k)) (hca : w.cell? ⟨ga, 0, none⟩ = some (.slice A k ca)) (hx : RowAt (fun b => b < w.heap.size) w A (tvCells l))
    (hck : w.cell? ⟨gk, 0, none⟩ = some (.slice K (takenAt ip l k).length ck)) (hrk : RowAt (fun b => b < w.heap.size) w K (numCells (takenAt ip l k))) (htl : (takenAt ip l k).length ≤ 1000000)
    (U : World) (gg : Nat) (hU : Mod No w U) (hgg : U.heap[gg]? = some (.cells (ruleCells (chkRules gi g ga gk ip l k x)).toArray 61 (0, 0))) :
    Calls Tryd.prog 27 #[.slice (some ⟨gg, 0, none⟩) 3 3] U fun e w' => e = .returned (.int .i64 (vMore ip l k x)) ∧ Mod No U w' := by
  have htk : RowAt (fun b => b < w.heap.size) w A (tvCells (l.take k)) := by
    rcases hx with h0 | ⟨b, o, rfl, hb, hc⟩
    · exact .inl (by rw [← tv_take l k (by omega), h0]; simp)
    · refine .inr ⟨b, o, rfl, hb, fun j v hj => hc j v ?_⟩
      rw [← tv_take l k (by omega)] at hj
      rw [List.getElem?_take] at hj
      split at hj
      · exact hj
      · cases hj
  have hf := first_ok (Q := fun b => b < U.heap.size) (c := 3) (A := some ⟨gg, 0, none⟩) (n := 3) (w := U) (chkRules gi g ga gk ip l k x) (.inr ⟨gg, 0, rfl, lt_of_block hgg, fun j v hj => by rw [Nat.zero_add, blk_cell hgg j, ← hj, List.getElem?_toArray]⟩) rfl (by show 3 ≤ 1000000; omega) (chkRules_enter gi g ga gk ip l k x) (fun j r W' hj _ hW' => by
    have mW := hU.trans hW'
    have h1 := h.keep mW
    have kp := mW.keeps (S := fun b => b < w.heap.size) (fun _ _ _ f => f)
    match j with
    | 0 => cases hj; exact orderC_ok h1 (l.take k) (by rw [List.length_take]; omega) (by omega) (mW.cell ci (fun f => f)) (mW.cell hca (fun f => f)) (htk.keeps kp)
    | 1 => cases hj; exact aheadC_ok h1 (l.take k) (by rw [List.length_take]; omega) (by rw [List.length_take]; omega) (mW.cell hca (fun f => f)) (htk.keeps kp)
    | 2 => cases hj; exact takenC_ok h1 (by have := hsh.1; omega) (by have := hsh.2.1; omega) (takenAt ip l k) htl (mW.cell hck (fun f => f)) ((hrk.keeps kp).mono (fun b hb _ => hb))
    | (j + 3) => simp [chkRules] at hj)
  rw [chkRules_first] at hf
  exact hf

end Go.Proofs.YtfpfpeachmcfeaaDoor
