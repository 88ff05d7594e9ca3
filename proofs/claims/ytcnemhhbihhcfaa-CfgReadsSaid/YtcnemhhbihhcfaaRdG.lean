/-
  Package cfg: OpenTenant, OpenConfig, OpenChange.
-/
import Derived.Test.YtcnemhhbihhcfaaRdF
import Derived.Test.YtcnemhhbihhcfaaLawH
namespace Go.Proofs.Ytcnemhhbihhcfaa
open Go.RowKit
set_option linter.unusedVariables false

theorem results_cell2 {P : Program} {fn : Func} {p q r : Tmp} {ty : TypeId} (h : fn.results = #[.cell p ty, .tmp q, .tmp r]) (tmps : Array Value) (w : World) (g : Nat) (t : TypeId) (cs : Array Value) (fr : Nat × Nat) (d : TypeDesc)
    (hp : tmps.getD p undef = .pointer (some ⟨g, 0, none⟩)) (hg : w.heap[g]? = some (.cells cs t fr))
    (hu : P.underlying ty = some d) (hd : (match d with | .struct _ | .array _ _ => true | _ => false) = true) (hi : (P.info? ty).map (·.size) = some cs.size) :
    (results fn tmps).run P w = .ok (.tuple #[.agg cs, tmps.getD q undef, tmps.getD r undef]) w := by
  have hp' : tmps[p]?.getD undef = .pointer (some ⟨g, 0, none⟩) := by simpa using hp
  simp [results, h, hp', asAddr, run_loadVar_row w g t ty cs fr d hg hu hd hi]

def tenZero : Sem Value := Instr.build 30 #[]
@[go_sem ↓] theorem ten_zero_fold (ρ : Operand → Value) (dst : Option Tmp) (ty : TypeId) (pos : String) (after : Array Edge) (g : Option (Nat × Bool)) :
    execOp ρ { dst := dst, op := .build 30 #[], type := ty, pos := pos, after := after, guard := g } = (do pure (Next.value (← tenZero)) : Sem Next) := by
  show (do pure (Next.value (← Instr.build 30 (#[].map fun (i, x) => (i, ρ x)))) : Sem Next) = _
  simp only [Array.map_empty]
  rfl
set_option maxRecDepth 100000 in
theorem tenZero_run : ∀ W, tenZero.run Try.prog W = .ok (.agg zTen) W := fun W => by kernel_rfl
theorem tenStore_row {W : World} {b : Nat} {old CA : Array Value} (h : W.heap[b]? = some (.cells old 30 (0, 0))) (ho : old.size = 33) (hc : CA.size = 33) (h1 : CA.all (·.oneCell') = true) :
    (tenStore (.pointer (some ⟨b, 0, none⟩)) (.agg CA)).run Try.prog W = .ok () (W.setRow b CA) := by
  simp only [tenStore, Instr.storeAt, Instr.sureAddr, Sem.run_bind, Sem.run_pure, Result.andThen_ok]
  exact run_storeVar_row _ _ _ _ old CA h (by rw [tenSize, hc]) (by rw [ho, hc]) h1

/-- What OpenTenant tells: a tenant, its bytes, an error. -/
def otn (B : List UInt8) : Ten × Nat × Nat := if (rten B (0, false)).2.2 = true then (.zero, 0, 70) else ((rten B (0, false)).1, (rten B (0, false)).2.1, 0)
def TV.zero : TV := ⟨.zero, .slice none 0 0, .slice none 0 0, .slice none 0 0⟩
theorem TV.zero_rows (S : Nat → Prop) (w : World) : TV.zero.Rows S w := ⟨none, 0, none, 0, none, 0, rfl, rfl, rfl, .nil _ _ _, .nil _ _ _, .nil _ _ _⟩

set_option maxRecDepth 100000 in
set_option maxHeartbeats 1000000 in
theorem openTenant_ok {w : World} {A : Option Addr} {c : Nat} (B : List UInt8) (hrow : RowAt (fun b => b < w.heap.size) w A (bcells B)) (hc : B.length ≤ c) (hB : B.length ≤ 100000000) :
    Calls Try.prog 17 #[.slice A B.length c] w fun e w' => ∃ x : TV, e = .returned (.tuple #[.agg x.cells.toArray, .int .i64 ((otn B).2.1 : Nat), .int .i64 ((otn B).2.2 : Nat)]) ∧ x.t = (otn B).1 ∧ x.Rows (fun b => w.heap.size ≤ b) w' ∧ Mod No w w' := by
  obtain ⟨W, hW⟩ : ∃ W, W = ((w.alloc (.cells zTen 30)).alloc (.cells #[.slice A B.length c, .bool true, .int .i64 0, .bool false] 73)).alloc (.cells zTen 30) := ⟨_, rfl⟩
  have hmW : Mod No w W := by rw [hW]; exact (((Mod.refl _ _).alloc _).alloc _).alloc _
  have hsz : W.heap.size = w.heap.size + 3 := by rw [hW]; simp
  have hX : W.heap[w.heap.size]? = some (.cells zTen 30 (0, 0)) := by rw [hW]; exact at30 w _ _ _
  have hC : W.heap[w.heap.size + 1]? = some (rdObj A B.length c 0 false) := by rw [hW]; exact at31 w _ _ _
  have hT : W.heap[w.heap.size + 1 + 1]? = some (.cells zTen 30 (0, 0)) := by rw [hW]; exact at32 w _ _ _
  have HN := tenant_rd (w := W) (s0 := (0, false)) (S := fun b => b < w.heap.size) B hC (hrow.keeps (hmW.keeps (fun _ _ _ f => f))) (Nat.zero_le _) hc hB (by omega) (T := w.heap.size + 1 + 1) (o := 0) (by omega) (fun b hb => by omega) (pre := []) (post := []) (tt := 30) (by simpa using hT) rfl (by omega)
  obtain ⟨n, hn⟩ : ∃ n, n = B.length := ⟨_, rfl⟩
  rw [← hn] at hW HN
  rw [← hn]
  obtain ⟨q, hq⟩ : ∃ q, q = rten B (0, false) := ⟨_, rfl⟩
  have hot : otn B = if q.2.2 = true then (.zero, 0, 70) else (q.1, q.2.1, 0) := by rw [hq]; rfl
  rw [hot]
  rw [← hq] at HN
  obtain ⟨qt, at_, sh⟩ := q
  have HN := Lib.hid HN
  have HM := Lib.hid (And.intro hmW (And.intro hX hsz))
  have HW := Lib.hid hW
  have hal := tenAlloc_run
  have hzr := tenZero_run
  clear hmW hX hC hW hT hrow hc hB hn hot hq hsz
  cases sh
  · go_enter Try.func17, Try.ntmps17
    go_wp2_with fail
    rw [← HW.out]
    refine HN.out.mono ?_
    rintro e w1 ⟨rfl, x, k0, kl, k1, k2, kr, k3⟩
    simp only [List.nil_append, List.append_nil] at k2
    have d3 : w1.cell? ⟨w.heap.size + 1, 3, none⟩ = some (.bool false) := (blk_cell k1 3).trans rfl
    have d2 : w1.cell? ⟨w.heap.size + 1, 2, none⟩ = some (.int .i64 (at_ : Int)) := (blk_cell k1 2).trans rfl
    obtain ⟨TA, hTA⟩ : ∃ TA, TA = x.cells.toArray := ⟨_, rfl⟩
    have hT1 : w1.drew.heap[w.heap.size + 1 + 1]? = some (.cells TA 30 (0, 0)) := by rw [hTA]; exact k2
    have hX1 : w1.drew.heap[w.heap.size]? = some (.cells zTen 30 (0, 0)) := k3.obj HM.out.2.1 (by rintro (f | f) <;> omega)
    have hTs : TA.size = 33 := by rw [hTA]; rfl
    have hld : (tenLoad (.pointer (some ⟨w.heap.size + 1 + 1, 0, none⟩))).run Try.prog w1.drew = .ok (.agg TA) w1.drew := tenLoad_run hT1 hTs
    have hst : (tenStore (.pointer (some ⟨w.heap.size, 0, none⟩)) (.agg TA)).run Try.prog w1.drew = .ok () (w1.drew.setRow w.heap.size TA) := tenStore_row hX1 rfl hTs (by rw [hTA]; exact TV.one kr)
    have hmS : Mod (fun b => b = w.heap.size) w1 (w1.drew.setRow w.heap.size TA) := (Mod.refl (fun b => b = w.heap.size) w1).drew.trans (setRow_mod TA)
    have d2' : (w1.drew.setRow w.heap.size TA).cell? ⟨w.heap.size + 1, 2, none⟩ = some (.int .i64 (at_ : Int)) := hmS.cell d2 (by simp)
    have hres := setRow_heap w1.drew w.heap.size _ TA _ _ hX1
    have H1 := Lib.hid (And.intro hres (And.intro hTs (And.intro k0 (And.intro kr (And.intro k3 (And.intro hmS hTA))))))
    clear k0 kl k1 k2 kr k3 hTA hT1 hX1 hTs hmS hres
    go_wp2_with fail
    go_region_law (fail)
    all_goals
      go_wp2
      refine bodyPost_ret (results_cell2 rfl _ _ w.heap.size 30 TA (0, 0) _ rfl H1.out.1 Try.underlying30 rfl (by rw [tenSize, H1.out.2.1])) rfl ?_
      refine ⟨x, by rw [H1.out.2.2.2.2.2.2]; rfl, H1.out.2.2.1, ?_, ?_⟩
      · have hs3 := HM.out.2.2
        exact (H1.out.2.2.2.1.keeps (H1.out.2.2.2.2.2.1.keeps (fun b _ hb f => by omega))).imp (fun b hb => by omega)
      · have m1 : Mod No w w1 := HM.out.1.trans' H1.out.2.2.2.2.1 (fun i hi f => by rcases f with f | f <;> omega)
        exact m1.trans' H1.out.2.2.2.2.2.1 (fun i hi f => by omega)
  · go_enter Try.func17, Try.ntmps17
    go_wp2_with fail
    rw [← HW.out]
    refine HN.out.mono ?_
    rintro e w1 ⟨rfl, x, k0, kl, k1, k2, kr, k3⟩
    have d3 : w1.cell? ⟨w.heap.size + 1, 3, none⟩ = some (.bool true) := (blk_cell k1 3).trans rfl
    have hX1 : w1.heap[w.heap.size]? = some (.cells zTen 30 (0, 0)) := k3.obj HM.out.2.1 (by rintro (f | f) <;> omega)
    have hst : (tenStore (.pointer (some ⟨w.heap.size, 0, none⟩)) (.agg zTen)).run Try.prog w1 = .ok () (w1.setRow w.heap.size zTen) := tenStore_row hX1 rfl rfl (ten_one .zero none none none 0 0 0 0 0 0)
    have hres := setRow_heap w1 w.heap.size _ zTen _ _ hX1
    have H1 := Lib.hid (And.intro hres k3)
    clear k0 kl k1 k2 kr k3 hX1 hres
    go_wp2
    refine bodyPost_ret (results_cell2 rfl _ _ w.heap.size 30 zTen (0, 0) _ rfl H1.out.1 Try.underlying30 rfl (by rw [tenSize]; rfl)) rfl ?_
    refine ⟨TV.zero, rfl, rfl, TV.zero_rows _ _, ?_⟩
    have m1 : Mod No w w1 := HM.out.1.trans' H1.out.2 (fun i hi f => by rcases f with f | f <;> omega)
    exact m1.trans' (setRow_mod zTen) (fun i hi f => by omega)

end Go.Proofs.Ytcnemhhbihhcfaa
