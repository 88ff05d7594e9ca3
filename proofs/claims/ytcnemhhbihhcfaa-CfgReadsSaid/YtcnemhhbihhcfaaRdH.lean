/-
  Package cfg: OpenConfig.
-/
import Derived.Test.YtcnemhhbihhcfaaRdG
namespace Go.Proofs.Ytcnemhhbihhcfaa
open Go.RowKit
set_option linter.unusedVariables false

def conAlloc (v : Value) : Sem Value := Instr.alloc 48 true v
@[go_sem ↓] theorem con_alloc_fold (v : Value) : Instr.alloc 48 true v = conAlloc v := rfl
set_option maxRecDepth 100000 in
theorem conAlloc_run (W : World) : (conAlloc (.tuple #[])).run Try.prog W = .ok (.pointer (some ⟨W.heap.size, 0, none⟩)) (W.alloc (.cells zCon 48)) := by kernel_rfl
def conStore (p v : Value) : Sem Unit := Instr.storeAt 48 p v
@[go_sem ↓] theorem con_store_fold (p v : Value) : Instr.storeAt 48 p v = conStore p v := rfl
theorem conStore_row {W : World} {b : Nat} {old CA : Array Value} (h : W.heap[b]? = some (.cells old 48 (0, 0))) (ho : old.size = 29) (hc : CA.size = 29) (h1 : CA.all (·.oneCell') = true) :
    (conStore (.pointer (some ⟨b, 0, none⟩)) (.agg CA)).run Try.prog W = .ok () (W.setRow b CA) := by
  simp only [conStore, Instr.storeAt, Instr.sureAddr, Sem.run_bind, Sem.run_pure, Result.andThen_ok]
  exact run_storeVar_row _ _ _ _ old CA h (by rw [conSize, hc]) (by rw [ho, hc]) h1
def conZero : Sem Value := Instr.build 48 #[]
@[go_sem ↓] theorem con_zero_fold (ρ : Operand → Value) (dst : Option Tmp) (ty : TypeId) (pos : String) (after : Array Edge) (g : Option (Nat × Bool)) :
    execOp ρ { dst := dst, op := .build 48 #[], type := ty, pos := pos, after := after, guard := g } = (do pure (Next.value (← conZero)) : Sem Next) := by
  show (do pure (Next.value (← Instr.build 48 (#[].map fun (i, x) => (i, ρ x)))) : Sem Next) = _
  simp only [Array.map_empty]
  rfl
set_option maxRecDepth 100000 in
theorem conZero_run : ∀ W, conZero.run Try.prog W = .ok (.agg zCon) W := fun W => by kernel_rfl
theorem con_one (c : Con) (P : Option Addr) (a b : Nat) : (c.cells (.slice P a b)).all (·.oneCell') = true := by simp [Con.cells, Value.oneCell', u8v]

/-- What OpenConfig tells: settings, tenants, an error. -/
def ocf (B : List UInt8) : Con × List Ten × Nat := if (rcon B (0, false)).s.2 = false ∧ (rcon B (0, false)).s.1 = B.length then ((rcon B (0, false)).c, (rcon B (0, false)).l, 0) else (.zero, [], 70)

/-- What OpenConfig hands out: settings, an error. -/
def OpenConP (r : Con × List Ten × Nat) (w : World) (e : Ending) (w' : World) : Prop :=
  ∃ vt l, e = .returned (.tuple #[.agg (r.1.cells vt), .int .i64 (r.2.2 : Nat)]) ∧ l.map (·.t) = r.2.1 ∧ TVs w' w.heap.size vt l ∧ Mod No w w'
set_option maxRecDepth 100000 in
set_option maxHeartbeats 1000000 in
theorem openConfig_ok {w : World} {A : Option Addr} {c : Nat} (B : List UInt8) (hrow : RowAt (fun b => b < w.heap.size) w A (bcells B)) (hc : B.length ≤ c) (hB : B.length ≤ 100000000) :
    Calls Try.prog 25 #[.slice A B.length c] w (OpenConP (ocf B) w) := by
  obtain ⟨W, hW⟩ : ∃ W, W = ((w.alloc (.cells zCon 48)).alloc (.cells #[.slice A B.length c, .bool true, .int .i64 0, .bool false] 73)).alloc (.cells zCon 48) := ⟨_, rfl⟩
  have hmW : Mod No w W := by rw [hW]; exact (((Mod.refl _ _).alloc _).alloc _).alloc _
  have hsz : W.heap.size = w.heap.size + 3 := by rw [hW]; simp
  have hX : W.heap[w.heap.size]? = some (.cells zCon 48 (0, 0)) := by rw [hW]; exact at30 w _ _ _
  have hC : W.heap[w.heap.size + 1]? = some (rdObj A B.length c 0 false) := by rw [hW]; exact at31 w _ _ _
  have hT : W.heap[w.heap.size + 1 + 1]? = some (.cells zCon 48 (0, 0)) := by rw [hW]; exact at32 w _ _ _
  have HN := config_rd (w := W) (s := (0, false)) (S := fun b => b < w.heap.size) (C := w.heap.size + 1) (T := w.heap.size + 1 + 1) hC (hrow.keeps (hmW.keeps (fun _ _ _ f => f))) (Nat.zero_le _) hc hB (by omega) (by omega) (fun b hb => by omega) hT (by omega)
  obtain ⟨n, hn⟩ : ∃ n, n = B.length := ⟨_, rfl⟩
  rw [← hn] at hW HN
  rw [← hn]
  obtain ⟨q, hq⟩ : ∃ q, q = rcon B (0, false) := ⟨_, rfl⟩
  have hot : ocf B = if q.s.2 = false ∧ q.s.1 = n then (q.c, q.l, 0) else (.zero, [], 70) := by rw [hq, hn]; rfl
  rw [hot]
  rw [← hq] at HN
  obtain ⟨qc, qn, ql, at_, sh⟩ := q
  obtain ⟨eb, heb⟩ : ∃ eb, eb = (!sh && decide (at_ = n)) := ⟨_, rfl⟩
  have hif : (sh = false ∧ at_ = n) = (eb = true) := by
    rw [heb]
    cases sh <;> simp
  simp only [hif]
  obtain ⟨res, hres0⟩ : ∃ res, res = (if eb = true then (qc, ql, 0) else (Con.zero, [], 70) : Con × List Ten × Nat) := ⟨_, rfl⟩
  rw [← hres0]
  have HRES := Lib.hid hres0
  clear hres0
  have HN := Lib.hid HN
  have HM := Lib.hid (And.intro hmW (And.intro hX (And.intro hsz heb)))
  have HW := Lib.hid hW
  have hal := conAlloc_run
  have hzr := conZero_run
  clear hmW hX hC hW hT hrow hc hB hn hot hq hsz heb hif
  cases eb
  · go_enter Try.func25, Try.ntmps25
    go_wp2_with fail
    rw [← HW.out]
    refine HN.out.mono ?_
    rintro e w1 ⟨rfl, vt, l, k0, kl, k1, k2, kr, k3⟩
    have hX1 := k3.obj HM.out.2.1 (by rintro (f | f) <;> omega)
    have hE := ended_ok k1
    have hst : ∀ q, (conStore (.pointer (some ⟨w.heap.size, 0, none⟩)) (.agg zCon)).run Try.prog (w1.drewN q) = .ok () ((w1.drewN q).setRow w.heap.size zCon) := fun q => conStore_row (old := zCon) hX1 rfl rfl (con_one .zero none 0 0)
    have hres : ∀ q, ((w1.drewN q).setRow w.heap.size zCon).heap[w.heap.size]? = some (.cells zCon 48 (0, 0)) := fun q => setRow_heap (w1.drewN q) w.heap.size _ zCon _ _ hX1
    rw [← HM.out.2.2.2] at hE
    have HE := Lib.hid hE
    have H1 := Lib.hid (And.intro hres k3)
    clear k0 kl k1 k2 kr k3 hX1 hres hE
    go_wp2_with (first | (go_at_call 37; refine HE.out.mono ?_; rintro e w5 ⟨rfl, q5, rfl⟩; have hst5 := hst q5) | fail)
    refine bodyPost_ret (results_cell_tmp rfl _ _ w.heap.size 48 zCon (0, 0) _ rfl (H1.out.1 q5) Try.underlying48 rfl (by rw [conSize]; rfl)) rfl ?_
    rw [HRES.out, if_neg (by decide)]
    refine ⟨.slice none 0 0, [], rfl, rfl, ⟨⟨rfl, .inl ⟨rfl, rfl⟩⟩, by simp⟩, ?_⟩
    have m1 : Mod No w w1 := HM.out.1.trans' H1.out.2 (fun i hi f => by rcases f with f | f <;> omega)
    exact (m1.drewN q5).trans' (setRow_mod zCon) (fun i hi f => by omega)
  · go_enter Try.func25, Try.ntmps25
    go_wp2_with fail
    rw [← HW.out]
    refine HN.out.mono ?_
    rintro e w1 ⟨rfl, vt, l, k0, kl, k1, k2, kr, k3⟩
    obtain ⟨P, p, e1, _⟩ := own_rowAt kr.own
    have hX1 := k3.obj HM.out.2.1 (by rintro (f | f) <;> omega)
    have hE := ended_ok k1
    rw [← HM.out.2.2.2] at hE
    obtain ⟨TA, hTA⟩ : ∃ TA, TA = qc.cells vt := ⟨_, rfl⟩
    have hTs : TA.size = 29 := by rw [hTA]; rfl
    have hone : TA.all (·.oneCell') = true := by rw [hTA, e1]; exact con_one _ _ _ _
    have hT1 : w1.heap[w.heap.size + 1 + 1]? = some (.cells TA 48 (0, 0)) := by rw [hTA]; exact k2
    have hld : ∀ q, (conLoad (.pointer (some ⟨w.heap.size + 1 + 1, 0, none⟩))).run Try.prog (w1.drewN q) = .ok (.agg TA) (w1.drewN q) := fun q => conLoad_run (W := w1.drewN q) hT1 hTs
    have hst : ∀ q, (conStore (.pointer (some ⟨w.heap.size, 0, none⟩)) (.agg TA)).run Try.prog (w1.drewN q) = .ok () ((w1.drewN q).setRow w.heap.size TA) := fun q => conStore_row (old := zCon) hX1 rfl hTs hone
    have hres : ∀ q, ((w1.drewN q).setRow w.heap.size TA).heap[w.heap.size]? = some (.cells TA 48 (0, 0)) := fun q => setRow_heap (w1.drewN q) w.heap.size _ TA _ _ hX1
    have HE := Lib.hid hE
    have H1 := Lib.hid (And.intro hres (And.intro k3 (And.intro k0 (And.intro kr (And.intro hTA hTs)))))
    clear k0 kl k1 k2 kr k3 hX1 hres hE e1 hT1 hone hTA hTs
    go_wp2_with (first | (go_at_call 37; refine HE.out.mono ?_; rintro e w5 ⟨rfl, q5, rfl⟩; have hst5 := hst q5; have hld5 := hld q5) | fail)
    refine bodyPost_ret (results_cell_tmp rfl _ _ w.heap.size 48 TA (0, 0) _ rfl (H1.out.1 q5) Try.underlying48 rfl (by rw [conSize, H1.out.2.2.2.2.2])) rfl ?_
    have m1 : Mod No w w1 := HM.out.1.trans' H1.out.2.1 (fun i hi f => by rcases f with f | f <;> omega)
    have m2 : Mod (fun b => b = w.heap.size) w1 ((w1.drewN q5).setRow w.heap.size TA) := ((Mod.refl (fun b => b = w.heap.size) w1).drewN q5).trans (setRow_mod TA)
    have hs3 := HM.out.2.2.1
    have htv := H1.out.2.2.2.1.mod m2 (fun b hb _ f => by omega)
    rw [HRES.out, if_pos (by trivial)]
    refine ⟨vt, l, by rw [H1.out.2.2.2.2.1]; rfl, H1.out.2.2.1, ⟨own_base htv.own (by omega), fun x hx => (htv.rows x hx).imp (fun b hb => ⟨by have := hb.1; omega, hb.2⟩)⟩, ?_⟩
    exact m1.trans' m2 (fun i hi f => by omega)

end Go.Proofs.Ytcnemhhbihhcfaa
