/-
  Package cfg: OpenChange.
-/
import Derived.Test.YtcnemhhbihhcfaaRdH
namespace Go.Proofs.Ytcnemhhbihhcfaa
open Go.RowKit
set_option linter.unusedVariables false

def chgAlloc (v : Value) : Sem Value := Instr.alloc 38 true v
@[go_sem ↓] theorem chg_alloc_fold (v : Value) : Instr.alloc 38 true v = chgAlloc v := rfl
theorem chgAlloc_run (W : World) : (chgAlloc (.tuple #[])).run Try.prog W = .ok (.pointer (some ⟨W.heap.size, 0, none⟩)) (W.alloc (.cells zChg 38)) := alloc_chg W
def chgStore (p v : Value) : Sem Unit := Instr.storeAt 38 p v
@[go_sem ↓] theorem chg_store_fold (p v : Value) : Instr.storeAt 38 p v = chgStore p v := rfl
theorem chgStore_row {W : World} {b : Nat} {old CA : Array Value} (h : W.heap[b]? = some (.cells old 38 (0, 0))) (ho : old.size = 35) (hc : CA.size = 35) (h1 : CA.all (·.oneCell') = true) :
    (chgStore (.pointer (some ⟨b, 0, none⟩)) (.agg CA)).run Try.prog W = .ok () (W.setRow b CA) := store_chg h ho hc h1
def chgZero : Sem Value := Instr.build 38 #[]
@[go_sem ↓] theorem chg_zero_fold (ρ : Operand → Value) (dst : Option Tmp) (ty : TypeId) (pos : String) (after : Array Edge) (g : Option (Nat × Bool)) :
    execOp ρ { dst := dst, op := .build 38 #[], type := ty, pos := pos, after := after, guard := g } = (do pure (Next.value (← chgZero)) : Sem Next) := by
  show (do pure (Next.value (← Instr.build 38 (#[].map fun (i, x) => (i, ρ x)))) : Sem Next) = _
  simp only [Array.map_empty]
  rfl
theorem chgZero_run : ∀ W, chgZero.run Try.prog W = .ok (.agg zChg) W := build_chg
def chgPut (v : Value) : Sem Value := Instr.build 38 #[(0, v)]
@[go_sem ↓] theorem chg_put_fold (ρ : Operand → Value) (x : Operand) (dst : Option Tmp) (ty : TypeId) (pos : String) (after : Array Edge) (g : Option (Nat × Bool)) :
    execOp ρ { dst := dst, op := .build 38 #[(0, x)], type := ty, pos := pos, after := after, guard := g } = (do pure (Next.value (← chgPut (ρ x))) : Sem Next) := by
  show (do pure (Next.value (← Instr.build 38 (#[(0, x)].map fun (i, x) => (i, ρ x)))) : Sem Next) = _
  have hm : (#[((0 : Nat), x)].map fun (i, x) => (i, ρ x)) = #[(0, ρ x)] := by simp
  rw [hm]
  rfl
def chg1 : Array Value := chgCells true [] .zero (.slice none 0 0) (.slice none 0 0) (.slice none 0 0)
theorem chgPut_run : ∀ W, (chgPut (.bool true)).run Try.prog W = .ok (.agg chg1) W := fun W => by kernel_rfl
theorem chg1_one : chg1.all (·.oneCell') = true := by simp [chg1, chgCells, Ten.cells, Value.oneCell']
theorem chg1_eq : chg1 = ([Value.bool true, .string (str [])] ++ zTen.toList ++ []).toArray := rfl
theorem cChg_at2 (put : Bool) (name : List UInt8) (x : TV) : (cChg put name x)[2]? = some (.string (str x.t.name)) := by
  have := cChg2 put name x 0
  rw [Nat.add_zero] at this
  rw [this]
  rfl
theorem cChg_set1 (put : Bool) (name name' : List UInt8) (x : TV) : (cChg put name x).setIfInBounds 1 (.string (str name')) = cChg put name' x := by
  apply Array.toList_inj.1
  simp only [cChg, Array.toList_setIfInBounds, Array.toList_append]
  rfl
theorem cChg_one {S : Nat → Prop} {w : World} (put : Bool) (name : List UInt8) {x : TV} (h : x.Rows S w) : (cChg put name x).all (·.oneCell') = true := by
  have := TV.one h
  rw [cChg, Array.all_append]
  simp only [this, Bool.and_true]
  simp [Value.oneCell']

/-- What OpenChange tells: a change, an error. -/
def ocg : List UInt8 → Bool × List UInt8 × Ten × Nat
  | [] => (false, [], .zero, 70)
  | b :: r => if 1 < b.toNat then (false, [], .zero, 70) else
    if b = 1 then (if (rten (b :: r) (1, false)).2 = (r.length + 1, false) then (true, (rten (b :: r) (1, false)).1.name, (rten (b :: r) (1, false)).1, 0) else (false, [], .zero, 70))
    else (if (rname (b :: r) (1, false)).2 = (r.length + 1, false) then (false, (rname (b :: r) (1, false)).1, .zero, 0) else (false, [], .zero, 70))
def OpenChgP (r : Bool × List UInt8 × Ten × Nat) (w : World) (e : Ending) (w' : World) : Prop :=
  ∃ x : TV, e = .returned (.tuple #[.agg (cChg r.1 r.2.1 x), .int .i64 (r.2.2.2 : Nat)]) ∧ x.t = r.2.2.1 ∧ x.Rows (fun b => w.heap.size ≤ b) w' ∧ Mod No w w'
theorem openChg_none {w w' : World} {e : Ending} (he : e = .returned (.tuple #[.agg zChg, .int .i64 70])) (hm : Mod No w w') : OpenChgP (false, [], .zero, 70) w e w' := ⟨TV.zero, by rw [he]; rfl, rfl, TV.zero_rows _ _, hm⟩

set_option maxRecDepth 100000 in
set_option maxHeartbeats 1000000 in
theorem openChange_put {w : World} (A : Option Addr) (c : Nat) (r : List UInt8) (hrow : RowAt (fun b => b < w.heap.size) w A (bcells (1 :: r))) (hc : r.length + 1 ≤ c) (hB : r.length + 1 ≤ 100000000) :
    Calls Try.prog 18 #[.slice A (r.length + 1) c] w (OpenChgP (if (rten (1 :: r) (1, false)).2 = (r.length + 1, false) then (true, (rten (1 :: r) (1, false)).1.name, (rten (1 :: r) (1, false)).1, 0) else (false, [], .zero, 70)) w) := by
  obtain ⟨b, o, rfl, hbw, hlt, hcl⟩ := hrow.open (by simp [bcells])
  have c0 := hcl 0 (.int .u8 1) rfl
  rw [Nat.add_zero] at c0
  obtain ⟨B, hB1⟩ : ∃ B, B = (1 : UInt8) :: r := ⟨_, rfl⟩
  obtain ⟨n, hn⟩ : ∃ n, n = r.length + 1 := ⟨_, rfl⟩
  have hBn : B.length = n := by rw [hB1, hn]; rfl
  have p0 : ((n : Int) == 0) = false := by rw [beq_eq_false_iff_ne]; omega
  have p1 : (0 : Int) < n := by omega
  rw [← hB1] at hrow
  rw [← hB1, ← hn]
  rw [← hn] at hc hB
  obtain ⟨W, hW⟩ : ∃ W, W = ((w.alloc (.cells zChg 38)).alloc (.cells #[.slice (some ⟨b, o, none⟩) n c, .bool true, .int .i64 1, .bool false] 73)).alloc (.cells zChg 38) := ⟨_, rfl⟩
  obtain ⟨W2, hW2⟩ : ∃ W2, W2 = W.setRow (w.heap.size + 1 + 1) chg1 := ⟨_, rfl⟩
  have hmW : Mod No w W := by rw [hW]; exact (((Mod.refl _ _).alloc _).alloc _).alloc _
  have hsz : W.heap.size = w.heap.size + 3 := by rw [hW]; simp
  have hX : W.heap[w.heap.size]? = some (.cells zChg 38 (0, 0)) := by rw [hW]; exact at30 w _ _ _
  have hC : W.heap[w.heap.size + 1]? = some (rdObj (some ⟨b, o, none⟩) n c 1 false) := by rw [hW]; exact at31 w _ _ _
  have hT : W.heap[w.heap.size + 1 + 1]? = some (.cells zChg 38 (0, 0)) := by rw [hW]; exact at32 w _ _ _
  have hm2 : Mod (fun b => b = w.heap.size + 1 + 1) W W2 := by rw [hW2]; exact setRow_mod _
  have hs2 : W2.heap.size = w.heap.size + 3 := by rw [← hsz, hW2]; simp [World.setRow]
  have hT2 : W2.heap[w.heap.size + 1 + 1]? = some (.cells chg1 38 (0, 0)) := by rw [hW2]; exact setRow_heap _ _ _ _ _ _ hT
  have hX2 := hm2.obj hX (by omega)
  have hC2 := hm2.obj hC (by omega)
  have hmw2 : Mod No w W2 := hmW.trans' hm2 (fun i hi f => by omega)
  have hst1 : (chgStore (.pointer (some ⟨w.heap.size + 1 + 1, 0, none⟩)) (.agg chg1)).run Try.prog W = .ok () W2 := by rw [hW2]; exact chgStore_row hT zSize (chg_size _ _ _ _ _ _) chg1_one
  have d0 : W2.cell? ⟨w.heap.size + 1 + 1, 0, none⟩ = some (.bool true) := (blk_cell hT2 0).trans rfl
  have hlT2 := lt_of_block hT2
  have HN := tenant_rd (w := W2) (s0 := (1, false)) (S := fun b => b < w.heap.size) B (by rw [hBn]; exact hC2) (hrow.keeps (hmw2.keeps (fun _ _ _ f => f))) (by omega) (by omega) (by omega) (by omega) (T := w.heap.size + 1 + 1) (o := 2) (by omega) (fun b hb => by omega) (pre := [.bool true, .string (str [])]) (post := []) (tt := 38) (by rw [hT2, chg1_eq]) rfl (by omega)
  obtain ⟨q, hq⟩ : ∃ q, q = rten B (1, false) := ⟨_, rfl⟩
  rw [← hq]
  rw [← hq] at HN
  obtain ⟨qt, at_, sh⟩ := q
  obtain ⟨eb, heb⟩ : ∃ eb, eb = (!sh && decide (at_ = B.length)) := ⟨_, rfl⟩
  have hif : ((at_, sh) = (n, false)) = (eb = true) := by
    rw [heb, hBn]
    cases sh <;> simp
  simp only [hif]
  obtain ⟨res, hres0⟩ : ∃ res, res = (if eb = true then (true, qt.name, qt, 0) else (false, [], Ten.zero, 70) : Bool × List UInt8 × Ten × Nat) := ⟨_, rfl⟩
  rw [← hres0]
  have HRES := Lib.hid hres0
  have HN := Lib.hid HN
  have HM := Lib.hid (And.intro hmw2 (And.intro hX2 (And.intro hs2 heb)))
  have HW := Lib.hid hW
  have hal := chgAlloc_run
  have hzr := chgZero_run
  have hpr := chgPut_run
  rw [hW] at hst1
  clear hmW hX hC hW hT hrow hc hB hn hq hsz heb hif hres0 hm2 hs2 hT2 hX2 hC2 hmw2 hW2 hB1 hBn hcl
  have c1 : ((w.alloc (.cells zChg 38)).alloc (.cells #[.slice (some ⟨b, o, none⟩) n c, .bool true, .int .i64 1, .bool false] 73)).cell? ⟨b, o, none⟩ = some (.int .u8 1) := (((Mod.refl No w).alloc _).alloc _).cell c0 id
  go_enter Try.func18, Try.ntmps18
  go_wp2_with fail
  refine HN.out.mono ?_
  rintro e w1 ⟨rfl, x, k0, kl, k1, k2, kr, k3⟩
  have hX1 := k3.obj HM.out.2.1 (by rintro (f | f) <;> omega)
  have hs2 := HM.out.2.2.1
  have hm1 : Mod No w w1 := HM.out.1.trans' k3 (fun i hi f => by rcases f with f | f <;> omega)
  rw [List.append_nil] at k2
  -- the name goes where a change's name is
  have hbl : w1.heap[w.heap.size + 1 + 1]? = some (.cells (cChg true [] x) 38 (0, 0)) := by rw [k2]; simp [cChg]
  have dn : w1.cell? ⟨w.heap.size + 1 + 1, 2, none⟩ = some (.string (str x.t.name)) := (blk_cell hbl 2).trans (cChg_at2 _ _ _)
  have d1 : w1.cell? ⟨w.heap.size + 1 + 1, 1, none⟩ = some (.string (str [])) := (blk_cell hbl 1).trans (cChg1 _ _ _)
  have f1 := blk_free hbl 1
  have hb2 : (w1.setCell ⟨w.heap.size + 1 + 1, 1, none⟩ (.string (str x.t.name))).heap[w.heap.size + 1 + 1]? = some (.cells (cChg true x.t.name x) 38 (0, 0)) := by
    rw [heap_setCell_row hbl, cChg_set1]
  obtain ⟨CX, hCX⟩ : ∃ CX, CX = cChg true x.t.name x := ⟨_, rfl⟩
  have hone : CX.all (·.oneCell') = true := by rw [hCX]; exact cChg_one _ _ kr
  have hCs : CX.size = 35 := by rw [hCX]; exact cChg_size _ _ _
  rw [← hCX] at hb2
  have hms : Mod (fun b => b = w.heap.size + 1 + 1) w1 (w1.setCell ⟨w.heap.size + 1 + 1, 1, none⟩ (.string (str x.t.name))) := Mod.setCell (p := ⟨w.heap.size + 1 + 1, 1, none⟩) (Mod.refl (fun b => b = w.heap.size + 1 + 1) w1) (.inr rfl) _
  have hC2 := hms.obj k1 (by omega)
  have hX2 := hms.obj hX1 (by omega)
  have hE := ended_ok hC2
  rw [← HM.out.2.2.2] at hE
  obtain ⟨w4, hw4⟩ : ∃ w4, w4 = w1.setCell ⟨w.heap.size + 1 + 1, 1, none⟩ (.string (str x.t.name)) := ⟨_, rfl⟩
  rw [← hw4] at hb2 hC2 hX2 hE hms
  have hld : ∀ q, (chgLoad (.pointer (some ⟨w.heap.size + 1 + 1, 0, none⟩))).run Try.prog (w4.drewN q) = .ok (.agg CX) (w4.drewN q) := fun q => chgLoad_run (W := w4.drewN q) hb2 hCs
  have hst : ∀ q CA, CA.size = 35 → CA.all (·.oneCell') = true → (chgStore (.pointer (some ⟨w.heap.size, 0, none⟩)) (.agg CA)).run Try.prog (w4.drewN q) = .ok () ((w4.drewN q).setRow w.heap.size CA) := fun q CA h1 h2 => chgStore_row (old := zChg) hX2 zSize h1 h2
  have hres : ∀ q CA, ((w4.drewN q).setRow w.heap.size CA).heap[w.heap.size]? = some (.cells CA 38 (0, 0)) := fun q CA => setRow_heap (w4.drewN q) w.heap.size _ CA _ _ hX2
  have hm4 : Mod No w w4 := hm1.trans' hms (fun i hi f => by omega)
  have hkr4 : x.Rows (fun b => w.heap.size + 3 ≤ b) w4 := (kr.imp (S' := fun b => w.heap.size + 3 ≤ b) (fun b hb => by omega)).keeps (hms.keeps (fun b _ hb f => by omega))
  have HE := Lib.hid hE
  have H4 := Lib.hid (And.intro hres (And.intro hm4 (And.intro hkr4 (And.intro k0 (And.intro hCX hCs)))))
  have HST := Lib.hid hst
  have HW4 := Lib.hid hw4
  have HO := Lib.hid hone
  have HLD := Lib.hid hld
  clear k0 kl k1 k2 kr k3 hX1 hs2 hm1 hbl hb2 hone hCs hms hC2 hX2 hE hw4 hld hst hres hm4 hkr4 hCX
  go_upto_region 9 with fail
  rw [← HW4.out]
  have fin : ∀ q5 CA, Mod No w ((w4.drewN q5).setRow w.heap.size CA) := fun q5 CA => (H4.out.2.1.drewN q5).trans' (setRow_mod CA) (fun i hi f => by omega)
  have HF := Lib.hid fin
  clear fin
  cases eb
  · go_wp2_with (first | (go_at_call 37; refine HE.out.mono ?_; rintro e w5 ⟨rfl, q5, rfl⟩; have hst5 := HST.out q5 zChg zSize zOne) | fail)
    refine bodyPost_ret (results_cell_tmp rfl _ _ w.heap.size 38 zChg (0, 0) _ rfl (H4.out.1 q5 zChg) Try.underlying38 rfl (by rw [chgSize, zSize])) rfl ?_
    rw [HRES.out, if_neg (by decide)]
    exact openChg_none rfl (HF.out _ _)
  · go_wp2_with (first | (go_at_call 37; refine HE.out.mono ?_; rintro e w5 ⟨rfl, q5, rfl⟩; have hst5 := HST.out q5 CX H4.out.2.2.2.2.2 HO.out; have hld5 := HLD.out q5) | fail)
    refine bodyPost_ret (results_cell_tmp rfl _ _ w.heap.size 38 CX (0, 0) _ rfl (H4.out.1 q5 CX) Try.underlying38 rfl (by rw [chgSize, H4.out.2.2.2.2.2])) rfl ?_
    rw [HRES.out, if_pos (by trivial)]
    refine ⟨x, ?_, H4.out.2.2.2.1, ?_, HF.out _ _⟩
    · rw [H4.out.2.2.2.2.1, H4.out.2.2.2.1]; rfl
    · have hk : Mod (fun b => b = w.heap.size) w4 ((w4.drewN q5).setRow w.heap.size CX) := ((Mod.refl (fun b => b = w.heap.size) w4).drewN q5).trans (setRow_mod CX)
      exact (H4.out.2.2.1.keeps (hk.keeps (fun b _ hb f => by omega))).imp (fun b hb => by omega)

theorem openChange_ok {w : World} {A : Option Addr} {c : Nat} (B : List UInt8) (hrow : RowAt (fun b => b < w.heap.size) w A (bcells B)) (hc : B.length ≤ c) (hB : B.length ≤ 100000000) :
    Calls Try.prog 18 #[.slice A B.length c] w (OpenChgP (ocg B) w) := by
  match B, hrow, hc, hB with
  | [], hrow, hc, hB => exact (openChange_nil A c).mono fun e w' ⟨h1, h2⟩ => openChg_none h1 h2
  | b :: r, hrow, hc, hB =>
    by_cases h1 : 1 < b.toNat
    · have : ocg (b :: r) = (false, [], .zero, 70) := by simp [ocg, h1]
      rw [this]
      exact (openChange_bad A _ c b r hrow rfl h1).mono fun e w' ⟨h1, h2⟩ => openChg_none h1 h2
    · by_cases h2 : b = 1
      · subst h2
        have : ocg (1 :: r) = (if (rten (1 :: r) (1, false)).2 = (r.length + 1, false) then (true, (rten (1 :: r) (1, false)).1.name, (rten (1 :: r) (1, false)).1, 0) else (false, [], .zero, 70)) := by
          have : ¬ 1 < (1 : UInt8).toNat := h1
          simp only [ocg, if_neg this, if_pos]
        rw [this]
        exact openChange_put A c r hrow hc hB
      · have hb0 : b = 0 := by
          apply UInt8.toNat_inj.1
          have : b.toNat ≠ 1 := fun e => h2 (UInt8.toNat_inj.1 e)
          simp; omega
        subst hb0
        have : ocg (0 :: r) = (if (rname (0 :: r) (1, false)).2 = (r.length + 1, false) then (false, (rname (0 :: r) (1, false)).1, .zero, 0) else (false, [], .zero, 70)) := by
          simp only [ocg, if_neg h1, if_neg h2]
        rw [this]
        refine (openChange_name A _ c r hrow rfl hc hB).mono fun e w' ⟨h1, h2⟩ => ?_
        by_cases hq : (rname (0 :: r) (1, false)).2 = (r.length + 1, false)
        · rw [if_pos hq] at h1 ⊢
          exact ⟨TV.zero, by rw [h1]; rfl, rfl, TV.zero_rows _ _, h2⟩
        · rw [if_neg hq] at h1 ⊢
          exact openChg_none h1 h2

end Go.Proofs.Ytcnemhhbihhcfaa
