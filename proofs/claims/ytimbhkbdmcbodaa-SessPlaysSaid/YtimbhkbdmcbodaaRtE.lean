/-
  A step of a script: its whole operations under names of their own (printed by genac.py); light, Place, lychhelp.Sessions.
-/
import Derived.Test.YtimbhkbdmcbodaaRtD
namespace Go.Proofs.Ytimbhkbdmcbodaa
open Go.RowKit
set_option linter.unusedVariables false
set_option linter.unusedSimpArgs false

def zAcL : List Value := [.int .i64 0, .int .u8 0, .int .u32 0, .int .u16 0, .int .u32 0, .int .u16 0, .int .u32 0, .slice none 0 0, .int .i64 0, .int .u32 0, .int .i64 0, .int .i64 0, .bool false]
set_option maxRecDepth 100000 in
theorem acBox_raw (CA : Array Value) (h : CA.size = 13) (W : World) : (Instr.box 50 (.agg CA)).run Try.prog W = .ok (.pointer (some ⟨W.heap.size, 0, none⟩)) (W.alloc (.cells CA 50)) := by
  go_simp
def acLoad (v : Value) : Sem Value := Instr.loadAt 50 v
theorem acLoad_fold (v : Value) : Instr.loadAt 50 v = acLoad v := rfl
def acStore (p v : Value) : Sem Unit := Instr.storeAt 50 p v
theorem acStore_fold (p v : Value) : Instr.storeAt 50 p v = acStore p v := rfl
def acAlloc (v : Value) : Sem Value := Instr.alloc 50 true v
theorem acAlloc_fold (v : Value) : Instr.alloc 50 true v = acAlloc v := rfl
def acBox (v : Value) : Sem Value := Instr.box 50 v
theorem acBox_fold (v : Value) : Instr.box 50 v = acBox v := rfl
def acZero : Sem Value := Instr.build 50 #[]
theorem acZero_fold (ρ : Operand → Value) (dst : Option Tmp) (ty : TypeId) (pos : String) (after : Array Edge) (g : Option (Nat × Bool)) :
    execOp ρ { dst := dst, op := .build 50 #[], type := ty, pos := pos, after := after, guard := g } = (do pure (Next.value (← acZero)) : Sem Next) := by
  show (do pure (Next.value (← Instr.build 50 (#[].map fun (i, x) => (i, ρ x)))) : Sem Next) = _
  simp only [Array.map_empty]
  rfl
theorem acSize : (Try.prog.info? 50).map (·.size) = some 13 := by kernel_rfl
set_option maxRecDepth 100000 in
theorem acAlloc_run (W : World) : (acAlloc (.tuple #[])).run Try.prog W = .ok (.pointer (some ⟨W.heap.size, 0, none⟩)) (W.alloc (.cells zAcL.toArray 50)) := by kernel_rfl
set_option maxRecDepth 100000 in
theorem acZero_run (W : World) : acZero.run Try.prog W = .ok (.agg zAcL.toArray) W := by kernel_rfl
theorem acBox_run (CA : Array Value) (h : CA.size = 13) (W : World) : (acBox (.agg CA)).run Try.prog W = .ok (.pointer (some ⟨W.heap.size, 0, none⟩)) (W.alloc (.cells CA 50)) := acBox_raw CA h W
theorem acLoad_run {W : World} {b : Nat} {CA : Array Value} (h : W.heap[b]? = some (.cells CA 50 (0, 0))) (hc : CA.size = 13) : (acLoad (.pointer (some ⟨b, 0, none⟩))).run Try.prog W = .ok (.agg CA) W := by
  simp only [acLoad, Instr.loadAt, Instr.sureAddr, Sem.run_bind, Sem.run_pure, Result.andThen_ok]
  exact run_loadVar_row W b _ _ CA (0, 0) _ h Try.underlying50 rfl (by rw [acSize, hc])
theorem acStore_run {W : World} {b : Nat} {old CA : Array Value} (h : W.heap[b]? = some (.cells old 50 (0, 0))) (ho : old.size = 13) (hc : CA.size = 13) (h1 : CA.all (·.oneCell') = true) :
    (acStore (.pointer (some ⟨b, 0, none⟩)) (.agg CA)).run Try.prog W = .ok () (W.setRow b CA) := by
  simp only [acStore, Instr.storeAt, Instr.sureAddr, Sem.run_bind, Sem.run_pure, Result.andThen_ok]
  exact run_storeVar_row W b _ _ old CA h (by rw [acSize, hc]) (by rw [ho, hc]) h1
theorem acBox_new (CA : Array Value) (h : CA.size = 13) : ∀ W : World, (acBox (.agg CA)).run Try.prog W = .ok (.pointer (some ⟨W.heap.size, 0, none⟩)) (W.alloc (.cells CA 50)) := acBox_run CA h
theorem acStore_new (W : World) (CA : Array Value) (hc : CA.size = 13) (h1 : CA.all (·.oneCell') = true) : (acStore (.pointer (some ⟨W.heap.size, 0, none⟩)) (.agg CA)).run Try.prog (W.alloc (.cells zAcL.toArray 50)) = .ok () (W.alloc (.cells CA 50)) := by
  rw [← setRow_alloc W zAcL.toArray CA]
  exact acStore_run (at10 W _) rfl hc h1
theorem acStore_newd (W : World) (CA : Array Value) (hc : CA.size = 13) (h1 : CA.all (·.oneCell') = true) : (acStore (.pointer (some ⟨W.heap.size, 0, none⟩)) (.agg CA)).run Try.prog (W.alloc (.cells zAcL.toArray 50)).drew = .ok () (W.alloc (.cells CA 50)).drew := by
  rw [← setRow_alloc W zAcL.toArray CA]
  exact acStore_run (W := (W.alloc (.cells zAcL.toArray 50)).drew) (at10 W _) rfl hc h1
structure Ac where
  what : Int
  x : SV
  most : Int
  k : Int
  own : Bool
def Ac.cells (a : Ac) : List Value := [.int .i64 a.what, .int .u8 a.x.s.key.proto, .int .u32 a.x.s.key.pt.ip, .int .u16 a.x.s.key.pt.port, .int .u32 a.x.s.out.ip, .int .u16 a.x.s.out.port, .int .u32 a.x.s.gen, .slice a.x.A a.x.s.peers.length a.x.c, .int .i64 a.x.s.state, .int .u32 a.x.s.til, .int .i64 a.most, .int .i64 a.k, .bool a.own]
theorem Ac.one (a : Ac) : a.cells.toArray.all (·.oneCell') = true := by
  rw [Array.all_eq_true_iff_forall_mem]
  intro u hu
  simp only [Ac.cells, List.mem_toArray, List.mem_cons, List.not_mem_nil, or_false] at hu
  rcases hu with rfl | rfl | rfl | rfl | rfl | rfl | rfl | rfl | rfl | rfl | rfl | rfl | rfl <;> rfl
def acCells (l : List Ac) : List Value := l.flatMap Ac.cells
theorem acLoad_mid (W : World) (b o : Nat) (a : Ac) (h : ∀ (j : Nat) (v : Value), a.cells[j]? = some v → W.cell? ⟨b, o + j, none⟩ = some v) : (acLoad (.pointer (some ⟨b, o, none⟩))).run Try.prog W = .ok (.agg a.cells.toArray) W :=
  run_loadAt_mid W b o _ a.cells _ h Try.underlying50 rfl acSize
theorem ac_at {Q : Nat → Prop} {w : World} {A : Option Addr} {l : List Ac} (h : RowAt Q w A (acCells l)) {k : Nat} {a : Ac} (hk : l[k]? = some a) :
    ∃ b o, A = some ⟨b, o, none⟩ ∧ Q b ∧ b < w.heap.size ∧ ∀ (j : Nat) (v : Value), a.cells[j]? = some v → w.cell? ⟨b, o + k * 13 + j, none⟩ = some v := h.elem Ac.cells 13 (fun _ => rfl) (by omega) hk

/-! ### light -/
def LightL (l : List Ac) : Prop := l.length ≤ 60 ∧ ∀ a ∈ l, a.x.s.peers.length ≤ 20
instance (l : List Ac) : Decidable (LightL l) := by unfold LightL; infer_instance
def LightP (l : List Ac) (w : World) (e : Ending) (w' : World) : Prop := e = .returned (.bool (decide (LightL l))) ∧ Mod No w w'
set_option maxRecDepth 100000 in
theorem light_ok {Q : Nat → Prop} {A : Option Addr} {c n : Nat} {l : List Ac} {w : World} (h : RowAt Q w A (acCells l)) (hn : n = l.length) (hl : l.length ≤ 9223372036854775807) :
    Calls Try.prog 13 #[.slice A n c] w (LightP l w) := by
  obtain ⟨QQ, hQQ⟩ : ∃ QQ, QQ = LightP l w := ⟨_, rfl⟩
  rw [← hQQ]
  have H := Lib.hid (And.intro h (And.intro hn hQQ))
  rw [← hn] at hl
  clear h hn hQQ
  go_enter Try.func13, Try.ntmps13
  go_wp2
  go_loopw [3] (fun i wr => ∃ k : Nat, i = .int .i64 k ∧ k ≤ n ∧ k ≤ 60 ∧ (∀ a ∈ l.take k, a.x.s.peers.length ≤ 20) ∧ ∃ d, wr = w.drewN d) (fun i _ => 60 - (intOf i).toNat)
  case atStart => exact ⟨0, rfl, by omega, by omega, by simp, 0, rfl⟩
  case round =>
    obtain ⟨k, rfl, hk, hk6, hall, d, rfl⟩ := hrel
    have HA := Lib.hid hall
    clear hall
    by_cases hkn : k < n ∧ k < 60
    · obtain ⟨hk1, hk2⟩ := hkn
      obtain ⟨a, ha⟩ : ∃ a, l[k]? = some a := ⟨_, List.getElem?_eq_getElem (by have := H.out.2.1; omega)⟩
      obtain ⟨b, o, rfl, _, hblt, hcell⟩ := ac_at H.out.1 ha
      have d7 := hcell 7 _ rfl
      have p1 : (0:Int) ≤ k := by omega
      have p2 : (k:Int) < n := by omega
      have p3 : (k:Int) < 60 := by omega
      obtain ⟨m, hm⟩ : ∃ m, m = a.x.s.peers.length := ⟨_, rfl⟩
      rw [← hm] at d7
      have HZ := Lib.hid (And.intro ha hm)
      clear hcell ha hm
      by_cases hbig : m ≤ 20
      · as_aux_lemma =>
        have t1 : decide ((20:Int) < (m : Int)) = false := by simp; omega
        go_wp2
        refine ⟨⟨k + 1, by go_num, by omega, by omega, ?_, d, rfl⟩, by simp [intOf]; omega⟩
        obtain ⟨hlt, e⟩ := List.getElem?_eq_some_iff.1 HZ.out.1
        rw [List.take_succ_eq_append_getElem hlt, e]
        intro p hp
        rcases List.mem_append.1 hp with h1 | h1
        · exact HA.out p h1
        · obtain rfl : p = a := by simpa using h1
          rw [← HZ.out.2]
          exact hbig
      · as_aux_lemma =>
        have t1 : decide ((20:Int) < (m : Int)) = true := by simp; omega
        go_wp2
        rw [H.out.2.2]
        show LightP l w (.returned (.bool false)) _
        have hno : ¬ LightL l := fun h => hbig (by rw [HZ.out.2]; exact h.2 a (List.mem_of_getElem? HZ.out.1))
        exact ⟨by rw [decide_eq_false hno], (Mod.refl _ _).drewN _⟩
    · as_aux_lemma =>
      by_cases hk1 : k < n
      · have hk2 : k = 60 := by omega
        subst hk2
        have t0 : decide ((60:Nat) < n) = true := by simpa using hk1
        have t1 : (60:Int) < (n:Int) := by omega
        have t2 : decide ((n:Int) ≤ 60) = false := by simp; omega
        have hno : ¬ LightL l := fun h => by have := h.1; have := H.out.2.1; omega
        have hfin : LightP l w (.returned (.bool false)) (w.drewN d) := ⟨by rw [decide_eq_false hno], (Mod.refl _ _).drewN _⟩
        have HF := Lib.hid hfin
        clear hfin hkn hno
        go_wp2
        rw [H.out.2.2]
        exact HF.out
      · have hk2 : k = n := by omega
        subst hk2
        have t2 : decide ((k:Int) ≤ 60) = true := by simp; omega
        have hfin : LightP l w (.returned (.bool true)) (w.drewN d) := by
          refine ⟨?_, (Mod.refl _ _).drewN _⟩
          have h2 := HA.out
          rw [List.take_of_length_le (by have := H.out.2.1; omega)] at h2
          rw [decide_eq_true (show LightL l from ⟨by have := H.out.2.1; omega, h2⟩)]
        have HF := Lib.hid hfin
        clear hfin hkn hk1
        go_wp2
        rw [H.out.2.2]
        exact HF.out

end Go.Proofs.Ytimbhkbdmcbodaa
