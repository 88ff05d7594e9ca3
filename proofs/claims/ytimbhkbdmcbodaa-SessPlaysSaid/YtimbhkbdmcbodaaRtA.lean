/-
  The reference's table of sessions: a row in order of keys, its cells its own. less, Find, Out.
-/
import Derived.Test.YtimbhkbdmcbodaaSsOps
import Derived.Test.YtimbhkbdmcbodaaSliceG
import Derived.Deep.RegionHeld3
import Derived.Deep.DrawnRows
import Derived.BigQuiet
import Derived.Deep.CutBlock
import Derived.Deep.DeepCutAuto
namespace Go.Proofs.Ytimbhkbdmcbodaa
open Go.RowKit
set_option linter.unusedVariables false
set_option linter.unusedSimpArgs false
attribute [local go_sem ↓] Go.wp_at_zero Go.wp_at_succ

theorem grab_w {P : Program} {c : Code} {Q : Exit → Act → World → Prop} {a : Act} {W : World} (h : ∀ w0, w0 = W → Code.wp P c Q a w0) : Code.wp P c Q a W := h _ rfl
def svCells (l : List SV) : List Value := l.flatMap SV.cells
theorem sv_len (l : List SV) : (svCells l).length = l.length * 9 := flat_length SV.cells 9 (fun _ => rfl) l
/-- Cells of sessions in a block of Q. -/
def LiesQ (Q : Nat → Prop) (w : World) (A : Option Addr) (cs : List Value) : Prop :=
  cs = [] ∨ ∃ b o cur, A = some ⟨b, o, none⟩ ∧ Q b ∧ w.heap[b]? = some (.cells cur 35 (0, 0)) ∧ ∀ (j : Nat) (u : Value), cs[j]? = some u → cur[o + j]? = some u
section
variable {Q : Nat → Prop} {w w' : World} {A : Option Addr} {cs : List Value}
theorem LiesQ.row (h : LiesQ Q w A cs) : RowAt Q w A cs := by
  rcases h with h | ⟨b, o, cur, e, hb, hg, hc⟩
  · exact .inl h
  · exact .inr ⟨b, o, e, hb, fun j u hj => (blk_cell hg _).trans (hc j u hj)⟩
theorem LiesQ.mod {F : Nat → Prop} (h : LiesQ Q w A cs) (hm : Mod F w w') (hF : ∀ b, Q b → ¬ F b) : LiesQ Q w' A cs := by
  rcases h with h | ⟨b, o, cur, e, hb, hg, hc⟩
  · exact .inl h
  · exact .inr ⟨b, o, cur, e, hb, hm.obj hg (hF b hb), hc⟩
theorem LiesQ.mono {Q' : Nat → Prop} (h : LiesQ Q w A cs) (hq : ∀ b, b < w.heap.size → Q b → Q' b) : LiesQ Q' w A cs := by
  rcases h with h | ⟨b, o, cur, e, hb, hg, hc⟩
  · exact .inl h
  · exact .inr ⟨b, o, cur, e, hq b (lt_of_block hg) hb, hg, hc⟩
theorem LiesQ.take (h : LiesQ Q w A cs) (k : Nat) : LiesQ Q w A (cs.take k) := by
  rcases h with h | ⟨b, o, cur, e, hb, hg, hc⟩
  · subst h; simp; exact .inl rfl
  · refine .inr ⟨b, o, cur, e, hb, hg, fun j u hj => hc j u ?_⟩
    have hjk : j < k := by
      have := (List.getElem?_eq_some_iff.1 hj).1
      simp at this
      omega
    rwa [List.getElem?_take_of_lt hjk] at hj
end
/-- The reference's table at block rb: it holds the sessions M; all of it lies in U. -/
structure RTab (U : Nat → Prop) (w : World) (rb : Nat) (M : List SV) : Prop where
  tb : U rb
  lt : ∀ b, U b → b < w.heap.size
  blk : ∃ A c S, w.heap[rb]? = some (.cells #[.slice A M.length c] 48 (0, 0)) ∧ M.length ≤ c ∧ ¬ S rb ∧ (∀ b, S b → U b) ∧ LiesQ (fun b => U b ∧ b ≠ rb ∧ ¬ S b) w A (svCells M) ∧ ∀ x ∈ M, RowAt S w x.A (ptCells x.s.peers)
  few : ∀ x ∈ M, x.s.peers.length ≤ 65536
theorem RTab.mod {U F : Nat → Prop} {w w' : World} {rb : Nat} {M : List SV} (h : RTab U w rb M) (hm : Mod F w w') (hF : ∀ b, U b → ¬ F b) : RTab U w' rb M := by
  obtain ⟨A, c, S, h1, h2, h3, h4, h5, h6⟩ := h.blk
  exact ⟨h.tb, fun b hb => Nat.lt_of_lt_of_le (h.lt b hb) hm.size, ⟨A, c, S, hm.obj h1 (hF _ h.tb), h2, h3, h4, h5.mod hm (fun b hb => hF b hb.1), fun x hx => (h6 x hx).keeps (hm.keeps (fun b _ hs => hF b (h4 b hs)))⟩, h.few⟩
/-- Element k: its nine cells. -/
theorem sv_at {Q : Nat → Prop} {w : World} {A : Option Addr} {M : List SV} (h : LiesQ Q w A (svCells M)) {k : Nat} {x : SV} (hk : M[k]? = some x) :
    ∃ b o, A = some ⟨b, o, none⟩ ∧ Q b ∧ b < w.heap.size ∧ ∀ (j : Nat) (v : Value), x.cells[j]? = some v → w.cell? ⟨b, o + k * 9 + j, none⟩ = some v := h.row.elem SV.cells 9 (fun _ => rfl) (by omega) hk

/-! ### less -/
def klt' (x y : Key) : Prop := x.proto < y.proto ∨ (x.proto = y.proto ∧ (x.pt.ip < y.pt.ip ∨ (x.pt.ip = y.pt.ip ∧ x.pt.port < y.pt.port)))
instance (x y : Key) : Decidable (klt' x y) := by unfold klt'; infer_instance
set_option maxRecDepth 100000 in
theorem rless_ok (a b : Key) (w : World) : Calls Try.prog 40 #[a.val, b.val] w fun e w' => e = .returned (.bool (decide (klt' a b))) ∧ Mod No w w' := by
  unfold Key.val
  by_cases h1 : a.proto = b.proto
  · have t1 : (a.proto != b.proto) = false := by simpa using h1
    by_cases h2 : a.pt.ip = b.pt.ip
    · have t2 : (a.pt.ip != b.pt.ip) = false := by simpa using h2
      have hr : decide (a.pt.port < b.pt.port) = decide (klt' a b) := by rw [decide_eq_decide]; unfold klt'; omega
      rw [← hr]
      clear h1 h2 hr
      go_enter Try.func40, Try.ntmps40
      go_wp2
      go_ret
      exact ⟨rfl, ((Mod.refl _ _).alloc _).alloc _⟩
    · have t2 : (a.pt.ip != b.pt.ip) = true := by simpa using h2
      have hr : decide (a.pt.ip < b.pt.ip) = decide (klt' a b) := by rw [decide_eq_decide]; unfold klt'; omega
      rw [← hr]
      clear h1 h2 hr
      go_enter Try.func40, Try.ntmps40
      go_wp2
      go_ret
      exact ⟨rfl, ((Mod.refl _ _).alloc _).alloc _⟩
  · have t1 : (a.proto != b.proto) = true := by simpa using h1
    have hr : decide (a.proto < b.proto) = decide (klt' a b) := by rw [decide_eq_decide]; unfold klt'; omega
    rw [← hr]
    clear h1 hr
    go_enter Try.func40, Try.ntmps40
    go_wp2
    go_ret
    exact ⟨rfl, ((Mod.refl _ _).alloc _).alloc _⟩

attribute [local go_sem ↓] ssLoad_fold ssStore_fold ssAlloc_fold ssBox_fold ssZero_fold

/-! ### Find -/
theorem find_skip {f : Sess → Key} {l : List SV} {q : Key} {k : Nat} (h : ∀ p ∈ l.take k, f p.s ≠ q) {z : SV} (hz : l[k]? = some z) (he : f z.s = q) : (l.map (·.s)).find? (fun s => f s = q) = some z.s := by
  obtain ⟨hlt, e⟩ := List.getElem?_eq_some_iff.1 hz
  have h1 : l = l.take k ++ z :: l.drop (k + 1) := by rw [← e, ← List.drop_eq_getElem_cons hlt, List.take_append_drop]
  rw [h1, List.map_append, List.find?_append, List.find?_eq_none.2, Option.none_or, List.map_cons, List.find?_cons_of_pos (by simpa using he)]
  intro s hs
  obtain ⟨p, hp, rfl⟩ := List.mem_map.1 hs
  simpa using h p hp
theorem find_over {f : Sess → Key} {l : List SV} {q : Key} {k : Nat} (h : ∀ p ∈ l.take k, f p.s ≠ q) (hk : l.length ≤ k) : (l.map (·.s)).find? (fun s => f s = q) = none := by
  rw [List.take_of_length_le hk] at h
  rw [List.find?_eq_none]
  intro s hs
  obtain ⟨p, hp, rfl⟩ := List.mem_map.1 hs
  simpa using h p hp
theorem find_go {f : Sess → Key} {l : List SV} {q : Key} {k : Nat} (h : ∀ p ∈ l.take k, f p.s ≠ q) {z : SV} (hz : l[k]? = some z) (he : f z.s ≠ q) : ∀ p ∈ l.take (k + 1), f p.s ≠ q := by
  obtain ⟨hlt, e⟩ := List.getElem?_eq_some_iff.1 hz
  rw [List.take_succ_eq_append_getElem hlt, e]
  intro p hp
  rcases List.mem_append.1 hp with h1 | h1
  · exact h p h1
  · obtain rfl : p = z := by simpa using h1
    exact he
/-- What Find and Out of the reference give. -/
def Found (w : World) (r : Option Sess) : Ending → World → Prop := fun e w' => ∃ A c, e = .returned (.tuple #[(r.getD .zero).val A c, .bool r.isSome]) ∧ RowAt (fun b => b < w.heap.size) w' A (ptCells (r.getD .zero).peers) ∧ Mod No w w'
set_option maxRecDepth 100000 in
theorem rfind_ok {U : Nat → Prop} {w : World} {rb : Nat} {M : List SV} (h : RTab U w rb M) (hl : M.length ≤ 1000000) (q : Key) :
    Calls Try.prog 20 #[.pointer (some ⟨rb, 0, none⟩), q.val] w (Found w ((M.map (·.s)).find? (fun s => s.key = q))) := by
  obtain ⟨A, c, S, hb, hc, hSr, hSU, hrow, hpe⟩ := h.blk
  obtain ⟨n, hn⟩ : ∃ n, n = M.length := ⟨_, rfl⟩
  rw [← hn] at hb hl
  have hlt := lt_of_block hb
  have hp : ∀ x ∈ M, RowAt (fun b => b < w.heap.size) w x.A (ptCells x.s.peers) := fun x hx => (hpe x hx).mono (fun b hb _ => hb)
  obtain ⟨res, hres⟩ : ∃ res, res = (M.map (·.s)).find? (fun s => s.key = q) := ⟨_, rfl⟩
  rw [← hres]
  obtain ⟨QQ, hQQ⟩ : ∃ QQ, QQ = Found w res := ⟨_, rfl⟩
  rw [← hQQ]
  have HM := Lib.hid (And.intro hp (And.intro hn (And.intro hrow (And.intro hb (And.intro hres hQQ)))))
  clear hpe hrow hc hSr hSU h hb hp hn hres hQQ
  have hal := ssAlloc_run
  have hzr := ssZero_run
  unfold Key.val
  go_enter Try.func20, Try.ntmps20
  go_upto_block 0 with fail
  refine grab_w fun W hW => ?_
  have m1 : Mod No w W := by rw [hW]; exact ((Mod.refl _ _).alloc _).alloc _
  have hq1 : W.heap[w.heap.size]? = some (.cells #[.int .u8 q.proto, .int .u32 q.pt.ip, .int .u16 q.pt.port] 31 (0, 0)) := by rw [hW]; exact at20 w _ _
  have hr1 : W.heap[w.heap.size + 1]? = some (.cells zSsL.toArray 35 (0, 0)) := by rw [hW]; exact at21 w _ _
  have c0 : W.cell? ⟨rb, 0, none⟩ = some (.slice A n c) := (blk_cell (m1.obj HM.out.2.2.2.1 (fun f => f)) 0).trans rfl
  have q0 : W.cell? ⟨w.heap.size, 0, none⟩ = some (.int .u8 q.proto) := (blk_cell hq1 0).trans rfl
  have q1 : W.cell? ⟨w.heap.size, 1, none⟩ = some (.int .u32 q.pt.ip) := (blk_cell hq1 1).trans rfl
  have q2 : W.cell? ⟨w.heap.size, 2, none⟩ = some (.int .u16 q.pt.port) := (blk_cell hq1 2).trans rfl
  have z1 := lt_of_block hr1
  have hrow := HM.out.2.2.1.mod m1 (fun _ _ f => f)
  have hst : ∀ (d : Nat) (x : SV), (ssStore (.pointer (some ⟨w.heap.size + 1, 0, none⟩)) (.agg x.cells.toArray)).run Try.prog (W.drewN d) = .ok () ((W.drewN d).setRow (w.heap.size + 1) x.cells.toArray) := fun d x => ssStore_run (W := W.drewN d) hr1 rfl rfl (SV.one x)
  have HW := Lib.hid (And.intro m1 (And.intro hrow (And.intro hr1 hst)))
  clear hW hq1 hr1 m1 hrow hst
  go_wp2
  go_loopw [6] (fun i wr => ∃ k : Nat, i = .int .i64 k ∧ k ≤ n ∧ (∀ p ∈ M.take k, p.s.key ≠ q) ∧ ∃ d, wr = W.drewN d) (fun i _ => n - (intOf i).toNat)
  case atStart => exact ⟨0, rfl, by omega, by simp, 0, rfl⟩
  case round =>
    obtain ⟨k, rfl, hk, hno, d, rfl⟩ := hrel
    have HNO := Lib.hid hno
    clear hno
    by_cases hkn : k < n
    · obtain ⟨z, hz⟩ : ∃ z, M[k]? = some z := ⟨_, List.getElem?_eq_getElem (by have := HM.out.2.1; omega)⟩
      obtain ⟨b, o, rfl, _, hblt, hcell⟩ := sv_at HW.out.2.1 hz
      have d0 := hcell 0 _ rfl
      have d1 := hcell 1 _ rfl
      have d2 := hcell 2 _ rfl
      rw [Nat.add_zero] at d0
      have hld : ∀ d', (ssLoad (.pointer (some ⟨b, o + k * 9, none⟩))).run Try.prog (W.drewN d') = .ok (.agg z.cells.toArray) (W.drewN d') := fun d' => ssLoad_mid (W.drewN d') b (o + k * 9) z hcell
      obtain ⟨CZ, hCZ⟩ : ∃ CZ, CZ = z.cells.toArray := ⟨_, rfl⟩
      have hst := fun d' => HW.out.2.2.2 d' z
      rw [← hCZ] at hld hst
      have p1 : (0:Int) ≤ k := by omega
      have p2 : (k:Int) < n := by omega
      have hpq := key_beq z.s.key q
      obtain ⟨t, ht⟩ : ∃ t, t = decide (z.s.key = q) := ⟨_, rfl⟩
      rw [← ht] at hpq
      have HZ := Lib.hid (And.intro hz (And.intro ht hCZ))
      clear hcell hz ht hCZ
      cases t with
      | true => as_aux_lemma =>
        go_wp2_with fail
        go_quiet (fail)
        go_wp2
        have hblk : ((W.drewN (d + nq)).setRow (w.heap.size + 1) CZ).heap[w.heap.size + 1]? = some (.cells CZ 35 (0, 0)) := setRow_heap _ _ _ _ _ _ HW.out.2.2.1
        refine bodyPost_ret (results_cell_tmp rfl _ _ (w.heap.size + 1) 35 CZ (0, 0) _ rfl hblk Try.underlying35 rfl (by rw [ssSize, HZ.out.2.2]; rfl)) rfl ?_
        have hk' : z.s.key = q := by simpa using HZ.out.2.1
        have hf := find_skip (f := (·.key)) HNO.out HZ.out.1 hk'
        have mE : Mod No w ((W.drewN (d + nq)).setRow (w.heap.size + 1) CZ) := Mod.setRow (HW.out.1.drewN _) (.inl (by omega)) _
        rw [HM.out.2.2.2.2.2, HM.out.2.2.2.2.1, hf, HZ.out.2.2]
        exact ⟨z.A, z.c, rfl, (HM.out.1 z (List.mem_of_getElem? HZ.out.1)).keeps (HZ.out.2.2 ▸ mE.keeps (fun _ _ _ f => f)), HZ.out.2.2 ▸ mE⟩
      | false => as_aux_lemma =>
        go_wp2_with fail
        go_quiet (fail)
        go_wp2
        have hk' : z.s.key ≠ q := by simpa using HZ.out.2.1
        exact ⟨⟨k + 1, by go_num, by omega, find_go (f := (·.key)) HNO.out HZ.out.1 hk', _, rfl⟩, by simp [intOf]; omega⟩
    · have hkn' : k = n := by omega
      subst hkn'
      have hst := HW.out.2.2.2 d ⟨.zero, none, 0⟩
      have hzs : zSsL.toArray = (SV.mk Sess.zero none 0).cells.toArray := rfl
      obtain ⟨CZ, hCZ⟩ : ∃ CZ, CZ = (SV.mk Sess.zero none 0).cells.toArray := ⟨_, rfl⟩
      rw [hzs] at hzr
      rw [← hCZ] at hst hzr
      have HC := Lib.hid hCZ
      clear hCZ hzs
      go_wp2
      have hCZ := HC.out
      have hblk : ((W.drewN d).setRow (w.heap.size + 1) CZ).heap[w.heap.size + 1]? = some (.cells CZ 35 (0, 0)) := setRow_heap _ _ _ _ _ _ HW.out.2.2.1
      refine bodyPost_ret (results_cell_tmp rfl _ _ (w.heap.size + 1) 35 CZ (0, 0) _ rfl hblk Try.underlying35 rfl (by rw [ssSize, hCZ]; rfl)) rfl ?_
      have hf := find_over (f := (·.key)) (q := q) HNO.out (by have := HM.out.2.1; omega)
      have mE : Mod No w ((W.drewN d).setRow (w.heap.size + 1) CZ) := Mod.setRow (HW.out.1.drewN _) (.inl (by omega)) _
      rw [HM.out.2.2.2.2.2, HM.out.2.2.2.2.1, hf, hCZ]
      exact ⟨none, 0, rfl, .nil _ _ _, hCZ ▸ mE⟩

set_option maxRecDepth 100000 in
theorem rout_ok {U : Nat → Prop} {w : World} {rb : Nat} {M : List SV} (h : RTab U w rb M) (hl : M.length ≤ 1000000) (q : Key) :
    Calls Try.prog 21 #[.pointer (some ⟨rb, 0, none⟩), .int .u8 q.proto, q.pt.val] w (Found w ((M.map (·.s)).find? (fun s => s.of = q))) := by
  obtain ⟨A, c, S, hb, hc, hSr, hSU, hrow, hpe⟩ := h.blk
  obtain ⟨n, hn⟩ : ∃ n, n = M.length := ⟨_, rfl⟩
  rw [← hn] at hb hl
  have hlt := lt_of_block hb
  have hp : ∀ x ∈ M, RowAt (fun b => b < w.heap.size) w x.A (ptCells x.s.peers) := fun x hx => (hpe x hx).mono (fun b hb _ => hb)
  obtain ⟨res, hres⟩ : ∃ res, res = (M.map (·.s)).find? (fun s => s.of = q) := ⟨_, rfl⟩
  rw [← hres]
  obtain ⟨QQ, hQQ⟩ : ∃ QQ, QQ = Found w res := ⟨_, rfl⟩
  rw [← hQQ]
  have HM := Lib.hid (And.intro hp (And.intro hn (And.intro hrow (And.intro hb (And.intro hres hQQ)))))
  clear hpe hrow hc hSr hSU h hb hp hn hres hQQ
  have hal := ssAlloc_run
  have hzr := ssZero_run
  unfold Point.val
  go_enter Try.func21, Try.ntmps21
  go_upto_block 0 with fail
  refine grab_w fun W hW => ?_
  have m1 : Mod No w W := by rw [hW]; exact ((Mod.refl _ _).alloc _).alloc _
  have hq1 : W.heap[w.heap.size]? = some (.cells #[.int .u32 q.pt.ip, .int .u16 q.pt.port] 26 (0, 0)) := by rw [hW]; exact at20 w _ _
  have hr1 : W.heap[w.heap.size + 1]? = some (.cells zSsL.toArray 35 (0, 0)) := by rw [hW]; exact at21 w _ _
  have c0 : W.cell? ⟨rb, 0, none⟩ = some (.slice A n c) := (blk_cell (m1.obj HM.out.2.2.2.1 (fun f => f)) 0).trans rfl
  have q1 : W.cell? ⟨w.heap.size, 0, none⟩ = some (.int .u32 q.pt.ip) := (blk_cell hq1 0).trans rfl
  have q2 : W.cell? ⟨w.heap.size, 1, none⟩ = some (.int .u16 q.pt.port) := (blk_cell hq1 1).trans rfl
  have z1 := lt_of_block hr1
  have hrow := HM.out.2.2.1.mod m1 (fun _ _ f => f)
  have hst : ∀ (d : Nat) (x : SV), (ssStore (.pointer (some ⟨w.heap.size + 1, 0, none⟩)) (.agg x.cells.toArray)).run Try.prog (W.drewN d) = .ok () ((W.drewN d).setRow (w.heap.size + 1) x.cells.toArray) := fun d x => ssStore_run (W := W.drewN d) hr1 rfl rfl (SV.one x)
  have HW := Lib.hid (And.intro m1 (And.intro hrow (And.intro hr1 hst)))
  clear hW hq1 hr1 m1 hrow hst
  go_wp2
  go_loopw [8] (fun i wr => ∃ k : Nat, i = .int .i64 k ∧ k ≤ n ∧ (∀ p ∈ M.take k, p.s.of ≠ q) ∧ ∃ d, wr = W.drewN d) (fun i _ => n - (intOf i).toNat)
  case atStart => exact ⟨0, rfl, by omega, by simp, 0, rfl⟩
  case round =>
    obtain ⟨k, rfl, hk, hno, d, rfl⟩ := hrel
    have HNO := Lib.hid hno
    clear hno
    by_cases hkn : k < n
    · obtain ⟨z, hz⟩ : ∃ z, M[k]? = some z := ⟨_, List.getElem?_eq_getElem (by have := HM.out.2.1; omega)⟩
      obtain ⟨b, o, rfl, _, hblt, hcell⟩ := sv_at HW.out.2.1 hz
      have d0 := hcell 0 _ rfl
      have d3 := hcell 3 _ rfl
      have d4 := hcell 4 _ rfl
      rw [Nat.add_zero] at d0
      have hld : ∀ d', (ssLoad (.pointer (some ⟨b, o + k * 9, none⟩))).run Try.prog (W.drewN d') = .ok (.agg z.cells.toArray) (W.drewN d') := fun d' => ssLoad_mid (W.drewN d') b (o + k * 9) z hcell
      obtain ⟨CZ, hCZ⟩ : ∃ CZ, CZ = z.cells.toArray := ⟨_, rfl⟩
      have hst := fun d' => HW.out.2.2.2 d' z
      rw [← hCZ] at hld hst
      have p1 : (0:Int) ≤ k := by omega
      have p2 : (k:Int) < n := by omega
      have HZ := Lib.hid (And.intro hz (And.intro True.intro hCZ))
      clear hcell hz hCZ
      by_cases ht : z.s.of = q
      · as_aux_lemma =>
        have hb1 : (z.s.key.proto == q.proto) = true := by rw [← ht]; simp [Sess.of]
        have hb2 : (z.s.out.ip == q.pt.ip && z.s.out.port == q.pt.port) = true := by rw [← ht]; simp [Sess.of]
        have HT := Lib.hid ht
        clear ht
        go_wp2_with fail
        go_quiet (fail)
        go_wp2
        have hblk : ((W.drewN (d + nq)).setRow (w.heap.size + 1) CZ).heap[w.heap.size + 1]? = some (.cells CZ 35 (0, 0)) := setRow_heap _ _ _ _ _ _ HW.out.2.2.1
        refine bodyPost_ret (results_cell_tmp rfl _ _ (w.heap.size + 1) 35 CZ (0, 0) _ rfl hblk Try.underlying35 rfl (by rw [ssSize, HZ.out.2.2]; rfl)) rfl ?_
        have hk' := HT.out
        have hf := find_skip (f := Sess.of) HNO.out HZ.out.1 hk'
        have mE : Mod No w ((W.drewN (d + nq)).setRow (w.heap.size + 1) CZ) := Mod.setRow (HW.out.1.drewN _) (.inl (by omega)) _
        rw [HM.out.2.2.2.2.2, HM.out.2.2.2.2.1, hf, HZ.out.2.2]
        exact ⟨z.A, z.c, rfl, (HM.out.1 z (List.mem_of_getElem? HZ.out.1)).keeps (HZ.out.2.2 ▸ mE.keeps (fun _ _ _ f => f)), HZ.out.2.2 ▸ mE⟩
      · have HT := Lib.hid ht
        by_cases hp : z.s.key.proto = q.proto
        · as_aux_lemma =>
          have hb1 : (z.s.key.proto == q.proto) = true := by simpa using hp
          have hb2 : (z.s.out.ip == q.pt.ip && z.s.out.port == q.pt.port) = false := by
            rw [point_beq]
            simp only [decide_eq_false_iff_not]
            intro e
            exact HT.out (by rw [Sess.of, hp, e])
          clear hp ht
          go_wp2_with fail
          go_quiet (fail)
          go_wp2
          exact ⟨⟨k + 1, by go_num, by omega, find_go (f := Sess.of) HNO.out HZ.out.1 HT.out, _, rfl⟩, by simp [intOf]; omega⟩
        · as_aux_lemma =>
          have hb1 : (z.s.key.proto == q.proto) = false := by simpa using hp
          clear hp ht
          go_wp2_with fail
          go_quiet (fail)
          go_wp2
          exact ⟨⟨k + 1, by go_num, by omega, find_go (f := Sess.of) HNO.out HZ.out.1 HT.out, _, rfl⟩, by simp [intOf]; omega⟩
    · have hkn' : k = n := by omega
      subst hkn'
      have hst := HW.out.2.2.2 d ⟨.zero, none, 0⟩
      have hzs : zSsL.toArray = (SV.mk Sess.zero none 0).cells.toArray := rfl
      obtain ⟨CZ, hCZ⟩ : ∃ CZ, CZ = (SV.mk Sess.zero none 0).cells.toArray := ⟨_, rfl⟩
      rw [hzs] at hzr
      rw [← hCZ] at hst hzr
      have HC := Lib.hid hCZ
      clear hCZ hzs
      go_wp2
      have hCZ := HC.out
      have hblk : ((W.drewN d).setRow (w.heap.size + 1) CZ).heap[w.heap.size + 1]? = some (.cells CZ 35 (0, 0)) := setRow_heap _ _ _ _ _ _ HW.out.2.2.1
      refine bodyPost_ret (results_cell_tmp rfl _ _ (w.heap.size + 1) 35 CZ (0, 0) _ rfl hblk Try.underlying35 rfl (by rw [ssSize, hCZ]; rfl)) rfl ?_
      have hf := find_over (f := Sess.of) (q := q) HNO.out (by have := HM.out.2.1; omega)
      have mE : Mod No w ((W.drewN d).setRow (w.heap.size + 1) CZ) := Mod.setRow (HW.out.1.drewN _) (.inl (by omega)) _
      rw [HM.out.2.2.2.2.2, HM.out.2.2.2.2.1, hf, hCZ]
      exact ⟨none, 0, rfl, .nil _ _ _, hCZ ▸ mE⟩

end Go.Proofs.Ytimbhkbdmcbodaa
