/-
  The reference's Tenant: its bytes are the same.
-/
import Derived.Test.YtcnemhhbihhcfaaRefB
namespace Go.Proofs.Ytcnemhhbihhcfaa
open Go.RowKit
set_option linter.unusedVariables false
set_option linter.unusedSimpArgs false

section
variable {base : Nat} {v0 v : Value} {w0 w W : World} {L : List UInt8}
theorem Gr.size (g : Gr base v0 w0 v w L) (hW : Mod No w W) (hb : base ≤ w0.heap.size) : base ≤ W.heap.size := Nat.le_trans hb (Nat.le_trans g.mod.size hW.size)
theorem Gr.ne_size (g : Gr base v0 w0 v w L) : v.ownBlock ≠ some w.heap.size := fun e => Nat.lt_irrefl _ (g.own.ge e).2
theorem put32_gr (g : Gr base v0 w0 v w L) (hW : Mod No w W) (hb : base ≤ w0.heap.size) (n : Nat) (hn : n < 4294967296) (hL : L.length ≤ 90000000) :
    Calls Try.prog 39 #[v, .int .u32 (n : Int)] W fun e w' => ∃ v', e = .returned v' ∧ Gr base v0 w0 v' w' (L ++ be 4 n) ∧ Mod (fun b => v.ownBlock = some b) W w' ∧ (∀ k, v'.ownBlock = some k → v.ownBlock = some k ∨ W.heap.size ≤ k) :=
  (put32_ok (g.ext hW).own (g.size hW hb) hL n hn).mono fun e w' ⟨v', e1, g1⟩ => ⟨v', e1, (g.ext hW).trans g1, g1.mod, g1.row⟩
theorem put16_gr (g : Gr base v0 w0 v w L) (hW : Mod No w W) (hb : base ≤ w0.heap.size) (n : Nat) (hn : n < 65536) (hL : L.length ≤ 90000000) :
    Calls Try.prog 41 #[v, .int .u16 (n : Int)] W fun e w' => ∃ v', e = .returned v' ∧ Gr base v0 w0 v' w' (L ++ be 2 n) ∧ Mod (fun b => v.ownBlock = some b) W w' ∧ (∀ k, v'.ownBlock = some k → v.ownBlock = some k ∨ W.heap.size ≤ k) :=
  (put16_ok (g.ext hW).own (g.size hW hb) hL n hn).mono fun e w' ⟨v', e1, g1⟩ => ⟨v', e1, (g.ext hW).trans g1, g1.mod, g1.row⟩
theorem name_gr (g : Gr base v0 w0 v w L) (hW : Mod No w W) (hb : base ≤ w0.heap.size) (l : List UInt8) (hl : l.length ≤ 100000000) (hL : L.length ≤ 90000000) :
    Calls Try.prog 40 #[v, .string (str l)] W fun e w' => ∃ v', e = .returned v' ∧ Gr base v0 w0 v' w' (L ++ nameB' l) ∧ Mod (fun b => v.ownBlock = some b) W w' ∧ (∀ k, v'.ownBlock = some k → v.ownBlock = some k ∨ W.heap.size ≤ k) :=
  (refName_ok (g.ext hW).own (g.size hW hb) hL l hl).mono fun e w' ⟨v', e1, g1⟩ => ⟨v', e1, (g.ext hW).trans g1, g1.mod, g1.row⟩
theorem pairs_gr (g : Gr base (.slice none 0 0) w0 v w L) (hW : Mod No w W) (hb : base ≤ w0.heap.size) (l : List Pr) (hl : l.length ≤ 100000000) (hz : ∀ x ∈ l, x.a < 4294967296 ∧ x.b < 4294967296) {A : Option Addr} {c : Nat} (hrow : RowAt (· < base) w0 A (prCells l)) (hL : L.length ≤ 80000000) :
    Calls Try.prog 42 #[v, .slice A l.length c] W fun e w' => ∃ v', e = .returned v' ∧ Gr base (.slice none 0 0) w0 v' w' (L ++ prs8 (l.take 255)) ∧ Mod (fun b => v.ownBlock = some b) W w' ∧ (∀ k, v'.ownBlock = some k → v.ownBlock = some k ∨ W.heap.size ≤ k) :=
  (refPairs_ok (g.ext hW).own (g.size hW hb) hL l hl hz (hrow.keeps ((g.ext hW).no.keeps (fun _ _ _ f => f)))).mono fun e w' ⟨v', e1, g1⟩ => ⟨v', e1, (g.ext hW).trans g1, g1.mod, g1.row⟩
theorem wpList_gr {ops : Array Oper} {rest : List Oper} {o : Oper} {a : Act} {Q : Exit → Act → World → Prop} (hgd : o.guard = none) (s x : Operand)
    (ho : o.op = .call { callee := .builtin .append, args := #[s, x], argTypes := #[34, 34] }) (gr : Gr base v0 w0 v w L) (hs : a.eval s = v)
    (X : List UInt8) (ad : Addr) (m c : Nat) (hx : a.eval x = .slice (some ad) m c) (hm : m = X.length) (hc : ∀ j u, (bcells X)[j]? = some u → w.cell? (ad.add j) = some u) (hl : L.length + X.length ≤ 100000000) (hbase : base ≤ w.heap.size)
    (h : ∀ v' w', Gr base v0 w0 v' w' (L ++ X) → wpList Try.prog ops Q rest (a.put o.dst v') w') : wpList Try.prog ops Q (o :: rest) a w := by
  obtain ⟨i0, hi, hz0, hz1, hz2⟩ := info_parts infoU8
  subst hm
  refine wpList_append_own_at w hgd s x 34 ho base 5 i0 _ 1 1 Try.underlying34 hi hz0 hz1 hz2 rfl (by decide) v L.length (bcells L) hs gr.own ad X.length c (bcells X) hx (by rw [bcells_length, Nat.mul_one]) hc (bcells_one X) (by unfold maxLen; omega) (by omega) hbase ?_
  intro v' w' h1 h2 _ h4
  exact h v' w' (gr.trans (gr_append h1 h2 h4))
end
theorem K8.len (k : K8) : k.l.length = 8 := rfl
theorem M6.len (m : M6) : m.l.length = 6 := rfl
theorem be_mod16 (n : Nat) : be 2 (n % 65536) = be 2 n := by
  simp only [be, Nat.pow_one, Nat.pow_zero, Nat.div_one, List.cons.injEq, and_true]
  constructor <;> (apply UInt8.toNat_inj.1; simp; try omega)
theorem be_mod8 (n : Nat) : be 1 (n % 256) = be 1 n := by
  simp only [be, Nat.pow_zero, Nat.div_one, List.cons.injEq, and_true]
  apply UInt8.toNat_inj.1; simp
theorem u64n_16 (z : Int) : z % 65536 = ((u64n z % 65536 : Nat) : Int) := by
  have : (u64n z : Int) = z % 18446744073709551616 := by rw [← u64n_cast]; simp [IntKind.wrap, IntKind.bits, IntKind.signed]
  omega
theorem u64n_8 (z : Int) : z % 256 = ((u64n z % 256 : Nat) : Int) := by
  have : (u64n z : Int) = z % 18446744073709551616 := by rw [← u64n_cast]; simp [IntKind.wrap, IntKind.bits, IntKind.signed]
  omega
theorem be1_cells (n : Nat) (h : n < 256) : bcells (be 1 n) = [.int .u8 (n : Int)] := by
  simp [be, bcells]
  omega

theorem key_in (x : TV) (j : Nat) (u : Value) (h : (bcells x.t.key.l)[j]? = some u) : x.cells[2 + j]? = some u := by
  have hj : j < 8 := (List.getElem?_eq_some_iff.1 h).1
  match j, hj, h with
  | 0, _, h => exact h
  | 1, _, h => exact h
  | 2, _, h => exact h
  | 3, _, h => exact h
  | 4, _, h => exact h
  | 5, _, h => exact h
  | 6, _, h => exact h
  | 7, _, h => exact h
theorem vmac_in (x : TV) (j : Nat) (u : Value) (h : (bcells x.t.vmac.l)[j]? = some u) : x.cells[11 + j]? = some u := by
  have hj : j < 6 := (List.getElem?_eq_some_iff.1 h).1
  match j, hj, h with
  | 0, _, h => exact h
  | 1, _, h => exact h
  | 2, _, h => exact h
  | 3, _, h => exact h
  | 4, _, h => exact h
  | 5, _, h => exact h
theorem host_in (x : TV) (j : Nat) (u : Value) (h : (bcells x.t.host.l)[j]? = some u) : x.cells[17 + j]? = some u := by
  have hj : j < 6 := (List.getElem?_eq_some_iff.1 h).1
  match j, hj, h with
  | 0, _, h => exact h
  | 1, _, h => exact h
  | 2, _, h => exact h
  | 3, _, h => exact h
  | 4, _, h => exact h
  | 5, _, h => exact h

set_option maxRecDepth 100000 in
set_option maxHeartbeats 4000000 in
theorem refTenant_ok {w : World} (x : TV) (hr : x.Rows (· < w.heap.size) w) (hok : x.t.Ok) (hnm : x.t.name.length ≤ 100000000) (hll : x.t.pool.length ≤ 100000000 ∧ x.t.statics.length ≤ 100000000 ∧ x.t.twices.length ≤ 100000000) :
    Calls Try.prog 24 #[.agg x.cells.toArray] w fun e w' => ∃ v, e = .returned v ∧ OwnB w' w.heap.size v (wten x.t) ∧ Mod No w w' := by
  obtain ⟨CA, hCA⟩ : ∃ CA, CA = x.cells.toArray := ⟨_, rfl⟩
  rw [← hCA]
  have bA := box_ten CA (by rw [hCA]; rfl)
  obtain ⟨w0, hw0⟩ : ∃ w0, w0 = w.alloc (.cells CA 30) := ⟨_, rfl⟩
  have hm0 : Mod No w w0 := by rw [hw0]; exact (Mod.refl _ _).alloc _
  have hb0 : w0.heap[w.heap.size]? = some (.cells CA 30 (0, 0)) := by rw [hw0]; exact at10 w _
  obtain ⟨t, vp, vs, vt⟩ := x
  have hcell : ∀ W, Mod No w0 W → ∀ j u, (TV.cells ⟨t, vp, vs, vt⟩)[j]? = some u → W.cell? ⟨w.heap.size, j, none⟩ = some u := fun W hW j u hj => by
    rw [blk_cell (hW.obj hb0 id), hCA]
    simpa using hj
  obtain ⟨P, p, Q, q, R, r, e1, e2, e3, r1, r2, r3⟩ := hr.keeps (hm0.keeps (fun _ _ _ f => f))
  obtain ⟨fz, hfz⟩ : ∃ fz, fz = t.filter := ⟨_, rfl⟩
  simp only at e1 e2 e3 r1 r2 r3 hll hok hnm
  subst e1 e2 e3
  obtain ⟨fb, hfb⟩ : ∃ fb, fb = u64n t.filter % 256 := ⟨_, rfl⟩
  obtain ⟨sb, hsb⟩ : ∃ sb, sb = u64n t.sess % 65536 := ⟨_, rfl⟩
  obtain ⟨qb, hqb⟩ : ∃ qb, qb = u64n t.queue % 65536 := ⟨_, rfl⟩
  have f8 : IntKind.u8.wrap t.filter = (fb : Int) := by rw [hfb, ← u64n_8]; simp [IntKind.wrap, IntKind.bits, IntKind.signed]
  have s16 : IntKind.u16.wrap t.sess = (sb : Int) := by rw [hsb, ← u64n_16]; simp [IntKind.wrap, IntKind.bits, IntKind.signed]
  have q16 : IntKind.u16.wrap t.queue = (qb : Int) := by rw [hqb, ← u64n_16]; simp [IntKind.wrap, IntKind.bits, IntKind.signed]
  obtain ⟨pb, hpb⟩ : ∃ pb, pb = min t.pool.length 255 := ⟨_, rfl⟩
  obtain ⟨tb, htb⟩ : ∃ tb, tb = min t.statics.length 255 := ⟨_, rfl⟩
  obtain ⟨ub, hub⟩ : ∃ ub, ub = min t.twices.length 255 := ⟨_, rfl⟩
  have mp : min (t.pool.length : Int) 255 = pb := by omega
  have ms : min (t.statics.length : Int) 255 = tb := by omega
  have mt : min (t.twices.length : Int) 255 = ub := by omega
  have wp : IntKind.u8.wrap (pb : Int) = pb := by simp [IntKind.wrap, IntKind.bits, IntKind.signed]; omega
  have ws : IntKind.u8.wrap (tb : Int) = tb := by simp [IntKind.wrap, IntKind.bits, IntKind.signed]; omega
  have wt : IntKind.u8.wrap (ub : Int) = ub := by simp [IntKind.wrap, IntKind.bits, IntKind.signed]; omega
  have H3 := Lib.hid (show bcells (be 1 pb ++ be 1 tb ++ be 1 ub) = [.int .u8 (pb : Int), .int .u8 (tb : Int), .int .u8 (ub : Int)] by
    rw [bcells_append, bcells_append, be1_cells _ (by omega), be1_cells _ (by omega), be1_cells _ (by omega)]; rfl)
  have HPB := Lib.hid (And.intro hpb (And.intro htb hub))
  clear hpb htb hub
  have HLT := Lib.hid (show fb < 256 ∧ sb < 65536 ∧ qb < 65536 by omega)
  have HBB := Lib.hid (And.intro hfb (And.intro hsb hqb))
  clear hfb hsb hqb
  have HC := Lib.hid hcell
  have HB := Lib.hid (show w.heap.size ≤ w0.heap.size from hm0.size)
  have hnl : (nameB' t.name).length ≤ 256 := by simp only [nameB', List.length_append, be_length, List.length_take]; omega
  have HNL := Lib.hid hnl
  have HOK := Lib.hid hok
  have HNM := Lib.hid hnm
  have HLL := Lib.hid hll
  have HR := Lib.hid (And.intro r1 (And.intro r2 r3))
  have HM0 := Lib.hid hm0
  have hTkey : ∀ W, Mod No w0 W → ∀ j u, (bcells t.key.l)[j]? = some u → W.cell? ((⟨w.heap.size, 2, none⟩ : Addr).add j) = some u := fun W hW j u hj => by rw [Addr.add_lit]; exact hcell W hW _ u (key_in ⟨t, .slice P t.pool.length p, .slice Q t.statics.length q, .slice R t.twices.length r⟩ j u hj)
  have HTkey := Lib.hid hTkey
  have hTvmac : ∀ W, Mod No w0 W → ∀ j u, (bcells t.vmac.l)[j]? = some u → W.cell? ((⟨w.heap.size, 11, none⟩ : Addr).add j) = some u := fun W hW j u hj => by rw [Addr.add_lit]; exact hcell W hW _ u (vmac_in ⟨t, .slice P t.pool.length p, .slice Q t.statics.length q, .slice R t.twices.length r⟩ j u hj)
  have HTvmac := Lib.hid hTvmac
  have hThost : ∀ W, Mod No w0 W → ∀ j u, (bcells t.host.l)[j]? = some u → W.cell? ((⟨w.heap.size, 17, none⟩ : Addr).add j) = some u := fun W hW j u hj => by rw [Addr.add_lit]; exact hcell W hW _ u (host_in ⟨t, .slice P t.pool.length p, .slice Q t.statics.length q, .slice R t.twices.length r⟩ j u hj)
  have HThost := Lib.hid hThost
  have g0 : Gr w.heap.size (.slice none 0 0) w0 (.slice none 0 0) w0 [] := Gr.refl (nil_own _ _)
  have HW0 := Lib.hid hw0
  clear hr hok hnm hll r1 r2 r3 hm0 hb0 hcell hnl hfz hw0 hCA hTkey hTvmac hThost
  go_enter Try.func24, Try.ntmps24
  go_wp2_with fail
  rw [← HW0.out]
  go_region_held3 (fun W => W.cell? ⟨w.heap.size, 0, none⟩ = some (.string (str t.name)) ∧ W.cell? ⟨w.heap.size, 1, none⟩ = some (.int .u32 (t.vni : Int)))
    (exact ⟨HC.out _ (by (repeat (first | with_reducible exact Mod.refl _ _ | with_reducible exact g2.no | with_reducible exact g1.no | with_reducible exact g0.no | refine Mod.alloc ?_ _ | refine Mod.drew ?_))) 0 _ rfl, HC.out _ (by (repeat (first | with_reducible exact Mod.refl _ _ | with_reducible exact g2.no | with_reducible exact g1.no | with_reducible exact g0.no | refine Mod.alloc ?_ _ | refine Mod.drew ?_))) 1 _ rfl⟩)
    (first
      | (go_at_call 39; refine (put32_gr g1 ?_ HB.out t.vni HOK.out.vni ?_).mono ?_; (repeat (first | with_reducible exact Mod.refl _ _ | refine Mod.alloc ?_ _ | refine Mod.drew ?_)); (simp only [List.length_append, be_length, List.length_nil, K8.len, M6.len]; have := HNL.out; omega); rintro e w2 ⟨v2, rfl, g2, m2, r2⟩)
      | (go_at_call 40; refine (name_gr g0 ?_ HB.out t.name HNM.out ?_).mono ?_; (repeat (first | with_reducible exact Mod.refl _ _ | refine Mod.alloc ?_ _ | refine Mod.drew ?_)); (simp only [List.length_append, be_length, List.length_nil, K8.len, M6.len]; have := HNL.out; omega); rintro e w1 ⟨v1, rfl, g1, m1, r1⟩))
  all_goals
    skip
  go_wp2_with fail
  go_region_held3 (fun W => W.cell? ⟨w.heap.size, 10, none⟩ = some (.int .u32 (t.vtep : Int)))
    (exact HC.out _ (by (repeat (first | with_reducible exact Mod.refl _ _ | with_reducible exact g4.no | with_reducible exact g3.no | with_reducible exact g2.no | with_reducible exact g1.no | with_reducible exact g0.no | refine Mod.alloc ?_ _ | refine Mod.drew ?_))) 10 _ rfl)
    (first
      | (go_at_call 39; refine (put32_gr g3 ?_ HB.out t.vtep HOK.out.vtep ?_).mono ?_; (repeat (first | with_reducible exact Mod.refl _ _ | refine Mod.alloc ?_ _ | refine Mod.drew ?_)); (simp only [List.length_append, be_length, List.length_nil, K8.len, M6.len]; have := HNL.out; omega); rintro e w4 ⟨v4, rfl, g4, m4, r4⟩)
      | (refine step_gr (by rfl) _ _ (by rfl) (Gr.ext g2 ?_) (by rfl) t.key.l _ _ _ (by rfl) (by rfl) ?_ ?_ (by exact List.cons_ne_nil _ _) ?_ ?_; (repeat (first | with_reducible exact Mod.refl _ _ | refine Mod.alloc ?_ _ | refine Mod.drew ?_)); (exact HTkey.out _ (by (repeat (first | with_reducible exact Mod.refl _ _ | with_reducible exact g2.no | with_reducible exact g1.no | with_reducible exact g0.no | refine Mod.alloc ?_ _ | refine Mod.drew ?_)))); (simp only [List.length_append, be_length, List.length_nil, K8.len, M6.len]; have := HNL.out; omega); (refine Gr.size g2 ?_ HB.out; (repeat (first | with_reducible exact Mod.refl _ _ | refine Mod.alloc ?_ _ | refine Mod.drew ?_))); intro v3 w3 g3 _))
  all_goals
    skip
  go_wp2_with fail
  go_region_law (first
    | (refine step_gr (by rfl) _ _ (by rfl) (Gr.ext g5 ?_) (by rfl) t.host.l _ _ _ (by rfl) (by rfl) ?_ ?_ (by exact List.cons_ne_nil _ _) ?_ ?_; (repeat (first | with_reducible exact Mod.refl _ _ | refine Mod.alloc ?_ _ | refine Mod.drew ?_)); (exact HThost.out _ (by (repeat (first | with_reducible exact Mod.refl _ _ | with_reducible exact g5.no | with_reducible exact g4.no | with_reducible exact g3.no | with_reducible exact g2.no | with_reducible exact g1.no | with_reducible exact g0.no | refine Mod.alloc ?_ _ | refine Mod.drew ?_)))); (simp only [List.length_append, be_length, List.length_nil, K8.len, M6.len]; have := HNL.out; omega); (refine Gr.size g5 ?_ HB.out; (repeat (first | with_reducible exact Mod.refl _ _ | refine Mod.alloc ?_ _ | refine Mod.drew ?_))); intro v6 w6 g6 _)
    | (refine step_gr (by rfl) _ _ (by rfl) (Gr.ext g4 ?_) (by rfl) t.vmac.l _ _ _ (by rfl) (by rfl) ?_ ?_ (by exact List.cons_ne_nil _ _) ?_ ?_; (repeat (first | with_reducible exact Mod.refl _ _ | refine Mod.alloc ?_ _ | refine Mod.drew ?_)); (exact HTvmac.out _ (by (repeat (first | with_reducible exact Mod.refl _ _ | with_reducible exact g4.no | with_reducible exact g3.no | with_reducible exact g2.no | with_reducible exact g1.no | with_reducible exact g0.no | refine Mod.alloc ?_ _ | refine Mod.drew ?_)))); (simp only [List.length_append, be_length, List.length_nil, K8.len, M6.len]; have := HNL.out; omega); (refine Gr.size g4 ?_ HB.out; (repeat (first | with_reducible exact Mod.refl _ _ | refine Mod.alloc ?_ _ | refine Mod.drew ?_))); intro v5 w5 g5 _))
  all_goals
    skip
  go_wp2_with fail
  go_region_held3 (fun W => W.cell? ⟨w.heap.size, 24, none⟩ = some (.int .u16 (t.lo : Int)) ∧ W.cell? ⟨w.heap.size, 25, none⟩ = some (.int .u16 (t.hi : Int)) ∧ W.cell? ⟨w.heap.size, 26, none⟩ = some (.int .i64 t.filter))
    (exact ⟨HC.out _ (by (repeat (first | with_reducible exact Mod.refl _ _ | with_reducible exact g9.no | with_reducible exact g8.no | with_reducible exact g7.no | with_reducible exact g6.no | with_reducible exact g5.no | with_reducible exact g4.no | with_reducible exact g3.no | with_reducible exact g2.no | with_reducible exact g1.no | with_reducible exact g0.no | refine Mod.alloc ?_ _ | refine Mod.drew ?_))) 24 _ rfl, HC.out _ (by (repeat (first | with_reducible exact Mod.refl _ _ | with_reducible exact g9.no | with_reducible exact g8.no | with_reducible exact g7.no | with_reducible exact g6.no | with_reducible exact g5.no | with_reducible exact g4.no | with_reducible exact g3.no | with_reducible exact g2.no | with_reducible exact g1.no | with_reducible exact g0.no | refine Mod.alloc ?_ _ | refine Mod.drew ?_))) 25 _ rfl, HC.out _ (by (repeat (first | with_reducible exact Mod.refl _ _ | with_reducible exact g9.no | with_reducible exact g8.no | with_reducible exact g7.no | with_reducible exact g6.no | with_reducible exact g5.no | with_reducible exact g4.no | with_reducible exact g3.no | with_reducible exact g2.no | with_reducible exact g1.no | with_reducible exact g0.no | refine Mod.alloc ?_ _ | refine Mod.drew ?_))) 26 _ rfl⟩)
    (first
      | (refine step_gr (by rfl) _ _ (by rfl) (Gr.ext g8 ?_) (by rfl) (be 1 fb) _ _ _ (by rfl) (by rfl) ?_ ?_ (by exact List.cons_ne_nil _ _) ?_ ?_; (repeat (first | with_reducible exact Mod.refl _ _ | refine Mod.alloc ?_ _ | refine Mod.drew ?_)); (rw [be1_cells _ HLT.out.1]; (first | exact World.news_of_block (at10 _ _) | exact World.news_of_block (m8.obj (at10 _ _) g7.ne_size) | exact World.news_of_block (m8.obj (m7.obj (at10 _ _) g6.ne_size) (fun e => (r7 _ e).elim g6.ne_size (fun h => by (simp at h <;> omega)))))); (simp only [List.length_append, be_length, List.length_nil, K8.len, M6.len]; have := HNL.out; omega); (refine Gr.size g8 ?_ HB.out; (repeat (first | with_reducible exact Mod.refl _ _ | refine Mod.alloc ?_ _ | refine Mod.drew ?_))); intro v9 w9 g9 _)
      | (go_at_call 41; refine (put16_gr g7 ?_ HB.out t.hi HOK.out.hi ?_).mono ?_; (repeat (first | with_reducible exact Mod.refl _ _ | refine Mod.alloc ?_ _ | refine Mod.drew ?_)); (simp only [List.length_append, be_length, List.length_nil, K8.len, M6.len]; have := HNL.out; omega); rintro e w8 ⟨v8, rfl, g8, m8, r8⟩)
      | (go_at_call 41; refine (put16_gr g6 ?_ HB.out t.lo HOK.out.lo ?_).mono ?_; (repeat (first | with_reducible exact Mod.refl _ _ | refine Mod.alloc ?_ _ | refine Mod.drew ?_)); (simp only [List.length_append, be_length, List.length_nil, K8.len, M6.len]; have := HNL.out; omega); rintro e w7 ⟨v7, rfl, g7, m7, r7⟩))
  all_goals
    go_wp2_with fail
    go_region_held3 (fun W => W.cell? ⟨w.heap.size, 29, none⟩ = some (.int .i64 t.sess) ∧ W.cell? ⟨w.heap.size, 30, none⟩ = some (.int .i64 t.queue))
      (exact ⟨HC.out _ (by (repeat (first | with_reducible exact Mod.refl _ _ | with_reducible exact g11.no | with_reducible exact g10.no | with_reducible exact g9.no | with_reducible exact g8.no | with_reducible exact g7.no | with_reducible exact g6.no | with_reducible exact g5.no | with_reducible exact g4.no | with_reducible exact g3.no | with_reducible exact g2.no | with_reducible exact g1.no | with_reducible exact g0.no | refine Mod.alloc ?_ _ | refine Mod.drew ?_))) 29 _ rfl, HC.out _ (by (repeat (first | with_reducible exact Mod.refl _ _ | with_reducible exact g11.no | with_reducible exact g10.no | with_reducible exact g9.no | with_reducible exact g8.no | with_reducible exact g7.no | with_reducible exact g6.no | with_reducible exact g5.no | with_reducible exact g4.no | with_reducible exact g3.no | with_reducible exact g2.no | with_reducible exact g1.no | with_reducible exact g0.no | refine Mod.alloc ?_ _ | refine Mod.drew ?_))) 30 _ rfl⟩)
      (first
        | (go_at_call 41; refine (put16_gr g10 ?_ HB.out qb HLT.out.2.2 ?_).mono ?_; (repeat (first | with_reducible exact Mod.refl _ _ | refine Mod.alloc ?_ _ | refine Mod.drew ?_)); (simp only [List.length_append, be_length, List.length_nil, K8.len, M6.len]; have := HNL.out; omega); rintro e w11 ⟨v11, rfl, g11, m11, r11⟩)
        | (go_at_call 41; refine (put16_gr g9 ?_ HB.out sb HLT.out.2.1 ?_).mono ?_; (repeat (first | with_reducible exact Mod.refl _ _ | refine Mod.alloc ?_ _ | refine Mod.drew ?_)); (simp only [List.length_append, be_length, List.length_nil, K8.len, M6.len]; have := HNL.out; omega); rintro e w10 ⟨v10, rfl, g10, m10, r10⟩))
    go_wp2_with fail
    go_region_held3 (fun W => W.cell? ⟨w.heap.size, 31, none⟩ = some (.int .u32 (t.rate : Int)) ∧ W.cell? ⟨w.heap.size, 32, none⟩ = some (.int .u32 (t.burst : Int)))
      (exact ⟨HC.out _ (by (repeat (first | with_reducible exact Mod.refl _ _ | with_reducible exact g13.no | with_reducible exact g12.no | with_reducible exact g11.no | with_reducible exact g10.no | with_reducible exact g9.no | with_reducible exact g8.no | with_reducible exact g7.no | with_reducible exact g6.no | with_reducible exact g5.no | with_reducible exact g4.no | with_reducible exact g3.no | with_reducible exact g2.no | with_reducible exact g1.no | with_reducible exact g0.no | refine Mod.alloc ?_ _ | refine Mod.drew ?_))) 31 _ rfl, HC.out _ (by (repeat (first | with_reducible exact Mod.refl _ _ | with_reducible exact g13.no | with_reducible exact g12.no | with_reducible exact g11.no | with_reducible exact g10.no | with_reducible exact g9.no | with_reducible exact g8.no | with_reducible exact g7.no | with_reducible exact g6.no | with_reducible exact g5.no | with_reducible exact g4.no | with_reducible exact g3.no | with_reducible exact g2.no | with_reducible exact g1.no | with_reducible exact g0.no | refine Mod.alloc ?_ _ | refine Mod.drew ?_))) 32 _ rfl⟩)
      (first
        | (go_at_call 39; refine (put32_gr g12 ?_ HB.out t.burst HOK.out.burst ?_).mono ?_; (repeat (first | with_reducible exact Mod.refl _ _ | refine Mod.alloc ?_ _ | refine Mod.drew ?_)); (simp only [List.length_append, be_length, List.length_nil, K8.len, M6.len]; have := HNL.out; omega); rintro e w13 ⟨v13, rfl, g13, m13, r13⟩)
        | (go_at_call 39; refine (put32_gr g11 ?_ HB.out t.rate HOK.out.rate ?_).mono ?_; (repeat (first | with_reducible exact Mod.refl _ _ | refine Mod.alloc ?_ _ | refine Mod.drew ?_)); (simp only [List.length_append, be_length, List.length_nil, K8.len, M6.len]; have := HNL.out; omega); rintro e w12 ⟨v12, rfl, g12, m12, r12⟩))
    have hz := HC.out _ g13.no
    have z23 := hz 23 _ rfl
    have z27 := hz 27 _ rfl
    have z28 := hz 28 _ rfl
    clear hz
    go_wp2_with (first
      | (at_builtin; refine wpList_gr (by rfl) _ _ (by rfl) (Gr.ext g13 ?_) (by rfl) (be 1 pb ++ be 1 tb ++ be 1 ub) _ _ _ (by rfl) (by rfl) ?_ ?_ ?_ ?_; (repeat (first | with_reducible exact Mod.refl _ _ | refine Mod.alloc ?_ _ | refine Mod.drew ?_)); (rw [H3.out]; exact World.news_of_block (at10 _ _)); (simp only [List.length_append, be_length, List.length_nil, K8.len, M6.len]; have := HNL.out; omega); (refine Gr.size g13 ?_ HB.out; (repeat (first | with_reducible exact Mod.refl _ _ | refine Mod.alloc ?_ _ | refine Mod.drew ?_))); intro v14 w14 g14)
      | fail)
    obtain ⟨LL, hlen, heq, gL⟩ : ∃ LL, LL.length ≤ 1000 ∧ LL ++ nums4 (t.pool.take 255) ++ prs8 (t.statics.take 255) ++ prs8 (t.twices.take 255) = wten t ∧ Gr w.heap.size (.slice none 0 0) w0 v14 w14 LL := by
      refine ⟨_, ?_, ?_, g14⟩
      · simp only [List.length_append, be_length, List.length_nil, K8.len, M6.len, List.length_cons]; have := HNL.out; omega
      · simp only [wten, wfields, List.flatten_cons, List.flatten_nil, List.append_nil, List.nil_append, List.append_assoc, HBB.out.1, HBB.out.2.1, HBB.out.2.2, HPB.out.1, HPB.out.2.1, HPB.out.2.2, be_mod8, be_mod16]
    have HE := Lib.hid (And.intro hlen (And.intro heq gL))
    clear hlen heq gL g14 g13 g12 g11 g10 g9 g8 g7 g6 g5 g4 g3 g2 g1 m1 m2 m4 m7 m8 m10 m11 m12 m13 r1 r2 r4 r7 r8 r10 r11 r12 r13 z23 z27 z28 mp ms mt wp ws wt f8 s16 q16
    obtain ⟨n, hn⟩ : ∃ n, n = t.pool.length := ⟨_, rfl⟩
    have HN := Lib.hid hn
    clear hn
    go_loopw [4, 3] (fun i b wr => ∃ (j : Nat) (v' : Value), i = .int .i64 j ∧ v' = b ∧ j ≤ n ∧ j ≤ 255 ∧ Gr w.heap.size (.slice none 0 0) w0 v' wr (LL ++ nums4 (t.pool.take j))) (fun i _ _ => 255 - (intOf i).toNat)
    case atStart => exact ⟨0, v14, rfl, rfl, by omega, by omega, by simpa [nums4] using HE.out.2.2⟩
    case round =>
      obtain ⟨j, v', rfl, rfl, hj, hj8, hg⟩ := hrel
      have z23 : wr.cell? ⟨w.heap.size, 23, none⟩ = some (.slice P n p) := by rw [HN.out]; exact HC.out _ hg.no _ _ rfl
      have HG := Lib.hid hg
      clear hg
      have hlp : (nums4 (t.pool.take j)).length ≤ 4 * 255 := by rw [nums4_length, List.length_take]; omega
      by_cases hlt : j < n
      · by_cases h255 : j < 255
        · obtain ⟨z, hz⟩ : ∃ z, t.pool[j]? = some z := ⟨_, List.getElem?_eq_getElem (by have := HN.out; omega)⟩
          have hzz := HOK.out.pool z (List.mem_of_getElem? hz)
          obtain ⟨bb, o, rfl, hbb, hblt, hx0⟩ := nums_at (HR.out.1.keeps (HG.out.no.keeps (fun _ _ _ f => f))) hz
          have p1 : (0:Int) ≤ j := by omega
          have p2 : (j:Int) < n := by omega
          have p3 : (j:Int) < 255 := by omega
          have HZ := Lib.hid (And.intro hz (And.intro hzz hlp))
          clear hz hzz hlp
          go_wp2_with (first | (go_at_call 39; refine (put32_gr HG.out (Mod.refl _ _) HB.out z HZ.out.2.1 ?_).mono ?_; (have := HE.out.1; have := HZ.out.2.2; rw [List.length_append]; omega); rintro e w15 ⟨v15, rfl, g15, _, _⟩; have H15 := Lib.hid g15; clear g15) | fail)
          refine ⟨⟨j + 1, v15, by go_num, rfl, by omega, by omega, ?_⟩, by simp [intOf]; omega⟩
          rw [take_snoc' HZ.out.1, nums4, List.flatMap_append, ← List.append_assoc]
          simpa [nums4] using H15.out
        · obtain rfl : j = 255 := by omega
          have HLP := Lib.hid hlp
          clear hlp
          go_wp2_with fail
          go_region_held3 (fun W => W.cell? ⟨w.heap.size, 27, none⟩ = some (.slice Q t.statics.length q) ∧ W.cell? ⟨w.heap.size, 28, none⟩ = some (.slice R t.twices.length r))
            (exact ⟨HC.out _ (by (repeat (first | with_reducible exact Mod.refl _ _ | with_reducible exact g17.no | with_reducible exact g16.no | with_reducible exact HG.out.no | refine Mod.alloc ?_ _ | refine Mod.drew ?_))) 27 _ rfl, HC.out _ (by (repeat (first | with_reducible exact Mod.refl _ _ | with_reducible exact g17.no | with_reducible exact g16.no | with_reducible exact HG.out.no | refine Mod.alloc ?_ _ | refine Mod.drew ?_))) 28 _ rfl⟩)
            (first
              | (go_at_call 42; refine (pairs_gr g16 ?_ HB.out t.twices HLL.out.2.2 HOK.out.twices HR.out.2.2 ?_).mono ?_; (repeat (first | with_reducible exact Mod.refl _ _ | refine Mod.alloc ?_ _ | refine Mod.drew ?_)); (rw [List.length_append, prs8_length, List.length_take, List.length_append]; have := HE.out.1; have := HLP.out; omega); rintro e w17 ⟨v17, rfl, g17, _, _⟩)
              | (go_at_call 42; refine (pairs_gr HG.out ?_ HB.out t.statics HLL.out.2.1 HOK.out.statics HR.out.2.1 ?_).mono ?_; (repeat (first | with_reducible exact Mod.refl _ _ | refine Mod.alloc ?_ _ | refine Mod.drew ?_)); (rw [List.length_append]; have := HE.out.1; have := HLP.out; omega); rintro e w16 ⟨v16, rfl, g16, _, _⟩))
          all_goals
            go_wp2
            go_ret
            refine ⟨v17, rfl, ?_, HM0.out.trans g17.no⟩
            rw [← HE.out.2.1]
            exact g17.own
      · obtain rfl : n = j := by omega
        have hf : t.pool.take 255 = t.pool.take n := by rw [List.take_of_length_le (by have := HN.out; omega), List.take_of_length_le (by have := HN.out; omega)]
        have HG := Lib.hid (show Gr w.heap.size (.slice none 0 0) w0 v' wr (LL ++ nums4 (t.pool.take 255)) by rw [hf]; exact HG.out)
        have hlp : (nums4 (t.pool.take 255)).length ≤ 4 * 255 := by rw [hf]; exact hlp
        clear hf
        have HLP := Lib.hid hlp
        clear hlp
        go_wp2_with fail
        go_region_held3 (fun W => W.cell? ⟨w.heap.size, 27, none⟩ = some (.slice Q t.statics.length q) ∧ W.cell? ⟨w.heap.size, 28, none⟩ = some (.slice R t.twices.length r))
          (exact ⟨HC.out _ (by (repeat (first | with_reducible exact Mod.refl _ _ | with_reducible exact g17.no | with_reducible exact g16.no | with_reducible exact HG.out.no | refine Mod.alloc ?_ _ | refine Mod.drew ?_))) 27 _ rfl, HC.out _ (by (repeat (first | with_reducible exact Mod.refl _ _ | with_reducible exact g17.no | with_reducible exact g16.no | with_reducible exact HG.out.no | refine Mod.alloc ?_ _ | refine Mod.drew ?_))) 28 _ rfl⟩)
          (first
            | (go_at_call 42; refine (pairs_gr g16 ?_ HB.out t.twices HLL.out.2.2 HOK.out.twices HR.out.2.2 ?_).mono ?_; (repeat (first | with_reducible exact Mod.refl _ _ | refine Mod.alloc ?_ _ | refine Mod.drew ?_)); (rw [List.length_append, prs8_length, List.length_take, List.length_append]; have := HE.out.1; have := HLP.out; omega); rintro e w17 ⟨v17, rfl, g17, _, _⟩)
            | (go_at_call 42; refine (pairs_gr HG.out ?_ HB.out t.statics HLL.out.2.1 HOK.out.statics HR.out.2.1 ?_).mono ?_; (repeat (first | with_reducible exact Mod.refl _ _ | refine Mod.alloc ?_ _ | refine Mod.drew ?_)); (rw [List.length_append]; have := HE.out.1; have := HLP.out; omega); rintro e w16 ⟨v16, rfl, g16, _, _⟩))
        all_goals
          go_wp2
          go_ret
          refine ⟨v17, rfl, ?_, HM0.out.trans g17.no⟩
          rw [← HE.out.2.1]
          exact g17.own

end Go.Proofs.Ytcnemhhbihhcfaa
