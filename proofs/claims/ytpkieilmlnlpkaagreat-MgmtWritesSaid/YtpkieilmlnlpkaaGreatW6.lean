/-
  RefC, RefD, RdE, RdF, LawH, RdG, RdH, RdI in one text (pack.py).
-/
import Derived.Test.YtpkieilmlnlpkaaGreatW5
namespace Go.Proofs.YtpkieilmlnlpkaaGreat

section
attribute [local go_sem] stPair gtPair gtK8 gtM6 run_store_func
attribute [local go_sem high] neqPair eqK8 eqM6
attribute [local go_sem ↓] load_fold store_fold alloc_fold
open Go.RowKit
set_option linter.unusedVariables false
set_option linter.unusedSimpArgs false
section
variable {base : Nat} {v0 v : Value} {w0 w W : World} {L : List UInt8}
theorem Gr.size (g : Gr base v0 w0 v w L) (hW : Mod No w W) (hb : base ≤ w0.heap.size) : base ≤ W.heap.size := Nat.le_trans hb (Nat.le_trans g.mod.size hW.size)
theorem Gr.ne_size (g : Gr base v0 w0 v w L) : v.ownBlock ≠ some w.heap.size := fun e => Nat.lt_irrefl _ (g.own.ge e).2
theorem put32_gr (g : Gr base v0 w0 v w L) (hW : Mod No w W) (hb : base ≤ w0.heap.size) (n : Nat) (hn : n < 4294967296) (hL : L.length ≤ 90000000) :
    Calls Tryz.prog 43 #[v, .int .u32 (n : Int)] W fun e w' => ∃ v', e = .returned v' ∧ Gr base v0 w0 v' w' (L ++ be 4 n) ∧ Mod (fun b => v.ownBlock = some b) W w' ∧ (∀ k, v'.ownBlock = some k → v.ownBlock = some k ∨ W.heap.size ≤ k) :=
  (put32_ok (g.ext hW).own (g.size hW hb) hL n hn).mono fun e w' ⟨v', e1, g1⟩ => ⟨v', e1, (g.ext hW).trans g1, g1.mod, g1.row⟩
theorem put16_gr (g : Gr base v0 w0 v w L) (hW : Mod No w W) (hb : base ≤ w0.heap.size) (n : Nat) (hn : n < 65536) (hL : L.length ≤ 90000000) :
    Calls Tryz.prog 56 #[v, .int .u16 (n : Int)] W fun e w' => ∃ v', e = .returned v' ∧ Gr base v0 w0 v' w' (L ++ be 2 n) ∧ Mod (fun b => v.ownBlock = some b) W w' ∧ (∀ k, v'.ownBlock = some k → v.ownBlock = some k ∨ W.heap.size ≤ k) :=
  (put16_ok (g.ext hW).own (g.size hW hb) hL n hn).mono fun e w' ⟨v', e1, g1⟩ => ⟨v', e1, (g.ext hW).trans g1, g1.mod, g1.row⟩
theorem name_gr (g : Gr base v0 w0 v w L) (hW : Mod No w W) (hb : base ≤ w0.heap.size) (l : List UInt8) (hl : l.length ≤ 100000000) (hL : L.length ≤ 90000000) :
    Calls Tryz.prog 42 #[v, .string (str l)] W fun e w' => ∃ v', e = .returned v' ∧ Gr base v0 w0 v' w' (L ++ nameB' l) ∧ Mod (fun b => v.ownBlock = some b) W w' ∧ (∀ k, v'.ownBlock = some k → v.ownBlock = some k ∨ W.heap.size ≤ k) :=
  (refName_ok (g.ext hW).own (g.size hW hb) hL l hl).mono fun e w' ⟨v', e1, g1⟩ => ⟨v', e1, (g.ext hW).trans g1, g1.mod, g1.row⟩
theorem pairs_gr (g : Gr base (.slice none 0 0) w0 v w L) (hW : Mod No w W) (hb : base ≤ w0.heap.size) (l : List Pr) (hl : l.length ≤ 100000000) (hz : ∀ x ∈ l, x.a < 4294967296 ∧ x.b < 4294967296) {A : Option Addr} {c : Nat} (hrow : RowAt (· < base) w0 A (prCells l)) (hL : L.length ≤ 80000000) :
    Calls Tryz.prog 57 #[v, .slice A l.length c] W fun e w' => ∃ v', e = .returned v' ∧ Gr base (.slice none 0 0) w0 v' w' (L ++ prs8 (l.take 255)) ∧ Mod (fun b => v.ownBlock = some b) W w' ∧ (∀ k, v'.ownBlock = some k → v.ownBlock = some k ∨ W.heap.size ≤ k) :=
  (refPairs_ok (g.ext hW).own (g.size hW hb) hL l hl hz (hrow.keeps ((g.ext hW).no.keeps (fun _ _ _ f => f)))).mono fun e w' ⟨v', e1, g1⟩ => ⟨v', e1, (g.ext hW).trans g1, g1.mod, g1.row⟩
theorem wpList_gr {ops : Array Oper} {rest : List Oper} {o : Oper} {a : Act} {Q : Exit → Act → World → Prop} (hgd : o.guard = none) (s x : Operand)
    (ho : o.op = .call { callee := .builtin .append, args := #[s, x], argTypes := #[40, 40] }) (gr : Gr base v0 w0 v w L) (hs : a.eval s = v)
    (X : List UInt8) (ad : Addr) (m c : Nat) (hx : a.eval x = .slice (some ad) m c) (hm : m = X.length) (hc : ∀ j u, (bcells X)[j]? = some u → w.cell? (ad.add j) = some u) (hl : L.length + X.length ≤ 100000000) (hbase : base ≤ w.heap.size)
    (h : ∀ v' w', Gr base v0 w0 v' w' (L ++ X) → wpList Tryz.prog ops Q rest (a.put o.dst v') w') : wpList Tryz.prog ops Q (o :: rest) a w := by
  obtain ⟨i0, hi, hz0, hz1, hz2⟩ := info_parts infoU8
  subst hm
  refine wpList_append_own_at w hgd s x 40 ho base 5 i0 _ 1 1 Tryz.underlying40 hi hz0 hz1 hz2 rfl (by decide) v L.length (bcells L) hs gr.own ad X.length c (bcells X) hx (by rw [bcells_length, Nat.mul_one]) hc (bcells_one X) (by unfold maxLen; omega) (by omega) hbase ?_
  intro v' w' h1 h2 _ h4
  exact h v' w' (gr.trans (gr_append h1 h2 h4))
end
theorem K8.len (k : K8) : k.l.length = 8 := rfl
theorem M6.len (m : M6) : m.l.length = 6 := rfl
theorem be_mod16 (n : Nat) : be 2 (n % 65536) = be 2 n := by
  simp only [be, Nat.pow_one, Nat.pow_zero, Nat.div_one, List.cons.injEq, and_true]
  constructor <;> (apply UInt8.toNat_inj.1; simp; try omega)
theorem be_mod8 (n : Nat) : be 1 (n % 256) = be 1 n := by
  simp only [be, Nat.pow_zero, Nat.div_one, List.cons.injEq, and_true]
  apply UInt8.toNat_inj.1; simp
theorem u64n_16 (z : Int) : z % 65536 = ((u64n z % 65536 : Nat) : Int) := by
  have : (u64n z : Int) = z % 18446744073709551616 := by rw [← u64n_cast]; simp [IntKind.wrap, IntKind.bits, IntKind.signed]
  omega
theorem u64n_8 (z : Int) : z % 256 = ((u64n z % 256 : Nat) : Int) := by
  have : (u64n z : Int) = z % 18446744073709551616 := by rw [← u64n_cast]; simp [IntKind.wrap, IntKind.bits, IntKind.signed]
  omega
theorem be1_cells (n : Nat) (h : n < 256) : bcells (be 1 n) = [.int .u8 (n : Int)] := by
  simp [be, bcells]
  omega
theorem key_in (x : TV) (j : Nat) (u : Value) (h : (bcells x.t.key.l)[j]? = some u) : x.cells[2 + j]? = some u := by
  have hj : j < 8 := (List.getElem?_eq_some_iff.1 h).1
  match j, hj, h with
  | 0, _, h => exact h
  | 1, _, h => exact h
  | 2, _, h => exact h
  | 3, _, h => exact h
  | 4, _, h => exact h
  | 5, _, h => exact h
  | 6, _, h => exact h
  | 7, _, h => exact h
theorem vmac_in (x : TV) (j : Nat) (u : Value) (h : (bcells x.t.vmac.l)[j]? = some u) : x.cells[11 + j]? = some u := by
  have hj : j < 6 := (List.getElem?_eq_some_iff.1 h).1
  match j, hj, h with
  | 0, _, h => exact h
  | 1, _, h => exact h
  | 2, _, h => exact h
  | 3, _, h => exact h
  | 4, _, h => exact h
  | 5, _, h => exact h
theorem host_in (x : TV) (j : Nat) (u : Value) (h : (bcells x.t.host.l)[j]? = some u) : x.cells[17 + j]? = some u := by
  have hj : j < 6 := (List.getElem?_eq_some_iff.1 h).1
  match j, hj, h with
  | 0, _, h => exact h
  | 1, _, h => exact h
  | 2, _, h => exact h
  | 3, _, h => exact h
  | 4, _, h => exact h
  | 5, _, h => exact h
set_option maxRecDepth 100000 in
set_option maxHeartbeats 4000000 in
theorem refTenant_ok {w : World} (x : TV) (hr : x.Rows (· < w.heap.size) w) (hok : x.t.Ok) (hnm : x.t.name.length ≤ 100000000) (hll : x.t.pool.length ≤ 100000000 ∧ x.t.statics.length ≤ 100000000 ∧ x.t.twices.length ≤ 100000000) :
    Calls Tryz.prog 41 #[.agg x.cells.toArray] w fun e w' => ∃ v, e = .returned v ∧ OwnB w' w.heap.size v (wten x.t) ∧ Mod No w w' := by
  obtain ⟨CA, hCA⟩ : ∃ CA, CA = x.cells.toArray := ⟨_, rfl⟩
  rw [← hCA]
  have bA := box_ten CA (by rw [hCA]; rfl)
  obtain ⟨w0, hw0⟩ : ∃ w0, w0 = w.alloc (.cells CA 31) := ⟨_, rfl⟩
  have hm0 : Mod No w w0 := by rw [hw0]; exact (Mod.refl _ _).alloc _
  have hb0 : w0.heap[w.heap.size]? = some (.cells CA 31 (0, 0)) := by rw [hw0]; exact at10 w _
  obtain ⟨t, vp, vs, vt⟩ := x
  have hcell : ∀ W, Mod No w0 W → ∀ j u, (TV.cells ⟨t, vp, vs, vt⟩)[j]? = some u → W.cell? ⟨w.heap.size, j, none⟩ = some u := fun W hW j u hj => by
    rw [blk_cell (hW.obj hb0 id), hCA]
    simpa using hj
  obtain ⟨P, p, Q, q, R, r, e1, e2, e3, r1, r2, r3⟩ := hr.keeps (hm0.keeps (fun _ _ _ f => f))
  obtain ⟨fz, hfz⟩ : ∃ fz, fz = t.filter := ⟨_, rfl⟩
  simp only at e1 e2 e3 r1 r2 r3 hll hok hnm
  subst e1 e2 e3
  obtain ⟨fb, hfb⟩ : ∃ fb, fb = u64n t.filter % 256 := ⟨_, rfl⟩
  obtain ⟨sb, hsb⟩ : ∃ sb, sb = u64n t.sess % 65536 := ⟨_, rfl⟩
  obtain ⟨qb, hqb⟩ : ∃ qb, qb = u64n t.queue % 65536 := ⟨_, rfl⟩
  have f8 : IntKind.u8.wrap t.filter = (fb : Int) := by rw [hfb, ← u64n_8]; simp [IntKind.wrap, IntKind.bits, IntKind.signed]
  have s16 : IntKind.u16.wrap t.sess = (sb : Int) := by rw [hsb, ← u64n_16]; simp [IntKind.wrap, IntKind.bits, IntKind.signed]
  have q16 : IntKind.u16.wrap t.queue = (qb : Int) := by rw [hqb, ← u64n_16]; simp [IntKind.wrap, IntKind.bits, IntKind.signed]
  obtain ⟨pb, hpb⟩ : ∃ pb, pb = min t.pool.length 255 := ⟨_, rfl⟩
  obtain ⟨tb, htb⟩ : ∃ tb, tb = min t.statics.length 255 := ⟨_, rfl⟩
  obtain ⟨ub, hub⟩ : ∃ ub, ub = min t.twices.length 255 := ⟨_, rfl⟩
  have mp : min (t.pool.length : Int) 255 = pb := by omega
  have ms : min (t.statics.length : Int) 255 = tb := by omega
  have mt : min (t.twices.length : Int) 255 = ub := by omega
  have wp : IntKind.u8.wrap (pb : Int) = pb := by simp [IntKind.wrap, IntKind.bits, IntKind.signed]; omega
  have ws : IntKind.u8.wrap (tb : Int) = tb := by simp [IntKind.wrap, IntKind.bits, IntKind.signed]; omega
  have wt : IntKind.u8.wrap (ub : Int) = ub := by simp [IntKind.wrap, IntKind.bits, IntKind.signed]; omega
  have H3 := Lib.hid (show bcells (be 1 pb ++ be 1 tb ++ be 1 ub) = [.int .u8 (pb : Int), .int .u8 (tb : Int), .int .u8 (ub : Int)] by
    rw [bcells_append, bcells_append, be1_cells _ (by omega), be1_cells _ (by omega), be1_cells _ (by omega)]; rfl)
  have HPB := Lib.hid (And.intro hpb (And.intro htb hub))
  clear hpb htb hub
  have HLT := Lib.hid (show fb < 256 ∧ sb < 65536 ∧ qb < 65536 by omega)
  have HBB := Lib.hid (And.intro hfb (And.intro hsb hqb))
  clear hfb hsb hqb
  have HC := Lib.hid hcell
  have HB := Lib.hid (show w.heap.size ≤ w0.heap.size from hm0.size)
  have hnl : (nameB' t.name).length ≤ 256 := by simp only [nameB', List.length_append, be_length, List.length_take]; omega
  have HNL := Lib.hid hnl
  have HOK := Lib.hid hok
  have HNM := Lib.hid hnm
  have HLL := Lib.hid hll
  have HR := Lib.hid (And.intro r1 (And.intro r2 r3))
  have HM0 := Lib.hid hm0
  have hTkey : ∀ W, Mod No w0 W → ∀ j u, (bcells t.key.l)[j]? = some u → W.cell? ((⟨w.heap.size, 2, none⟩ : Addr).add j) = some u := fun W hW j u hj => by rw [Addr.add_lit]; exact hcell W hW _ u (key_in ⟨t, .slice P t.pool.length p, .slice Q t.statics.length q, .slice R t.twices.length r⟩ j u hj)
  have HTkey := Lib.hid hTkey
  have hTvmac : ∀ W, Mod No w0 W → ∀ j u, (bcells t.vmac.l)[j]? = some u → W.cell? ((⟨w.heap.size, 11, none⟩ : Addr).add j) = some u := fun W hW j u hj => by rw [Addr.add_lit]; exact hcell W hW _ u (vmac_in ⟨t, .slice P t.pool.length p, .slice Q t.statics.length q, .slice R t.twices.length r⟩ j u hj)
  have HTvmac := Lib.hid hTvmac
  have hThost : ∀ W, Mod No w0 W → ∀ j u, (bcells t.host.l)[j]? = some u → W.cell? ((⟨w.heap.size, 17, none⟩ : Addr).add j) = some u := fun W hW j u hj => by rw [Addr.add_lit]; exact hcell W hW _ u (host_in ⟨t, .slice P t.pool.length p, .slice Q t.statics.length q, .slice R t.twices.length r⟩ j u hj)
  have HThost := Lib.hid hThost
  have g0 : Gr w.heap.size (.slice none 0 0) w0 (.slice none 0 0) w0 [] := Gr.refl (nil_own _ _)
  have HW0 := Lib.hid hw0
  clear hr hok hnm hll r1 r2 r3 hm0 hb0 hcell hnl hfz hw0 hCA hTkey hTvmac hThost
  go_enter Tryz.func41, Tryz.ntmps41
  go_wp2_with fail
  rw [← HW0.out]
  go_region_held3 (fun W => W.cell? ⟨w.heap.size, 0, none⟩ = some (.string (str t.name)) ∧ W.cell? ⟨w.heap.size, 1, none⟩ = some (.int .u32 (t.vni : Int)))
    (exact ⟨HC.out _ (by (repeat (first | with_reducible exact Mod.refl _ _ | with_reducible exact g2.no | with_reducible exact g1.no | with_reducible exact g0.no | refine Mod.alloc ?_ _ | refine Mod.drew ?_))) 0 _ rfl, HC.out _ (by (repeat (first | with_reducible exact Mod.refl _ _ | with_reducible exact g2.no | with_reducible exact g1.no | with_reducible exact g0.no | refine Mod.alloc ?_ _ | refine Mod.drew ?_))) 1 _ rfl⟩)
    (first
      | (go_at_call 43; refine (put32_gr g1 ?_ HB.out t.vni HOK.out.vni ?_).mono ?_; (repeat (first | with_reducible exact Mod.refl _ _ | refine Mod.alloc ?_ _ | refine Mod.drew ?_)); (simp only [List.length_append, be_length, List.length_nil, K8.len, M6.len]; have := HNL.out; omega); rintro e w2 ⟨v2, rfl, g2, m2, r2⟩)
      | (go_at_call 42; refine (name_gr g0 ?_ HB.out t.name HNM.out ?_).mono ?_; (repeat (first | with_reducible exact Mod.refl _ _ | refine Mod.alloc ?_ _ | refine Mod.drew ?_)); (simp only [List.length_append, be_length, List.length_nil, K8.len, M6.len]; have := HNL.out; omega); rintro e w1 ⟨v1, rfl, g1, m1, r1⟩))
  all_goals
    skip
  go_wp2_with fail
  go_region_held3 (fun W => W.cell? ⟨w.heap.size, 10, none⟩ = some (.int .u32 (t.vtep : Int)))
    (exact HC.out _ (by (repeat (first | with_reducible exact Mod.refl _ _ | with_reducible exact g4.no | with_reducible exact g3.no | with_reducible exact g2.no | with_reducible exact g1.no | with_reducible exact g0.no | refine Mod.alloc ?_ _ | refine Mod.drew ?_))) 10 _ rfl)
    (first
      | (go_at_call 43; refine (put32_gr g3 ?_ HB.out t.vtep HOK.out.vtep ?_).mono ?_; (repeat (first | with_reducible exact Mod.refl _ _ | refine Mod.alloc ?_ _ | refine Mod.drew ?_)); (simp only [List.length_append, be_length, List.length_nil, K8.len, M6.len]; have := HNL.out; omega); rintro e w4 ⟨v4, rfl, g4, m4, r4⟩)
      | (refine step_gr (by rfl) _ _ (by rfl) (Gr.ext g2 ?_) (by rfl) t.key.l _ _ _ (by rfl) (by rfl) ?_ ?_ (by exact List.cons_ne_nil _ _) ?_ ?_; (repeat (first | with_reducible exact Mod.refl _ _ | refine Mod.alloc ?_ _ | refine Mod.drew ?_)); (exact HTkey.out _ (by (repeat (first | with_reducible exact Mod.refl _ _ | with_reducible exact g2.no | with_reducible exact g1.no | with_reducible exact g0.no | refine Mod.alloc ?_ _ | refine Mod.drew ?_)))); (simp only [List.length_append, be_length, List.length_nil, K8.len, M6.len]; have := HNL.out; omega); (refine Gr.size g2 ?_ HB.out; (repeat (first | with_reducible exact Mod.refl _ _ | refine Mod.alloc ?_ _ | refine Mod.drew ?_))); intro v3 w3 g3 _))
  all_goals
    skip
  go_wp2_with fail
  go_region_law (first
    | (refine step_gr (by rfl) _ _ (by rfl) (Gr.ext g5 ?_) (by rfl) t.host.l _ _ _ (by rfl) (by rfl) ?_ ?_ (by exact List.cons_ne_nil _ _) ?_ ?_; (repeat (first | with_reducible exact Mod.refl _ _ | refine Mod.alloc ?_ _ | refine Mod.drew ?_)); (exact HThost.out _ (by (repeat (first | with_reducible exact Mod.refl _ _ | with_reducible exact g5.no | with_reducible exact g4.no | with_reducible exact g3.no | with_reducible exact g2.no | with_reducible exact g1.no | with_reducible exact g0.no | refine Mod.alloc ?_ _ | refine Mod.drew ?_)))); (simp only [List.length_append, be_length, List.length_nil, K8.len, M6.len]; have := HNL.out; omega); (refine Gr.size g5 ?_ HB.out; (repeat (first | with_reducible exact Mod.refl _ _ | refine Mod.alloc ?_ _ | refine Mod.drew ?_))); intro v6 w6 g6 _)
    | (refine step_gr (by rfl) _ _ (by rfl) (Gr.ext g4 ?_) (by rfl) t.vmac.l _ _ _ (by rfl) (by rfl) ?_ ?_ (by exact List.cons_ne_nil _ _) ?_ ?_; (repeat (first | with_reducible exact Mod.refl _ _ | refine Mod.alloc ?_ _ | refine Mod.drew ?_)); (exact HTvmac.out _ (by (repeat (first | with_reducible exact Mod.refl _ _ | with_reducible exact g4.no | with_reducible exact g3.no | with_reducible exact g2.no | with_reducible exact g1.no | with_reducible exact g0.no | refine Mod.alloc ?_ _ | refine Mod.drew ?_)))); (simp only [List.length_append, be_length, List.length_nil, K8.len, M6.len]; have := HNL.out; omega); (refine Gr.size g4 ?_ HB.out; (repeat (first | with_reducible exact Mod.refl _ _ | refine Mod.alloc ?_ _ | refine Mod.drew ?_))); intro v5 w5 g5 _))
  all_goals
    skip
  go_wp2_with fail
  go_region_held3 (fun W => W.cell? ⟨w.heap.size, 24, none⟩ = some (.int .u16 (t.lo : Int)) ∧ W.cell? ⟨w.heap.size, 25, none⟩ = some (.int .u16 (t.hi : Int)) ∧ W.cell? ⟨w.heap.size, 26, none⟩ = some (.int .i64 t.filter))
    (exact ⟨HC.out _ (by (repeat (first | with_reducible exact Mod.refl _ _ | with_reducible exact g9.no | with_reducible exact g8.no | with_reducible exact g7.no | with_reducible exact g6.no | with_reducible exact g5.no | with_reducible exact g4.no | with_reducible exact g3.no | with_reducible exact g2.no | with_reducible exact g1.no | with_reducible exact g0.no | refine Mod.alloc ?_ _ | refine Mod.drew ?_))) 24 _ rfl, HC.out _ (by (repeat (first | with_reducible exact Mod.refl _ _ | with_reducible exact g9.no | with_reducible exact g8.no | with_reducible exact g7.no | with_reducible exact g6.no | with_reducible exact g5.no | with_reducible exact g4.no | with_reducible exact g3.no | with_reducible exact g2.no | with_reducible exact g1.no | with_reducible exact g0.no | refine Mod.alloc ?_ _ | refine Mod.drew ?_))) 25 _ rfl, HC.out _ (by (repeat (first | with_reducible exact Mod.refl _ _ | with_reducible exact g9.no | with_reducible exact g8.no | with_reducible exact g7.no | with_reducible exact g6.no | with_reducible exact g5.no | with_reducible exact g4.no | with_reducible exact g3.no | with_reducible exact g2.no | with_reducible exact g1.no | with_reducible exact g0.no | refine Mod.alloc ?_ _ | refine Mod.drew ?_))) 26 _ rfl⟩)
    (first
      | (refine step_gr (by rfl) _ _ (by rfl) (Gr.ext g8 ?_) (by rfl) (be 1 fb) _ _ _ (by rfl) (by rfl) ?_ ?_ (by exact List.cons_ne_nil _ _) ?_ ?_; (repeat (first | with_reducible exact Mod.refl _ _ | refine Mod.alloc ?_ _ | refine Mod.drew ?_)); (rw [be1_cells _ HLT.out.1]; (first | exact World.news_of_block (at10 _ _) | exact World.news_of_block (m8.obj (at10 _ _) g7.ne_size) | exact World.news_of_block (m8.obj (m7.obj (at10 _ _) g6.ne_size) (fun e => (r7 _ e).elim g6.ne_size (fun h => by (simp at h <;> omega)))))); (simp only [List.length_append, be_length, List.length_nil, K8.len, M6.len]; have := HNL.out; omega); (refine Gr.size g8 ?_ HB.out; (repeat (first | with_reducible exact Mod.refl _ _ | refine Mod.alloc ?_ _ | refine Mod.drew ?_))); intro v9 w9 g9 _)
      | (go_at_call 56; refine (put16_gr g7 ?_ HB.out t.hi HOK.out.hi ?_).mono ?_; (repeat (first | with_reducible exact Mod.refl _ _ | refine Mod.alloc ?_ _ | refine Mod.drew ?_)); (simp only [List.length_append, be_length, List.length_nil, K8.len, M6.len]; have := HNL.out; omega); rintro e w8 ⟨v8, rfl, g8, m8, r8⟩)
      | (go_at_call 56; refine (put16_gr g6 ?_ HB.out t.lo HOK.out.lo ?_).mono ?_; (repeat (first | with_reducible exact Mod.refl _ _ | refine Mod.alloc ?_ _ | refine Mod.drew ?_)); (simp only [List.length_append, be_length, List.length_nil, K8.len, M6.len]; have := HNL.out; omega); rintro e w7 ⟨v7, rfl, g7, m7, r7⟩))
  all_goals
    go_wp2_with fail
    go_region_held3 (fun W => W.cell? ⟨w.heap.size, 29, none⟩ = some (.int .i64 t.sess) ∧ W.cell? ⟨w.heap.size, 30, none⟩ = some (.int .i64 t.queue))
      (exact ⟨HC.out _ (by (repeat (first | with_reducible exact Mod.refl _ _ | with_reducible exact g11.no | with_reducible exact g10.no | with_reducible exact g9.no | with_reducible exact g8.no | with_reducible exact g7.no | with_reducible exact g6.no | with_reducible exact g5.no | with_reducible exact g4.no | with_reducible exact g3.no | with_reducible exact g2.no | with_reducible exact g1.no | with_reducible exact g0.no | refine Mod.alloc ?_ _ | refine Mod.drew ?_))) 29 _ rfl, HC.out _ (by (repeat (first | with_reducible exact Mod.refl _ _ | with_reducible exact g11.no | with_reducible exact g10.no | with_reducible exact g9.no | with_reducible exact g8.no | with_reducible exact g7.no | with_reducible exact g6.no | with_reducible exact g5.no | with_reducible exact g4.no | with_reducible exact g3.no | with_reducible exact g2.no | with_reducible exact g1.no | with_reducible exact g0.no | refine Mod.alloc ?_ _ | refine Mod.drew ?_))) 30 _ rfl⟩)
      (first
        | (go_at_call 56; refine (put16_gr g10 ?_ HB.out qb HLT.out.2.2 ?_).mono ?_; (repeat (first | with_reducible exact Mod.refl _ _ | refine Mod.alloc ?_ _ | refine Mod.drew ?_)); (simp only [List.length_append, be_length, List.length_nil, K8.len, M6.len]; have := HNL.out; omega); rintro e w11 ⟨v11, rfl, g11, m11, r11⟩)
        | (go_at_call 56; refine (put16_gr g9 ?_ HB.out sb HLT.out.2.1 ?_).mono ?_; (repeat (first | with_reducible exact Mod.refl _ _ | refine Mod.alloc ?_ _ | refine Mod.drew ?_)); (simp only [List.length_append, be_length, List.length_nil, K8.len, M6.len]; have := HNL.out; omega); rintro e w10 ⟨v10, rfl, g10, m10, r10⟩))
    go_wp2_with fail
    go_region_held3 (fun W => W.cell? ⟨w.heap.size, 31, none⟩ = some (.int .u32 (t.rate : Int)) ∧ W.cell? ⟨w.heap.size, 32, none⟩ = some (.int .u32 (t.burst : Int)))
      (exact ⟨HC.out _ (by (repeat (first | with_reducible exact Mod.refl _ _ | with_reducible exact g13.no | with_reducible exact g12.no | with_reducible exact g11.no | with_reducible exact g10.no | with_reducible exact g9.no | with_reducible exact g8.no | with_reducible exact g7.no | with_reducible exact g6.no | with_reducible exact g5.no | with_reducible exact g4.no | with_reducible exact g3.no | with_reducible exact g2.no | with_reducible exact g1.no | with_reducible exact g0.no | refine Mod.alloc ?_ _ | refine Mod.drew ?_))) 31 _ rfl, HC.out _ (by (repeat (first | with_reducible exact Mod.refl _ _ | with_reducible exact g13.no | with_reducible exact g12.no | with_reducible exact g11.no | with_reducible exact g10.no | with_reducible exact g9.no | with_reducible exact g8.no | with_reducible exact g7.no | with_reducible exact g6.no | with_reducible exact g5.no | with_reducible exact g4.no | with_reducible exact g3.no | with_reducible exact g2.no | with_reducible exact g1.no | with_reducible exact g0.no | refine Mod.alloc ?_ _ | refine Mod.drew ?_))) 32 _ rfl⟩)
      (first
        | (go_at_call 43; refine (put32_gr g12 ?_ HB.out t.burst HOK.out.burst ?_).mono ?_; (repeat (first | with_reducible exact Mod.refl _ _ | refine Mod.alloc ?_ _ | refine Mod.drew ?_)); (simp only [List.length_append, be_length, List.length_nil, K8.len, M6.len]; have := HNL.out; omega); rintro e w13 ⟨v13, rfl, g13, m13, r13⟩)
        | (go_at_call 43; refine (put32_gr g11 ?_ HB.out t.rate HOK.out.rate ?_).mono ?_; (repeat (first | with_reducible exact Mod.refl _ _ | refine Mod.alloc ?_ _ | refine Mod.drew ?_)); (simp only [List.length_append, be_length, List.length_nil, K8.len, M6.len]; have := HNL.out; omega); rintro e w12 ⟨v12, rfl, g12, m12, r12⟩))
    have hz := HC.out _ g13.no
    have z23 := hz 23 _ rfl
    have z27 := hz 27 _ rfl
    have z28 := hz 28 _ rfl
    clear hz
    go_wp2_with (first
      | (at_builtin; refine wpList_gr (by rfl) _ _ (by rfl) (Gr.ext g13 ?_) (by rfl) (be 1 pb ++ be 1 tb ++ be 1 ub) _ _ _ (by rfl) (by rfl) ?_ ?_ ?_ ?_; (repeat (first | with_reducible exact Mod.refl _ _ | refine Mod.alloc ?_ _ | refine Mod.drew ?_)); (rw [H3.out]; exact World.news_of_block (at10 _ _)); (simp only [List.length_append, be_length, List.length_nil, K8.len, M6.len]; have := HNL.out; omega); (refine Gr.size g13 ?_ HB.out; (repeat (first | with_reducible exact Mod.refl _ _ | refine Mod.alloc ?_ _ | refine Mod.drew ?_))); intro v14 w14 g14)
      | fail)
    obtain ⟨LL, hlen, heq, gL⟩ : ∃ LL, LL.length ≤ 1000 ∧ LL ++ nums4 (t.pool.take 255) ++ prs8 (t.statics.take 255) ++ prs8 (t.twices.take 255) = wten t ∧ Gr w.heap.size (.slice none 0 0) w0 v14 w14 LL := by
      refine ⟨_, ?_, ?_, g14⟩
      · simp only [List.length_append, be_length, List.length_nil, K8.len, M6.len, List.length_cons]; have := HNL.out; omega
      · simp only [wten, wfields, List.flatten_cons, List.flatten_nil, List.append_nil, List.nil_append, List.append_assoc, HBB.out.1, HBB.out.2.1, HBB.out.2.2, HPB.out.1, HPB.out.2.1, HPB.out.2.2, be_mod8, be_mod16]
    have HE := Lib.hid (And.intro hlen (And.intro heq gL))
    clear hlen heq gL g14 g13 g12 g11 g10 g9 g8 g7 g6 g5 g4 g3 g2 g1 m1 m2 m4 m7 m8 m10 m11 m12 m13 r1 r2 r4 r7 r8 r10 r11 r12 r13 z23 z27 z28 mp ms mt wp ws wt f8 s16 q16
    obtain ⟨n, hn⟩ : ∃ n, n = t.pool.length := ⟨_, rfl⟩
    have HN := Lib.hid hn
    clear hn
    go_loopw [4, 3] (fun i b wr => ∃ (j : Nat) (v' : Value), i = .int .i64 j ∧ v' = b ∧ j ≤ n ∧ j ≤ 255 ∧ Gr w.heap.size (.slice none 0 0) w0 v' wr (LL ++ nums4 (t.pool.take j))) (fun i _ _ => 255 - (intOf i).toNat)
    case atStart => exact ⟨0, v14, rfl, rfl, by omega, by omega, by simpa [nums4] using HE.out.2.2⟩
    case round =>
      obtain ⟨j, v', rfl, rfl, hj, hj8, hg⟩ := hrel
      have z23 : wr.cell? ⟨w.heap.size, 23, none⟩ = some (.slice P n p) := by rw [HN.out]; exact HC.out _ hg.no _ _ rfl
      have HG := Lib.hid hg
      clear hg
      have hlp : (nums4 (t.pool.take j)).length ≤ 4 * 255 := by rw [nums4_length, List.length_take]; omega
      by_cases hlt : j < n
      · by_cases h255 : j < 255
        · obtain ⟨z, hz⟩ : ∃ z, t.pool[j]? = some z := ⟨_, List.getElem?_eq_getElem (by have := HN.out; omega)⟩
          have hzz := HOK.out.pool z (List.mem_of_getElem? hz)
          obtain ⟨bb, o, rfl, hbb, hblt, hx0⟩ := nums_at (HR.out.1.keeps (HG.out.no.keeps (fun _ _ _ f => f))) hz
          have p1 : (0:Int) ≤ j := by omega
          have p2 : (j:Int) < n := by omega
          have p3 : (j:Int) < 255 := by omega
          have HZ := Lib.hid (And.intro hz (And.intro hzz hlp))
          clear hz hzz hlp
          go_wp2_with (first | (go_at_call 43; refine (put32_gr HG.out (Mod.refl _ _) HB.out z HZ.out.2.1 ?_).mono ?_; (have := HE.out.1; have := HZ.out.2.2; rw [List.length_append]; omega); rintro e w15 ⟨v15, rfl, g15, _, _⟩; have H15 := Lib.hid g15; clear g15) | fail)
          refine ⟨⟨j + 1, v15, by go_num, rfl, by omega, by omega, ?_⟩, by simp [intOf]; omega⟩
          rw [take_snoc' HZ.out.1, nums4, List.flatMap_append, ← List.append_assoc]
          simpa [nums4] using H15.out
        · obtain rfl : j = 255 := by omega
          have HLP := Lib.hid hlp
          clear hlp
          go_wp2_with fail
          go_region_held3 (fun W => W.cell? ⟨w.heap.size, 27, none⟩ = some (.slice Q t.statics.length q) ∧ W.cell? ⟨w.heap.size, 28, none⟩ = some (.slice R t.twices.length r))
            (exact ⟨HC.out _ (by (repeat (first | with_reducible exact Mod.refl _ _ | with_reducible exact g17.no | with_reducible exact g16.no | with_reducible exact HG.out.no | refine Mod.alloc ?_ _ | refine Mod.drew ?_))) 27 _ rfl, HC.out _ (by (repeat (first | with_reducible exact Mod.refl _ _ | with_reducible exact g17.no | with_reducible exact g16.no | with_reducible exact HG.out.no | refine Mod.alloc ?_ _ | refine Mod.drew ?_))) 28 _ rfl⟩)
            (first
              | (go_at_call 57; refine (pairs_gr g16 ?_ HB.out t.twices HLL.out.2.2 HOK.out.twices HR.out.2.2 ?_).mono ?_; (repeat (first | with_reducible exact Mod.refl _ _ | refine Mod.alloc ?_ _ | refine Mod.drew ?_)); (rw [List.length_append, prs8_length, List.length_take, List.length_append]; have := HE.out.1; have := HLP.out; omega); rintro e w17 ⟨v17, rfl, g17, _, _⟩)
              | (go_at_call 57; refine (pairs_gr HG.out ?_ HB.out t.statics HLL.out.2.1 HOK.out.statics HR.out.2.1 ?_).mono ?_; (repeat (first | with_reducible exact Mod.refl _ _ | refine Mod.alloc ?_ _ | refine Mod.drew ?_)); (rw [List.length_append]; have := HE.out.1; have := HLP.out; omega); rintro e w16 ⟨v16, rfl, g16, _, _⟩))
          all_goals
            go_wp2
            go_ret
            refine ⟨v17, rfl, ?_, HM0.out.trans g17.no⟩
            rw [← HE.out.2.1]
            exact g17.own
      · obtain rfl : n = j := by omega
        have hf : t.pool.take 255 = t.pool.take n := by rw [List.take_of_length_le (by have := HN.out; omega), List.take_of_length_le (by have := HN.out; omega)]
        have HG := Lib.hid (show Gr w.heap.size (.slice none 0 0) w0 v' wr (LL ++ nums4 (t.pool.take 255)) by rw [hf]; exact HG.out)
        have hlp : (nums4 (t.pool.take 255)).length ≤ 4 * 255 := by rw [hf]; exact hlp
        clear hf
        have HLP := Lib.hid hlp
        clear hlp
        go_wp2_with fail
        go_region_held3 (fun W => W.cell? ⟨w.heap.size, 27, none⟩ = some (.slice Q t.statics.length q) ∧ W.cell? ⟨w.heap.size, 28, none⟩ = some (.slice R t.twices.length r))
          (exact ⟨HC.out _ (by (repeat (first | with_reducible exact Mod.refl _ _ | with_reducible exact g17.no | with_reducible exact g16.no | with_reducible exact HG.out.no | refine Mod.alloc ?_ _ | refine Mod.drew ?_))) 27 _ rfl, HC.out _ (by (repeat (first | with_reducible exact Mod.refl _ _ | with_reducible exact g17.no | with_reducible exact g16.no | with_reducible exact HG.out.no | refine Mod.alloc ?_ _ | refine Mod.drew ?_))) 28 _ rfl⟩)
          (first
            | (go_at_call 57; refine (pairs_gr g16 ?_ HB.out t.twices HLL.out.2.2 HOK.out.twices HR.out.2.2 ?_).mono ?_; (repeat (first | with_reducible exact Mod.refl _ _ | refine Mod.alloc ?_ _ | refine Mod.drew ?_)); (rw [List.length_append, prs8_length, List.length_take, List.length_append]; have := HE.out.1; have := HLP.out; omega); rintro e w17 ⟨v17, rfl, g17, _, _⟩)
            | (go_at_call 57; refine (pairs_gr HG.out ?_ HB.out t.statics HLL.out.2.1 HOK.out.statics HR.out.2.1 ?_).mono ?_; (repeat (first | with_reducible exact Mod.refl _ _ | refine Mod.alloc ?_ _ | refine Mod.drew ?_)); (rw [List.length_append]; have := HE.out.1; have := HLP.out; omega); rintro e w16 ⟨v16, rfl, g16, _, _⟩))
        all_goals
          go_wp2
          go_ret
          refine ⟨v17, rfl, ?_, HM0.out.trans g17.no⟩
          rw [← HE.out.2.1]
          exact g17.own
end

section
attribute [local go_sem] stPair gtPair gtK8 gtM6 run_store_func
attribute [local go_sem high] neqPair eqK8 eqM6
attribute [local go_sem ↓] load_fold store_fold alloc_fold
open Go.RowKit
set_option linter.unusedVariables false
set_option linter.unusedSimpArgs false
theorem con_mac_in (c : Con) (vt : Value) (j : Nat) (u : Value) (h : (bcells c.mac.l)[j]? = some u) : (c.cells vt)[1 + j]? = some u := by
  have hj : j < 6 := (List.getElem?_eq_some_iff.1 h).1
  match j, hj, h with
  | 0, _, h => exact h
  | 1, _, h => exact h
  | 2, _, h => exact h
  | 3, _, h => exact h
  | 4, _, h => exact h
  | 5, _, h => exact h
theorem con_omac_in (c : Con) (vt : Value) (j : Nat) (u : Value) (h : (bcells c.omac.l)[j]? = some u) : (c.cells vt)[7 + j]? = some u := by
  have hj : j < 6 := (List.getElem?_eq_some_iff.1 h).1
  match j, hj, h with
  | 0, _, h => exact h
  | 1, _, h => exact h
  | 2, _, h => exact h
  | 3, _, h => exact h
  | 4, _, h => exact h
  | 5, _, h => exact h
theorem con_nmac_in (c : Con) (vt : Value) (j : Nat) (u : Value) (h : (bcells c.nmac.l)[j]? = some u) : (c.cells vt)[13 + j]? = some u := by
  have hj : j < 6 := (List.getElem?_eq_some_iff.1 h).1
  match j, hj, h with
  | 0, _, h => exact h
  | 1, _, h => exact h
  | 2, _, h => exact h
  | 3, _, h => exact h
  | 4, _, h => exact h
  | 5, _, h => exact h
theorem con_key_in (c : Con) (vt : Value) (j : Nat) (u : Value) (h : (bcells c.key.l)[j]? = some u) : (c.cells vt)[19 + j]? = some u := by
  have hj : j < 8 := (List.getElem?_eq_some_iff.1 h).1
  match j, hj, h with
  | 0, _, h => exact h
  | 1, _, h => exact h
  | 2, _, h => exact h
  | 3, _, h => exact h
  | 4, _, h => exact h
  | 5, _, h => exact h
  | 6, _, h => exact h
  | 7, _, h => exact h
set_option maxRecDepth 100000 in
set_option maxHeartbeats 4000000 in
theorem refConfig_ok {w : World} (c : Con) (vt : Value) (l : List TV) (hip : c.ip < 4294967296) (hdr : c.drain < 4294967296) (hrows : ∃ P p, vt = .slice P l.length p ∧ RowAt (· < w.heap.size) w P (tvCells l))
    (hok : ∀ x ∈ l, x.t.Ok ∧ x.t.name.length ≤ 100000000 ∧ x.Rows (· < w.heap.size) w) (hll : ∀ x ∈ l, x.t.pool.length ≤ 100000000 ∧ x.t.statics.length ≤ 100000000 ∧ x.t.twices.length ≤ 100000000) (hl : l.length ≤ 100000000) :
    Calls Tryz.prog 19 #[.agg (c.cells vt)] w fun e w' => ∃ v, e = .returned v ∧ OwnB w' w.heap.size v (wcon c l) ∧ Mod No w w' := by
  obtain ⟨P, p, e1, r1⟩ := hrows
  subst e1
  obtain ⟨CA, hCA⟩ : ∃ CA, CA = c.cells (.slice P l.length p) := ⟨_, rfl⟩
  rw [← hCA]
  have bA := box_con CA (by rw [hCA]; rfl)
  obtain ⟨w0, hw0⟩ : ∃ w0, w0 = w.alloc (.cells CA 36) := ⟨_, rfl⟩
  have hm0 : Mod No w w0 := by rw [hw0]; exact (Mod.refl _ _).alloc _
  have hb0 : w0.heap[w.heap.size]? = some (.cells CA 36 (0, 0)) := by rw [hw0]; exact at10 w _
  have hcell : ∀ W, Mod No w0 W → ∀ j u, (c.cells (.slice P l.length p))[j]? = some u → W.cell? ⟨w.heap.size, j, none⟩ = some u := fun W hW j u hj => by
    rw [blk_cell (hW.obj hb0 id), hCA]
    exact hj
  have hTmac : ∀ W, Mod No w0 W → ∀ j u, (bcells c.mac.l)[j]? = some u → W.cell? ((⟨w.heap.size, 1, none⟩ : Addr).add j) = some u := fun W hW j u hj => by rw [Addr.add_lit]; exact hcell W hW _ u (con_mac_in c _ j u hj)
  have HTmac := Lib.hid hTmac
  have hTomac : ∀ W, Mod No w0 W → ∀ j u, (bcells c.omac.l)[j]? = some u → W.cell? ((⟨w.heap.size, 7, none⟩ : Addr).add j) = some u := fun W hW j u hj => by rw [Addr.add_lit]; exact hcell W hW _ u (con_omac_in c _ j u hj)
  have HTomac := Lib.hid hTomac
  have hTnmac : ∀ W, Mod No w0 W → ∀ j u, (bcells c.nmac.l)[j]? = some u → W.cell? ((⟨w.heap.size, 13, none⟩ : Addr).add j) = some u := fun W hW j u hj => by rw [Addr.add_lit]; exact hcell W hW _ u (con_nmac_in c _ j u hj)
  have HTnmac := Lib.hid hTnmac
  have hTkey : ∀ W, Mod No w0 W → ∀ j u, (bcells c.key.l)[j]? = some u → W.cell? ((⟨w.heap.size, 19, none⟩ : Addr).add j) = some u := fun W hW j u hj => by rw [Addr.add_lit]; exact hcell W hW _ u (con_key_in c _ j u hj)
  have HTkey := Lib.hid hTkey
  have HC := Lib.hid hcell
  have HB := Lib.hid (show w.heap.size ≤ w0.heap.size from hm0.size)
  obtain ⟨nb, hnb⟩ : ∃ nb, nb = min l.length 255 := ⟨_, rfl⟩
  have mn : min (l.length : Int) 255 = nb := by omega
  have wn : IntKind.u8.wrap (nb : Int) = nb := by simp [IntKind.wrap, IntKind.bits, IntKind.signed]; omega
  have H3 := Lib.hid (be1_cells nb (by omega))
  have HNB := Lib.hid hnb
  have HOK := Lib.hid (And.intro hip (And.intro hdr hl))
  have HTN := Lib.hid (And.intro hok hll)
  have HR := Lib.hid (r1.keeps (hm0.keeps (fun _ _ _ f => f)))
  have HM0 := Lib.hid hm0
  have HW0 := Lib.hid hw0
  have g0 : Gr w.heap.size (.slice none 0 0) w0 (.slice none 0 0) w0 [] := Gr.refl (nil_own _ _)
  clear hip hdr hok hll hl r1 hm0 hw0 hCA hcell hb0 hTmac hTomac hTnmac hTkey hnb
  go_enter Tryz.func19, Tryz.ntmps19
  go_wp2_with fail
  rw [← HW0.out]
  go_region_held3 (fun W => W.cell? ⟨w.heap.size, 0, none⟩ = some (.int .u32 (c.ip : Int)))
    (exact HC.out _ (by (repeat (first | with_reducible exact Mod.refl _ _ | with_reducible exact g2.no | with_reducible exact g1.no | with_reducible exact g0.no | refine Mod.alloc ?_ _ | refine Mod.drew ?_))) 0 _ rfl)
    (first
      | (refine step_gr (by rfl) _ _ (by rfl) (Gr.ext g1 ?_) (by rfl) c.mac.l _ _ _ (by rfl) (by rfl) ?_ ?_ (by exact List.cons_ne_nil _ _) ?_ ?_; (repeat (first | with_reducible exact Mod.refl _ _ | refine Mod.alloc ?_ _ | refine Mod.drew ?_)); (exact HTmac.out _ (by (repeat (first | with_reducible exact Mod.refl _ _ | with_reducible exact g1.no | with_reducible exact g0.no | refine Mod.alloc ?_ _ | refine Mod.drew ?_)))); (simp only [List.length_append, be_length, List.length_nil, K8.len, M6.len]; omega); (refine Gr.size g1 ?_ HB.out; (repeat (first | with_reducible exact Mod.refl _ _ | refine Mod.alloc ?_ _ | refine Mod.drew ?_))); intro v2 w2 g2 _)
      | (go_at_call 43; refine (put32_gr g0 ?_ HB.out c.ip HOK.out.1 ?_).mono ?_; (repeat (first | with_reducible exact Mod.refl _ _ | refine Mod.alloc ?_ _ | refine Mod.drew ?_)); (simp only [List.length_append, be_length, List.length_nil, K8.len, M6.len]; omega); rintro e w1 ⟨v1, rfl, g1, m1, r1⟩))
  go_wp2_with fail
  go_region_law (first
    | (refine step_gr (by rfl) _ _ (by rfl) (Gr.ext g3 ?_) (by rfl) c.nmac.l _ _ _ (by rfl) (by rfl) ?_ ?_ (by exact List.cons_ne_nil _ _) ?_ ?_; (repeat (first | with_reducible exact Mod.refl _ _ | refine Mod.alloc ?_ _ | refine Mod.drew ?_)); (exact HTnmac.out _ (by (repeat (first | with_reducible exact Mod.refl _ _ | with_reducible exact g3.no | with_reducible exact g2.no | with_reducible exact g1.no | with_reducible exact g0.no | refine Mod.alloc ?_ _ | refine Mod.drew ?_)))); (simp only [List.length_append, be_length, List.length_nil, K8.len, M6.len]; omega); (refine Gr.size g3 ?_ HB.out; (repeat (first | with_reducible exact Mod.refl _ _ | refine Mod.alloc ?_ _ | refine Mod.drew ?_))); intro v4 w4 g4 _)
    | (refine step_gr (by rfl) _ _ (by rfl) (Gr.ext g2 ?_) (by rfl) c.omac.l _ _ _ (by rfl) (by rfl) ?_ ?_ (by exact List.cons_ne_nil _ _) ?_ ?_; (repeat (first | with_reducible exact Mod.refl _ _ | refine Mod.alloc ?_ _ | refine Mod.drew ?_)); (exact HTomac.out _ (by (repeat (first | with_reducible exact Mod.refl _ _ | with_reducible exact g2.no | with_reducible exact g1.no | with_reducible exact g0.no | refine Mod.alloc ?_ _ | refine Mod.drew ?_)))); (simp only [List.length_append, be_length, List.length_nil, K8.len, M6.len]; omega); (refine Gr.size g2 ?_ HB.out; (repeat (first | with_reducible exact Mod.refl _ _ | refine Mod.alloc ?_ _ | refine Mod.drew ?_))); intro v3 w3 g3 _))
  go_wp2_with fail
  go_region_held3 (fun W => W.cell? ⟨w.heap.size, 27, none⟩ = some (.int .u32 (c.drain : Int)))
    (exact HC.out _ (by (repeat (first | with_reducible exact Mod.refl _ _ | with_reducible exact g6.no | with_reducible exact g5.no | with_reducible exact g4.no | with_reducible exact g3.no | with_reducible exact g2.no | with_reducible exact g1.no | with_reducible exact g0.no | refine Mod.alloc ?_ _ | refine Mod.drew ?_))) 27 _ rfl)
    (first
      | (go_at_call 43; refine (put32_gr g5 ?_ HB.out c.drain HOK.out.2.1 ?_).mono ?_; (repeat (first | with_reducible exact Mod.refl _ _ | refine Mod.alloc ?_ _ | refine Mod.drew ?_)); (simp only [List.length_append, be_length, List.length_nil, K8.len, M6.len]; omega); rintro e w6 ⟨v6, rfl, g6, m6, r6⟩)
      | (refine step_gr (by rfl) _ _ (by rfl) (Gr.ext g4 ?_) (by rfl) c.key.l _ _ _ (by rfl) (by rfl) ?_ ?_ (by exact List.cons_ne_nil _ _) ?_ ?_; (repeat (first | with_reducible exact Mod.refl _ _ | refine Mod.alloc ?_ _ | refine Mod.drew ?_)); (exact HTkey.out _ (by (repeat (first | with_reducible exact Mod.refl _ _ | with_reducible exact g4.no | with_reducible exact g3.no | with_reducible exact g2.no | with_reducible exact g1.no | with_reducible exact g0.no | refine Mod.alloc ?_ _ | refine Mod.drew ?_)))); (simp only [List.length_append, be_length, List.length_nil, K8.len, M6.len]; omega); (refine Gr.size g4 ?_ HB.out; (repeat (first | with_reducible exact Mod.refl _ _ | refine Mod.alloc ?_ _ | refine Mod.drew ?_))); intro v5 w5 g5 _))
  have z28 : w6.cell? ⟨w.heap.size, 28, none⟩ = some (.slice P l.length p) := HC.out _ g6.no 28 _ rfl
  go_wp2_with (first
    | (at_builtin; refine wpList_gr (by rfl) _ _ (by rfl) (Gr.ext g6 ?_) (by rfl) (be 1 nb) _ _ _ (by rfl) (by rfl) ?_ ?_ ?_ ?_; (repeat (first | with_reducible exact Mod.refl _ _ | refine Mod.alloc ?_ _ | refine Mod.drew ?_)); (rw [H3.out]; exact World.news_of_block (at10 _ _)); (simp only [List.length_append, be_length, List.length_nil, K8.len, M6.len]; omega); (refine Gr.size g6 ?_ HB.out; (repeat (first | with_reducible exact Mod.refl _ _ | refine Mod.alloc ?_ _ | refine Mod.drew ?_))); intro v7 w7 g7)
    | fail)
  obtain ⟨LL, hlen, heq, gL⟩ : ∃ LL, LL.length ≤ 1000 ∧ LL ++ wtens (l.take 255) = wcon c l ∧ Gr w.heap.size (.slice none 0 0) w0 v7 w7 LL := by
    refine ⟨_, ?_, ?_, g7⟩
    · simp only [List.length_append, be_length, List.length_nil, K8.len, M6.len]; omega
    · simp only [wcon, cfields, List.flatten_cons, List.flatten_nil, List.append_nil, List.nil_append, List.append_assoc, HNB.out]
  have HE := Lib.hid (And.intro hlen (And.intro heq gL))
  clear hlen heq gL g7 g6 g5 g4 g3 g2 g1 m1 m6 r1 r6 z28 mn wn
  obtain ⟨n, hn⟩ : ∃ n, n = l.length := ⟨_, rfl⟩
  have HN := Lib.hid hn
  clear hn
  go_loopw [4, 3] (fun i b wr => ∃ (j : Nat) (v' : Value), i = .int .i64 j ∧ v' = b ∧ j ≤ n ∧ j ≤ 255 ∧ Gr w.heap.size (.slice none 0 0) w0 v' wr (LL ++ wtens (l.take j))) (fun i _ _ => 255 - (intOf i).toNat)
  case atStart => exact ⟨0, v7, rfl, rfl, by omega, by omega, by simpa [wtens] using HE.out.2.2⟩
  case round =>
    obtain ⟨j, v', rfl, rfl, hj, hj8, hg⟩ := hrel
    have z28 : wr.cell? ⟨w.heap.size, 28, none⟩ = some (.slice P n p) := by rw [HN.out]; exact HC.out _ hg.no _ _ rfl
    have HG := Lib.hid hg
    clear hg
    have hlp : (wtens (l.take j)).length ≤ 255 * 40000 := by
      have h1 := wtens_len (l.take j)
      have h2 : (l.take j).length * 40000 ≤ 255 * 40000 := Nat.mul_le_mul_right _ (by rw [List.length_take]; omega)
      omega
    by_cases hlt : j < n
    · by_cases h255 : j < 255
      · obtain ⟨z, hz⟩ : ∃ z, l[j]? = some z := ⟨_, List.getElem?_eq_getElem (by have := HN.out; omega)⟩
        obtain ⟨z1, z2, z3⟩ := HTN.out.1 z (List.mem_of_getElem? hz)
        have z4 := HTN.out.2 z (List.mem_of_getElem? hz)
        have hmw : Mod No w wr := HM0.out.trans HG.out.no
        have hkp : Keeps (· < w.heap.size) w0 wr := HG.out.no.keeps (fun _ _ _ f => f)
        obtain ⟨b, o', rfl, _, hblt, hx0⟩ := (HR.out.keeps hkp).elem TV.cells 33 TV.len (by omega) hz
        have hld := tenLoad_mid wr b (o' + j * 33) z.cells rfl hx0
        have hT := refTenant_ok (w := wr) z ((z3.keeps (hmw.keeps (fun _ _ _ f => f))).imp (fun b hb => Nat.lt_of_lt_of_le hb hmw.size)) z1 z2 z4
        obtain ⟨TA, hTA⟩ : ∃ TA, TA = z.cells.toArray := ⟨_, rfl⟩
        rw [← hTA] at hT hld
        have HT := Lib.hid hT
        have HZ := Lib.hid (And.intro hz (And.intro hlp hmw))
        obtain ⟨X, hX⟩ : ∃ X, X = wten z.t := ⟨_, rfl⟩
        rw [← hX] at HT
        have HX := Lib.hid (And.intro hX (And.intro (show X.length ≤ 40000 by rw [hX]; exact wten_len _) (show X ≠ [] by rw [hX]; exact wten_ne _)))
        have p1 : (0:Int) ≤ j := by omega
        have p2 : (j:Int) < n := by omega
        have p3 : (j:Int) < 255 := by omega
        clear hz z1 z2 z3 z4 hmw hkp hx0 hT hTA hX hlp
        go_wp2_with (first
          | (go_at_call 41; refine HT.out.mono ?_; rintro e w8 ⟨v8, rfl, o8, m8⟩; obtain ⟨g8, c8, rfl, k8, l8, n8, h8⟩ := OwnB.at o8 HX.out.2.2; have H8 := Lib.hid (And.intro m8 h8); clear o8 m8 h8)
          | (at_builtin; refine wpList_gr (by rfl) _ _ (by rfl) (Gr.ext HG.out H8.out.1) (by rfl) X ⟨g8, 0, none⟩ _ _ (by rfl) (by rfl) ?_ ?_ ?_ ?_; (intro j u hj; rw [Addr.add_lit, Nat.zero_add]; exact H8.out.2 j u hj); (have := HE.out.1; have := HZ.out.2.1; have := HX.out.2.1; rw [List.length_append]; omega); (exact Gr.size HG.out H8.out.1 HB.out); intro v9 w9 g9; have H9 := Lib.hid g9; clear g9)
          | fail)
        refine ⟨⟨j + 1, v9, by go_num, rfl, by omega, by omega, ?_⟩, by simp [intOf]; omega⟩
        have := H9.out
        rw [take_snoc' HZ.out.1, wtens, List.flatMap_append, ← List.append_assoc]
        rw [HX.out.1] at this
        simpa [wtens] using this
      · obtain rfl : j = 255 := by omega
        clear hlp
        go_wp2
        go_ret
        exact ⟨_, rfl, by rw [← HE.out.2.1]; exact HG.out.own, HM0.out.trans HG.out.no⟩
    · obtain rfl : n = j := by omega
      have hf : l.take 255 = l.take n := by rw [List.take_of_length_le (by have := HN.out; omega), List.take_of_length_le (by have := HN.out; omega)]
      have HF := Lib.hid hf
      clear hlp hf
      go_wp2
      go_ret
      exact ⟨_, rfl, by rw [← HE.out.2.1, HF.out]; exact HG.out.own, HM0.out.trans HG.out.no⟩
set_option maxRecDepth 100000 in
theorem refChange_ok {w : World} (put : Bool) (name : List UInt8) (x : TV) (hr : x.Rows (· < w.heap.size) w) (hok : x.t.Ok) (hnm : x.t.name.length ≤ 100000000) (hll : x.t.pool.length ≤ 100000000 ∧ x.t.statics.length ≤ 100000000 ∧ x.t.twices.length ≤ 100000000) (hn : name.length ≤ 100000000) :
    Calls Tryz.prog 18 #[.agg (cChg put name x)] w fun e w' => ∃ v, e = .returned v ∧ OwnB w' w.heap.size v (wchg put name x.t) ∧ Mod No w w' := by
  obtain ⟨CA, hCA⟩ : ∃ CA, CA = cChg put name x := ⟨_, rfl⟩
  rw [← hCA]
  have bA := box_chg CA (by rw [hCA]; exact cChg_size _ _ _)
  have c0 : ((w.alloc (.cells CA 33))).cell? ⟨w.heap.size, 0, none⟩ = some (.bool put) := (blk_cell (at10 w _) 0).trans (by rw [hCA]; exact cChg0 _ _ _)
  have hown : ∀ b : UInt8, OwnB ((w.alloc (.cells CA 33)).alloc (.cells #[.int .u8 (b.toNat : Int)] 5)) w.heap.size (.slice (some ⟨w.heap.size + 1, 0, none⟩) 1 1) [b] := fun b => ⟨rfl, .inr ⟨w.heap.size + 1, 1, #[.int .u8 (b.toNat : Int)], rfl, by omega, at21 _ _ _, Nat.le_refl _, by decide, rfl, rfl⟩⟩
  have hmW : ∀ o, Mod No w ((w.alloc (.cells CA 33)).alloc o) := fun o => ((Mod.refl _ _).alloc _).alloc _
  cases put with
  | false =>
    have hw : wchg false name x.t = [0] ++ nameB' name := rfl
    rw [hw]
    have c1 : (((w.alloc (.cells CA 33))).alloc (.cells #[.int .u8 0] 5)).cell? ⟨w.heap.size, 1, none⟩ = some (.string (str name)) := (blk_cell (at20 w _ _) 1).trans (by rw [hCA]; exact cChg1 _ _ _)
    have hn := name_gr (Gr.refl (hown 0)) (Mod.refl _ _) (by simp; omega) name hn (by decide)
    have HN := Lib.hid hn
    have HM := Lib.hid (hmW (.cells #[.int .u8 0] 5))
    clear hown hn hmW hCA hw hr
    go_enter Tryz.func18, Tryz.ntmps18
    go_wp2_with (first | (go_at_call 42; refine HN.out.mono ?_; rintro e w1 ⟨v1, rfl, g1, _, _⟩; have H1 := Lib.hid g1; clear g1) | fail)
    go_ret
    exact ⟨_, rfl, H1.out.own, HM.out.trans' H1.out.mod (fun i hi hg => by simp [Value.ownBlock] at hg; omega)⟩
  | true =>
    obtain ⟨X, hX⟩ : ∃ X, X = wten x.t := ⟨_, rfl⟩
    have hw : wchg true name x.t = [1] ++ X := by rw [hX]; rfl
    rw [hw]
    have hW := hmW (.cells #[.int .u8 1] 5)
    have hld := tenLoad_mid ((w.alloc (.cells CA 33)).alloc (.cells #[.int .u8 1] 5)) w.heap.size 2 x.cells rfl (fun j v hj => by
      rw [blk_cell (at20 w _ _), hCA, cChg2]
      exact hj)
    have hT := refTenant_ok (w := (w.alloc (.cells CA 33)).alloc (.cells #[.int .u8 1] 5)) x ((hr.keeps (hW.keeps (fun _ _ _ f => f))).imp (fun b hb => Nat.lt_of_lt_of_le hb hW.size)) hok hnm hll
    obtain ⟨TA, hTA⟩ : ∃ TA, TA = x.cells.toArray := ⟨_, rfl⟩
    rw [← hTA] at hT hld
    rw [← hX] at hT
    have HT := Lib.hid hT
    have HX := Lib.hid (And.intro (show X.length ≤ 40000 by rw [hX]; exact wten_len _) (show X ≠ [] by rw [hX]; exact wten_ne _))
    have HO := Lib.hid (hown 1)
    have HM := Lib.hid hW
    clear hr hok hnm hll hn hown hmW hW hT hTA hX hw hCA
    go_enter Tryz.func18, Tryz.ntmps18
    go_wp2_with (first
      | (go_at_call 41; refine HT.out.mono ?_; rintro e w8 ⟨v8, rfl, o8, m8⟩; obtain ⟨g8, c8, rfl, k8, l8, n8, h8⟩ := OwnB.at o8 HX.out.2; have H8 := Lib.hid (And.intro m8 h8); clear o8 m8 h8)
      | (at_builtin; refine wpList_gr (by rfl) _ _ (by rfl) (Gr.ext (Gr.refl HO.out) H8.out.1) (by rfl) X ⟨g8, 0, none⟩ _ _ (by rfl) (by rfl) ?_ ?_ ?_ ?_; (intro j u hj; rw [Addr.add_lit, Nat.zero_add]; exact H8.out.2 j u hj); (have := HX.out.1; simp; omega); (have := H8.out.1.size; simp at this; omega); intro v9 w9 g9; have H9 := Lib.hid g9; clear g9)
      | fail)
    go_ret
    exact ⟨_, rfl, H9.out.own, HM.out.trans' H9.out.mod (fun i hi hg => by simp [Value.ownBlock] at hg; omega)⟩
end

section
attribute [local go_sem] stPair gtPair gtK8 gtM6 run_store_func
attribute [local go_sem high] neqPair eqK8 eqM6
attribute [local go_sem ↓] load_fold store_fold alloc_fold
open Go.RowKit
set_option linter.unusedVariables false
theorem own_ne {w : World} {base : Nat} {e : TypeId} {size : Nat} {v : Value} {n : Nat} {xs : List Value} (h : w.ownsRow base e size v n xs) {b : Nat} (hb : b < base ∨ w.heap.size ≤ b) : v.ownBlock ≠ some b := by
  intro f
  rcases h.2 with ⟨rfl, _⟩ | ⟨g, cap, cur, rfl, hg, hgg, _⟩
  · simp [Value.ownBlock] at f
  · obtain rfl : g = b := by simpa [Value.ownBlock] using f
    have := lt_of_block hgg
    omega
def tenSlice (v : Value) : Sem Value := Instr.buildSlice 34 1 #[(0, v)]
theorem slice_op_fold (ρ : Operand → Value) (x : Operand) (dst : Option Tmp) (ty : TypeId) (pos : String) (after : Array Edge) (g : Option (Nat × Bool)) :
    execOp ρ { dst := dst, op := .buildSlice 34 1 #[(0, x)], type := ty, pos := pos, after := after, guard := g } = (do pure (Next.value (← tenSlice (ρ x))) : Sem Next) := by
  show (do pure (Next.value (← Instr.buildSlice 34 1 (#[(0, x)].map fun (i, x) => (i, ρ x)))) : Sem Next) = _
  have hm : (#[((0 : Nat), x)].map fun (i, x) => (i, ρ x)) = #[(0, ρ x)] := by simp
  rw [hm]
  rfl
attribute [local go_sem ↓] slice_op_fold
/-- What becomes of a list of tenants that is read: its values, each with rows of its own. -/
structure TVs (w : World) (base : Nat) (v : Value) (l : List TV) : Prop where
  own : w.ownsRow base 31 33 v l.length (tvCells l)
  rows : ∀ x ∈ l, x.Rows (fun b => base ≤ b ∧ v.ownBlock ≠ some b) w
set_option maxRecDepth 100000 in
set_option maxHeartbeats 2000000 in
theorem list_ten_rd {S : Nat → Prop} {w : World} {C : Nat} {A : Option Addr} {c : Nat} {s0 : St} (B : List UInt8) (hb : w.heap[C]? = some (rdObj A B.length c s0.1 s0.2)) (hrow : RowAt S w A (bcells B)) (hat : s0.1 ≤ B.length) (hc8 : B.length ≤ c) (hB : B.length ≤ 100000000) (hS : ¬ S C) {T o : Nat} (hST : ¬ S T) (hSl : ∀ b, S b → b < w.heap.size)
    {cs : Array Value} {t : TypeId} (hT : w.heap[T]? = some (.cells cs t (0, 0))) (ho : o < cs.size) (h1 : T ≠ C) (n : Nat) (hn : n ≤ 1000) :
    Calls Tryz.prog 98 #[.pointer (some ⟨C, 0, none⟩), .int .i64 n, .pointer (some ⟨T, o, none⟩), .func (.func 51) #[.pointer (some ⟨C, 0, none⟩)] #[]] w fun e w' => e = .returned (.tuple #[]) ∧ w'.heap[C]? = some (rdObj A B.length c (rmany (rten B) n s0).2.1 (rmany (rten B) n s0).2.2) ∧
      (∃ (v : Value) (l : List TV), w'.heap[T]? = some (.cells (cs.setIfInBounds o v) t (0, 0)) ∧ l.map (·.t) = (rmany (rten B) n s0).1 ∧ TVs w' w.heap.size v l) ∧ Mod (fun b => b = C ∨ b = T) w w' := by
  obtain ⟨i0, hi, hz0, hz1, hz2⟩ := info_parts infoTen
  have c1 := blk_cell hb 1
  simp at c1
  have c2 := blk_cell hT o
  have f2 := blk_free hT o
  rw [Array.getElem?_eq_getElem ho] at c2
  obtain ⟨v0, hv0⟩ : ∃ v0, v0 = cs[o] := ⟨_, rfl⟩
  rw [← hv0] at c2
  have hlC := lt_of_block hb
  have hlT := lt_of_block hT
  have hkp : ∀ W, Mod (fun b => b = C ∨ b = T) w W → RowAt S W A (bcells B) := fun W hW => hrow.keeps (hW.keeps (fun b _ hs f => by rcases f with f | f; exact hS (by subst f; exact hs); exact hST (by subst f; exact hs)))
  have H0 := Lib.hid (And.intro hb (And.intro hT (And.intro ho (And.intro hat (And.intro hkp (And.intro hSl (And.intro hc8 hB)))))))
  have hal := tenAlloc_run
  have HZ0 := Lib.hid hz0
  clear hb hrow hat hT ho hkp hv0 hSl hc8 hB hz0
  go_enter Tryz.func98, Tryz.ntmps98
  go_wp2
  go_loopw [8] (fun i wr => ∃ (j : Nat) (acc : List TV) (s : St) (v : Value), i = .int .i64 j ∧ j ≤ n ∧ acc.length ≤ j ∧ rmany (rten B) n s0 = (acc.map (·.t) ++ (rmany (rten B) (n - j) s).1, (rmany (rten B) (n - j) s).2) ∧ s.1 ≤ B.length ∧
    wr.heap[C]? = some (rdObj A B.length c s.1 s.2) ∧ wr.heap[T]? = some (.cells (cs.setIfInBounds o v) t (0, 0)) ∧ TVs wr w.heap.size v acc ∧ Mod (fun b => b = C ∨ b = T) w wr) (fun i _ => n - (intOf i).toNat)
  case atStart =>
    refine ⟨0, [], s0, .slice none 0 0, rfl, by omega, by simp, by simp, H0.out.2.2.2.1, ?_, ?_, ⟨⟨rfl, .inl ⟨rfl, rfl⟩⟩, by simp⟩, ?_⟩
    · rw [heap_setCell_ne _ _ (fun e => h1 e.symm)]; exact H0.out.1
    · exact heap_setCell_row H0.out.2.1 _
    · exact Mod.setCell (Mod.refl _ _) (.inr (.inr rfl)) _
  case round =>
    obtain ⟨j, acc, s, v, rfl, hj, hacc, hsp, hs8, hbC, hbT, htv, hmw⟩ := hrel
    obtain ⟨at_, sh⟩ := s
    have d3 := blk_cell hbC 3
    simp at d3
    have dT : wr.cell? ⟨T, o, none⟩ = some v := (blk_cell hbT o).trans (by simp [H0.out.2.2.1])
    by_cases hlt : j < n
    · have p1 : (0:Int) ≤ j := by omega
      have p2 : (j:Int) < n := by omega
      cases sh
      · have hmA : Mod No wr (wr.alloc (.cells zTen 31)) := (Mod.refl _ _).alloc _
        have hmwA : Mod (fun b => b = C ∨ b = T) w (wr.alloc (.cells zTen 31)) := hmw.alloc _
        have hwl := hmw.size
        have hc := tenant_rd (w := wr.alloc (.cells zTen 31)) (s0 := (at_, false)) B (hmA.obj hbC id) (H0.out.2.2.2.2.1 _ hmwA) hs8 H0.out.2.2.2.2.2.2.1 H0.out.2.2.2.2.2.2.2 hS (T := wr.heap.size) (o := 0) (fun f => by have := H0.out.2.2.2.2.2.1 _ f; omega) (fun b f => by have := H0.out.2.2.2.2.2.1 _ f; simp; omega)
          (pre := []) (post := []) (tt := 31) (by simpa using at10 wr (.cells zTen 31)) rfl (by omega)
        have hnx : n - j = (n - (j + 1)) + 1 := by omega
        rw [hnx, rmany_step _ _ rfl] at hsp
        obtain ⟨y, hy⟩ : ∃ y, y = (rten B (at_, false)).1 := ⟨_, rfl⟩
        obtain ⟨s2, hs2⟩ : ∃ s2, s2 = (rten B (at_, false)).2 := ⟨_, rfl⟩
        rw [← hy, ← hs2] at hc hsp
        have hown := htv.own
        have hlb : v.ownBlock ≠ some T := own_ne hown (.inl hlT)
        have hlC' : v.ownBlock ≠ some C := own_ne hown (.inl hlC)
        have hlX : v.ownBlock ≠ some wr.heap.size := own_ne hown (.inr (Nat.le_refl _))
        have HC := Lib.hid hc
        have HR := Lib.hid (And.intro hsp (And.intro hbT (And.intro htv (And.intro hmw hbC))))
        clear hc hsp hbC hbT hmA hmwA hs8 hy hs2 hown htv
        go_wp2_with fail
        refine HC.out.mono ?_
        rintro e w5 ⟨rfl, x, k0, kl, k1, k2, kr, k3⟩
        simp only [List.nil_append, List.append_nil] at k2
        have g3 := k3.obj ((((Mod.refl No wr).alloc (.cells zTen 31))).obj HR.out.2.1 id) (by rintro (f | f); exact h1 f; omega)
        have dT5 : w5.cell? ⟨T, o, none⟩ = some v := (blk_cell g3 o).trans (by simp [H0.out.2.2.1])
        have fT5 := blk_free g3 o
        have lT5 : T < w5.heap.size := lt_of_block g3
        have lX5 : wr.heap.size < w5.heap.size := lt_of_block k2
        have lC5 : C < w5.heap.size := lt_of_block k1
        obtain ⟨TA, hTA⟩ : ∃ TA, TA = x.cells.toArray := ⟨_, rfl⟩
        have hbs : ∀ W : World, (tenSlice (.agg TA)).run Tryz.prog W = .ok (.slice (some ⟨W.heap.size, 0, none⟩) 1 1) (W.alloc (.cells TA 31)) := ten_build TA (by rw [hTA]; rfl)
        have hld : (tenLoad (.pointer (some ⟨wr.heap.size, 0, none⟩))).run Tryz.prog w5.drew = .ok (.agg TA) w5.drew := tenLoad_run (by rw [hTA]; exact k2) (by rw [hTA]; rfl)
        have hone := TV.one kr
        have htl : x.cells = TA.toList := by rw [hTA]
        rw [← hTA] at hone
        have hown5 : w5.ownsRow w.heap.size 31 33 v acc.length (tvCells acc) := own_mod (own_mod HR.out.2.2.1.own ((Mod.refl No wr).alloc (.cells zTen 31)) (fun _ _ f => f)) k3 (fun k hk f => by rcases f with f | f; exact hlC' (by rw [← f]; exact hk); exact hlX (by rw [← f]; exact hk))
        have hsz5 := k3.size
        have H5 := Lib.hid (And.intro k1 (And.intro k3 (And.intro g3 (And.intro hown5 (And.intro hsz5 (And.intro k0 (And.intro kl kr)))))))
        have HT := Lib.hid (And.intro htl hone)
        clear k1 k2 k3 g3 hown5 hsz5 d3 dT k0 kl kr htl hone hTA
        go_wp2_with fail
        go_region_law (first
          | (refine step_append_lies _ (by rfl) _ _ 34 (by rfl) w.heap.size 31 i0 _ 33 160 Tryz.underlying34 hi HZ0.out hz1 hz2 (by rfl) (by decide) v acc.length (tvCells acc) (by rfl) ?_ _ _ _ TA.toList (by rfl) (by rw [← HT.out.1]; rfl) ?_ ?_ (by decide) ?_ ?_ ?_ _ (by rfl) ?_;
             (exact own_mod H5.out.2.2.2.1 (by repeat (first | with_reducible exact Mod.refl _ _ | refine Mod.alloc ?_ _ | refine Mod.drew ?_)) (fun _ _ f => f));
             (exact World.news_of_block (at10 _ _));
             (intro u hu; exact (Array.all_eq_true_iff_forall_mem.1 HT.out.2) u (by simpa using hu));
             (unfold maxLen; omega);
             omega;
             (have := H5.out.2.2.2.2.1; simp at this; simp; omega);
             intro g cap w6 own6 gr6 hat6 hlt6;
             have m6 : Mod (fun b => v.ownBlock = some b) w5 w6 := Mod.grown (((Mod.refl _ w5)).mono (fun _ f => f) |> (fun h => by repeat (first | with_reducible exact h | refine Mod.alloc ?_ _ | refine Mod.drew ?_))) gr6 (fun k hk => .inr hk);
             have fT6 := blk_free (m6.obj H5.out.2.2.1 hlb) o; have dT6 : w6.cell? ⟨T, o, none⟩ = some v := (blk_cell (m6.obj H5.out.2.2.1 hlb) o).trans (by simp [H0.out.2.2.1]); have H6 := Lib.hid (And.intro own6 (And.intro m6 hat6)); clear own6 m6 hat6 gr6))
        all_goals
          go_wp2
          have hT6 := H6.out.2.1.obj H5.out.2.2.1 hlb
          have hsz5 := H5.out.2.2.2.2.1
          simp at hsz5
          have hm5 : Mod (fun b => b = C ∨ b = wr.heap.size) wr w5 := (((Mod.refl No wr).alloc (.cells zTen 31)).mono (fun _ f => f.elim)).trans H5.out.2.1
          have hgT : g ≠ T := fun e => by
            rcases H6.out.2.2 with f | f
            · exact hlb (by rw [← e]; exact f)
            · simp at f; omega
          refine ⟨⟨j + 1, acc ++ [x], s2, .slice (some ⟨g, 0, none⟩) (acc.length + 1) cap, by go_num, by omega, ?_, ?_, ?_, ?_, ?_, ⟨?_, ?_⟩, ?_⟩, by simp [intOf]; omega⟩
          · simp; omega
          · rw [HR.out.1]; simp [H5.out.2.2.2.2.2.1]
          · exact H5.out.2.2.2.2.2.2.1
          · rw [heap_setCell_ne _ _ (fun e => h1 e.symm)]; exact H6.out.2.1.obj H5.out.1 hlC'
          · rw [heap_setCell_row hT6]; simp
          · refine own_mod (F := fun b => b = T) ?_ (Mod.setCell (p := ⟨T, o, none⟩) (Mod.refl (fun b => b = T) w6) (.inr rfl) _) (fun k hk f => ?_)
            · have := H6.out.1
              rw [← HT.out.1] at this
              simpa [tvCells] using this
            · subst f
              obtain rfl : g = k := by simpa [Value.ownBlock] using hk
              exact hgT rfl
          · have hk6 : ∀ S' : Nat → Prop, (∀ b, S' b → v.ownBlock ≠ some b ∧ b ≠ T) → Keeps S' w5 (w6.setCell ⟨T, o, none⟩ (.slice (some ⟨g, 0, none⟩) (acc.length + 1) cap)) := fun S' hS' => by
              refine Mod.keeps (F := fun b => v.ownBlock = some b ∨ b = T) (Mod.setCell (H6.out.2.1.mono (fun b h => .inl h)) (.inr (.inr rfl)) _) (fun b _ hb f => ?_)
              rcases f with f | f
              · exact (hS' b hb).1 f
              · exact (hS' b hb).2 f
            have hnew : ∀ b, b < w5.heap.size → v.ownBlock ≠ some b → (Value.slice (some ⟨g, 0, none⟩) (acc.length + 1) cap).ownBlock ≠ some b := fun b hb hv e => by
              obtain rfl : g = b := by simpa [Value.ownBlock] using e
              rcases H6.out.2.2 with f | f
              · exact hv f
              · simp at f; omega
            have fin : ∀ z : TV, z.Rows (fun b => w.heap.size ≤ b ∧ v.ownBlock ≠ some b) w5 → z.Rows (fun b => w.heap.size ≤ b ∧ (Value.slice (some ⟨g, 0, none⟩) (acc.length + 1) cap).ownBlock ≠ some b) (w6.setCell ⟨T, o, none⟩ (.slice (some ⟨g, 0, none⟩) (acc.length + 1) cap)) := by
              intro z hz
              have h1 := (hz.lt (S' := fun b => (w.heap.size ≤ b ∧ v.ownBlock ≠ some b) ∧ b < w5.heap.size) (fun b hb h => ⟨h, hb⟩)).keeps (hk6 _ (fun b hb => ⟨hb.1.2, by have := hb.1.1; omega⟩))
              exact h1.imp (fun b hb => ⟨hb.1.1, hnew b hb.2 hb.1.2⟩)
            intro z hz
            rcases List.mem_append.1 hz with hz | hz
            · refine fin z ?_
              have h1 := (HR.out.2.2.1.rows z hz).lt (S' := fun b => (w.heap.size ≤ b ∧ v.ownBlock ≠ some b) ∧ b < wr.heap.size) (fun b hb h => ⟨h, hb⟩)
              refine (h1.keeps (hm5.keeps (fun b _ hb f => ?_))).imp (fun b hb => hb.1)
              rcases f with f | f
              · have := hb.1.1; omega
              · have := hb.2; omega
            · obtain rfl : z = x := by simpa using hz
              refine fin z (H5.out.2.2.2.2.2.2.2.imp (fun b hb => ?_))
              simp at hb
              exact ⟨by omega, own_ne HR.out.2.2.1.own (.inr (by omega))⟩
          · refine Mod.setCell ?_ (.inr (.inr rfl)) _
            have m5 : Mod (fun b => b = C ∨ b = T) w w5 := HR.out.2.2.2.1.trans' hm5 (fun i hi f => by rcases f with f | f; exact .inl f; omega)
            refine m5.trans' H6.out.2.1 (fun i hi f => ?_)
            exact absurd f (own_ne HR.out.2.2.1.own (.inl hi))
      · have HR := Lib.hid (And.intro hsp (And.intro hbC (And.intro hbT (And.intro htv hmw))))
        clear hsp hbC hbT htv hmw
        go_wp2
        first | go_end0 | (simp only [Exit.inBlock, Exit.then]; refine bodyPost_ret (results_none rfl _ _ _) rfl ?_) | refine bodyPost_ret (results_none rfl _ _ _) rfl ?_
        obtain ⟨h5, h6, h7, h8, h9⟩ := HR.out
        rw [rmany_short (rten B) (n - j) (s := (at_, true)) rfl] at h5
        rw [h5]
        exact ⟨rfl, h6, ⟨v, h7, acc, by simp, h8⟩, h9⟩
    · obtain rfl : n = j := by omega
      have HR := Lib.hid (And.intro hsp (And.intro hbC (And.intro hbT (And.intro htv hmw))))
      clear hsp hbC hbT htv hmw
      go_wp2
      first | go_end0 | (simp only [Exit.inBlock, Exit.then]; refine bodyPost_ret (results_none rfl _ _ _) rfl ?_) | refine bodyPost_ret (results_none rfl _ _ _) rfl ?_
      obtain ⟨h5, h6, h7, h8, h9⟩ := HR.out
      rw [Nat.sub_self] at h5
      rw [h5]
      exact ⟨rfl, h6, ⟨v, h7, acc, by simp [rmany], h8⟩, h9⟩
end

section
attribute [local go_sem] stPair gtPair gtK8 gtM6 run_store_func
attribute [local go_sem high] neqPair eqK8 eqM6
attribute [local go_sem ↓] load_fold store_fold alloc_fold slice_op_fold
open Go.RowKit
set_option linter.unusedVariables false
/-- Settings that are being read. -/
structure CS where
  c : Con
  nt : Nat
  l : List Ten
  s : St
def Con.zero : Con := ⟨0, .zero, .zero, .zero, .zero, 0⟩
def csteps (B : List UInt8) : List (CS → CS) := [
  fun r => { r with c := { r.c with ip := (rnum B 4 r.s).1 }, s := (rnum B 4 r.s).2 },
  fun r => { r with c := { r.c with mac := M6.of (rtake B r.s 6).1 }, s := (rtake B r.s 6).2 },
  fun r => { r with c := { r.c with omac := M6.of (rtake B r.s 6).1 }, s := (rtake B r.s 6).2 },
  fun r => { r with c := { r.c with nmac := M6.of (rtake B r.s 6).1 }, s := (rtake B r.s 6).2 },
  fun r => { r with c := { r.c with key := K8.of (rtake B r.s 8).1 }, s := (rtake B r.s 8).2 },
  fun r => { r with c := { r.c with drain := (rnum B 4 r.s).1 }, s := (rnum B 4 r.s).2 },
  fun r => { r with nt := (rnum B 1 r.s).1, s := (rnum B 1 r.s).2 },
  fun r => { r with l := (rmany (rten B) r.nt r.s).1, s := (rmany (rten B) r.nt r.s).2 }]
def ck (B : List UInt8) (s : St) (k : Nat) : CS := ((csteps B).take k).foldl (fun r f => f r) ⟨.zero, 0, [], s⟩
/-- Settings read. -/
def rcon (B : List UInt8) (s : St) : CS := ck B s 8
set_option maxRecDepth 100000 in
set_option maxHeartbeats 2000000 in
theorem con_list_rd {S : Nat → Prop} {w : World} {C : Nat} {A : Option Addr} {c : Nat} {s0 : St} (B : List UInt8) (hb : w.heap[C]? = some (rdObj A B.length c s0.1 s0.2)) (hrow : RowAt S w A (bcells B)) (hat : s0.1 ≤ B.length) (hc : B.length ≤ c) (hB : B.length ≤ 100000000) (hS : ¬ S C) {bc bt bp T o n : Nat} (hST : ¬ S T) (hx : BoxesC w bc bt C T o) (hn : n ≤ 1000) (hSn : ∀ b, S b → b < w.heap.size) (hp : w.heap[bp]? = some (.cells #[.int .i64 (n : Int)] 3 (0, 0)))
    {cs : Array Value} {t : TypeId} (hT : w.heap[T]? = some (.cells cs t (0, 0))) (ho : o + 28 < cs.size) (h1 : T ≠ C) :
    Calls Tryz.prog 97 #[.pointer (some ⟨bc, 0, none⟩), .pointer (some ⟨bp, 0, none⟩), .pointer (some ⟨bt, 0, none⟩)] w fun e w' => e = .returned (.tuple #[]) ∧ w'.heap[C]? = some (rdObj A B.length c (rmany (rten B) n s0).2.1 (rmany (rten B) n s0).2.2) ∧
      (∃ (v : Value) (l : List TV), w'.heap[T]? = some (.cells (cs.setIfInBounds (o + 28) v) t (0, 0)) ∧ l.map (·.t) = (rmany (rten B) n s0).1 ∧ TVs w' w.heap.size v l) ∧ Mod (fun b => b = C ∨ b = T) w w' := by
  obtain ⟨R, hR⟩ : ∃ R : World → Prop, R = fun w' => w'.heap[C]? = some (rdObj A B.length c (rmany (rten B) n s0).2.1 (rmany (rten B) n s0).2.2) ∧
      (∃ (v : Value) (l : List TV), w'.heap[T]? = some (.cells (cs.setIfInBounds (o + 28) v) t (0, 0)) ∧ l.map (·.t) = (rmany (rten B) n s0).1 ∧ TVs w' w.heap.size v l) ∧ Mod (fun b => b = C ∨ b = T) w w' := ⟨_, rfl⟩
  have hd : ∀ W, W = w.drew → Calls Tryz.prog 98 #[.pointer (some ⟨C, 0, none⟩), .int .i64 n, .pointer (some ⟨T, o + 28, none⟩), .func (.func 51) #[.pointer (some ⟨C, 0, none⟩)] #[]] W fun e w' => e = .returned (.tuple #[]) ∧ R w' := by
    intro W hW
    subst hW
    rw [hR]
    exact (list_ten_rd (w := w.drew) (S := S) B hb (hrow.keeps (Mod.keeps (Mod.drew (Mod.refl No w)) (fun _ _ _ f => f))) hat hc hB hS (T := T) (o := o + 28) hST hSn hT ho h1 n hn).mono fun e w' ⟨e1, e2, e3, e4⟩ => ⟨e1, e2, e3, (Mod.refl _ w).drew.trans e4⟩
  have c0 := blk_cell hx.c 0
  have c1 := blk_cell hx.t 0
  have c2 := blk_cell hp 0
  simp at c0 c1 c2
  suffices hs : Calls Tryz.prog 97 #[.pointer (some ⟨bc, 0, none⟩), .pointer (some ⟨bp, 0, none⟩), .pointer (some ⟨bt, 0, none⟩)] w fun e w' => e = .returned (.tuple #[]) ∧ R w' by
    rw [hR] at hs; exact hs
  have HD := Lib.hid hd
  clear hb hrow hat hc hB hS hx hT ho hd hR hp hn h1 hST hSn
  go_enter Tryz.func97, Tryz.ntmps97
  go_wp2_with fail
  go_region_law (first | (go_simp; go_at_call 98; refine (HD.out _ rfl).mono ?_; rintro e w1 ⟨rfl, hr⟩; have HW := Lib.hid hr; clear hr))
  all_goals
    go_wp2
    first | go_end0 | (simp only [Exit.inBlock, Exit.then]; refine bodyPost_ret (results_none rfl _ _ _) rfl ?_) | refine bodyPost_ret (results_none rfl _ _ _) rfl ?_
    exact ⟨rfl, HW.out⟩
structure KG (w0 : World) (n C T : Nat) (A : Option Addr) (c : Nat) (B : List UInt8) (S : Nat → Prop) : Prop where
  bx : BoxesC w0 n (n + 1) C T 0
  rw3 : w0.heap[n + 3]? = some (.cells (conRow n).toArray 1 (0, 0))
  C_lt : C < n
  T_lt : T < n
  TC : T ≠ C
  row : RowAt S w0 A (bcells B)
  S_lt : ∀ b, S b → b < n
  SC : ¬ S C
  ST : ¬ S T
  hc : B.length ≤ c
  hB : B.length ≤ 100000000
structure KR (w0 : World) (n C T : Nat) (A : Option Addr) (c : Nat) (B : List UInt8) (r : CS) (vt : Value) (l : List TV) (w : World) : Prop where
  rd : w.heap[C]? = some (rdObj A B.length c r.s.1 r.s.2)
  le : r.s.1 ≤ B.length
  con : w.heap[T]? = some (.cells (r.c.cells vt) 36 (0, 0))
  mod : Mod (fun b => b = C ∨ b = T ∨ b = n + 2) w0 w
  hn : w.heap[n + 2]? = some (.cells #[.int .i64 (r.nt : Int)] 3 (0, 0))
  cnt : r.nt < 256
  map : l.map (·.t) = r.l
  tens : TVs w (n + 4) vt l
section
variable {w0 : World} {n C T : Nat} {A : Option Addr} {c : Nat} {B : List UInt8} {S : Nat → Prop} {r : CS} {vt : Value} {l : List TV} {w : World}
theorem KR.keep (h : KR w0 n C T A c B r vt l w) (g : KG w0 n C T A c B S) {b : Nat} {ob : Obj} (hb : w0.heap[b]? = some ob) (h1 : n ≤ b) (h2 : b ≠ n + 2) : w.heap[b]? = some ob := by
  refine h.mod.obj hb ?_
  have := g.C_lt
  have := g.T_lt
  rintro (f | f | f) <;> omega
theorem KR.boxes (h : KR w0 n C T A c B r vt l w) (g : KG w0 n C T A c B S) : BoxesC w n (n + 1) C T 0 := ⟨h.keep g g.bx.c (by omega) (by omega), h.keep g g.bx.t (by omega) (by omega)⟩
theorem KR.row (h : KR w0 n C T A c B r vt l w) (g : KG w0 n C T A c B S) : RowAt S w A (bcells B) := g.row.keeps (h.mod.keeps fun b hb hs f => by
  have := g.S_lt b hs
  rcases f with f | f | f
  · exact g.SC (by rw [← f]; exact hs)
  · exact g.ST (by rw [← f]; exact hs)
  · omega)
theorem TVs.mod {F : Nat → Prop} {w w' : World} {base : Nat} {v : Value} {l : List TV} (h : TVs w base v l) (hm : Mod F w w') (hF : ∀ b, base ≤ b → b < w.heap.size → ¬ F b) : TVs w' base v l :=
  ⟨own_mod h.own hm fun k hk => by
    rcases h.own.2 with ⟨rfl, _⟩ | ⟨g, cap, cur, rfl, hb, hg, _⟩
    · simp [Value.ownBlock] at hk
    · obtain rfl : g = k := by simpa [Value.ownBlock] using hk
      exact hF g hb (lt_of_block hg), fun x hx => (h.rows x hx).keeps (hm.keeps fun b hb hs => hF b hs.1 hb)⟩
theorem KR.next (h : KR w0 n C T A c B r vt l w) (g : KG w0 n C T A c B S) {w' : World} {c' : Con} {s' : St} (hs : s'.1 ≤ B.length) (hrd : w'.heap[C]? = some (rdObj A B.length c s'.1 s'.2)) (ht : w'.heap[T]? = some (.cells (c'.cells vt) 36 (0, 0)))
    (hm : Mod (fun b => b = C ∨ b = T) w w') : KR w0 n C T A c B { r with c := c', s := s' } vt l w' := by
  have k1 := g.C_lt
  have k2 := g.T_lt
  exact ⟨hrd, hs, ht, h.mod.trans (hm.mono fun b f => by rcases f with f | f; exact .inl f; exact .inr (.inl f)), hm.obj h.hn (by rintro (f | f) <;> omega), h.cnt, h.map, h.tens.mod hm (fun b hb _ f => by rcases f with f | f <;> omega)⟩
def KI (w0 : World) (n C T : Nat) (A : Option Addr) (c : Nat) (B : List UInt8) (s : St) (k : Nat) (w : World) : Prop := ∃ vt l, KR w0 n C T A c B (ck B s k) vt l w
theorem con_size (c : Con) (vt : Value) : (c.cells vt).size = 29 := rfl
theorem con_len (c : Con) (vt : Value) : (c.cells vt).toList.length = 29 := rfl
theorem con_set (c : Con) (vt : Value) (j : Nat) (v : Value) (c' : Con) (vt' : Value) (h : (c.cells vt).toList.set j v = (c'.cells vt').toList) : (Obj.cells ((c.cells vt).setIfInBounds j v) 36) = .cells (c'.cells vt') 36 := by
  congr 1
  apply Array.toList_inj.1
  simpa using h
theorem mac_splice (c : Con) (vt : Value) (xs : List UInt8) (h : xs.length = 6) : (splice (c.cells vt).toList 1 (bcells xs)).toArray = ({ c with mac := M6.of xs } : Con).cells vt := by
  match xs, h with
  | [a, b, c, d, e, f], _ => rfl
theorem omac_splice (c : Con) (vt : Value) (xs : List UInt8) (h : xs.length = 6) : (splice (c.cells vt).toList 7 (bcells xs)).toArray = ({ c with omac := M6.of xs } : Con).cells vt := by
  match xs, h with
  | [a, b, c, d, e, f], _ => rfl
theorem nmac_splice (c : Con) (vt : Value) (xs : List UInt8) (h : xs.length = 6) : (splice (c.cells vt).toList 13 (bcells xs)).toArray = ({ c with nmac := M6.of xs } : Con).cells vt := by
  match xs, h with
  | [a, b, c, d, e, f], _ => rfl
theorem ckey_splice (c : Con) (vt : Value) (xs : List UInt8) (h : xs.length = 8) : (splice (c.cells vt).toList 19 (bcells xs)).toArray = ({ c with key := K8.of xs } : Con).cells vt := by
  match xs, h with
  | [a, b, c, d, e, f, g, i], _ => rfl
end
section
variable {w0 : World} {n C T : Nat} {A : Option Addr} {c : Nat} {B : List UInt8} {S : Nat → Prop} {s : St} {w : World}
theorem ki_0 (g : KG w0 n C T A c B S) (h : KI w0 n C T A c B s 0 w) :
    Calls Tryz.prog 90 #[bxv n, bxv (n + 1)] w fun e w' => e = .returned (.tuple #[]) ∧ KI w0 n C T A c B s 1 w' := by
  obtain ⟨vt, l, h⟩ := h
  have hk : ck B s 1 = (fun r : CS => ({ r with c := { r.c with ip := (rnum B 4 r.s).1 }, s := (rnum B 4 r.s).2 } : CS)) (ck B s 0) := rfl
  unfold KI
  rw [hk]
  generalize ck B s 0 = r at h ⊢
  clear hk
  refine (con_ip_rd (o := 0) B h.rd (h.row g) h.le g.hc g.hB g.SC (h.boxes g) h.con (by rw [con_size]; decide) g.TC).mono fun e w' ⟨he, a1, a2, a3⟩ => ⟨he, vt, l, h.next g (rnum_le B 4 _ h.le) a1 ?_ a3⟩
  rw [a2]
  exact congrArg some (con_set _ _ _ _ _ _ rfl)
theorem ki_1 (g : KG w0 n C T A c B S) (h : KI w0 n C T A c B s 1 w) :
    Calls Tryz.prog 91 #[bxv n, bxv (n + 1)] w fun e w' => e = .returned (.tuple #[]) ∧ KI w0 n C T A c B s 2 w' := by
  obtain ⟨vt, l, h⟩ := h
  have hk : ck B s 2 = (fun r : CS => ({ r with c := { r.c with mac := M6.of (rtake B r.s 6).1 }, s := (rtake B r.s 6).2 } : CS)) (ck B s 1) := rfl
  unfold KI
  rw [hk]
  generalize ck B s 1 = r at h ⊢
  clear hk
  refine (con_mac_rd (o := 0) (cs := (r.c.cells vt).toList) B h.rd (h.row g) h.le g.hc g.hB g.SC (h.boxes g) h.con (by rw [con_len]; decide) g.TC).mono fun e w' ⟨he, a1, a2, a3⟩ => ⟨he, vt, l, h.next g (rtake_le B _ 6 h.le) a1 ?_ a3⟩
  rw [a2, Nat.zero_add, mac_splice _ _ _ (rtake_length _ _ _)]
theorem ki_2 (g : KG w0 n C T A c B S) (h : KI w0 n C T A c B s 2 w) :
    Calls Tryz.prog 92 #[bxv n, bxv (n + 1)] w fun e w' => e = .returned (.tuple #[]) ∧ KI w0 n C T A c B s 3 w' := by
  obtain ⟨vt, l, h⟩ := h
  have hk : ck B s 3 = (fun r : CS => ({ r with c := { r.c with omac := M6.of (rtake B r.s 6).1 }, s := (rtake B r.s 6).2 } : CS)) (ck B s 2) := rfl
  unfold KI
  rw [hk]
  generalize ck B s 2 = r at h ⊢
  clear hk
  refine (con_omac_rd (o := 0) (cs := (r.c.cells vt).toList) B h.rd (h.row g) h.le g.hc g.hB g.SC (h.boxes g) h.con (by rw [con_len]; decide) g.TC).mono fun e w' ⟨he, a1, a2, a3⟩ => ⟨he, vt, l, h.next g (rtake_le B _ 6 h.le) a1 ?_ a3⟩
  rw [a2, Nat.zero_add, omac_splice _ _ _ (rtake_length _ _ _)]
theorem ki_3 (g : KG w0 n C T A c B S) (h : KI w0 n C T A c B s 3 w) :
    Calls Tryz.prog 93 #[bxv n, bxv (n + 1)] w fun e w' => e = .returned (.tuple #[]) ∧ KI w0 n C T A c B s 4 w' := by
  obtain ⟨vt, l, h⟩ := h
  have hk : ck B s 4 = (fun r : CS => ({ r with c := { r.c with nmac := M6.of (rtake B r.s 6).1 }, s := (rtake B r.s 6).2 } : CS)) (ck B s 3) := rfl
  unfold KI
  rw [hk]
  generalize ck B s 3 = r at h ⊢
  clear hk
  refine (con_nmac_rd (o := 0) (cs := (r.c.cells vt).toList) B h.rd (h.row g) h.le g.hc g.hB g.SC (h.boxes g) h.con (by rw [con_len]; decide) g.TC).mono fun e w' ⟨he, a1, a2, a3⟩ => ⟨he, vt, l, h.next g (rtake_le B _ 6 h.le) a1 ?_ a3⟩
  rw [a2, Nat.zero_add, nmac_splice _ _ _ (rtake_length _ _ _)]
theorem ki_4 (g : KG w0 n C T A c B S) (h : KI w0 n C T A c B s 4 w) :
    Calls Tryz.prog 94 #[bxv n, bxv (n + 1)] w fun e w' => e = .returned (.tuple #[]) ∧ KI w0 n C T A c B s 5 w' := by
  obtain ⟨vt, l, h⟩ := h
  have hk : ck B s 5 = (fun r : CS => ({ r with c := { r.c with key := K8.of (rtake B r.s 8).1 }, s := (rtake B r.s 8).2 } : CS)) (ck B s 4) := rfl
  unfold KI
  rw [hk]
  generalize ck B s 4 = r at h ⊢
  clear hk
  refine (con_key_rd (o := 0) (cs := (r.c.cells vt).toList) B h.rd (h.row g) h.le g.hc g.hB g.SC (h.boxes g) h.con (by rw [con_len]; decide) g.TC).mono fun e w' ⟨he, a1, a2, a3⟩ => ⟨he, vt, l, h.next g (rtake_le B _ 8 h.le) a1 ?_ a3⟩
  rw [a2, Nat.zero_add, ckey_splice _ _ _ (rtake_length _ _ _)]
theorem ki_5 (g : KG w0 n C T A c B S) (h : KI w0 n C T A c B s 5 w) :
    Calls Tryz.prog 95 #[bxv n, bxv (n + 1)] w fun e w' => e = .returned (.tuple #[]) ∧ KI w0 n C T A c B s 6 w' := by
  obtain ⟨vt, l, h⟩ := h
  have hk : ck B s 6 = (fun r : CS => ({ r with c := { r.c with drain := (rnum B 4 r.s).1 }, s := (rnum B 4 r.s).2 } : CS)) (ck B s 5) := rfl
  unfold KI
  rw [hk]
  generalize ck B s 5 = r at h ⊢
  clear hk
  refine (con_drain_rd (o := 0) B h.rd (h.row g) h.le g.hc g.hB g.SC (h.boxes g) h.con (by rw [con_size]; decide) g.TC).mono fun e w' ⟨he, a1, a2, a3⟩ => ⟨he, vt, l, h.next g (rnum_le B 4 _ h.le) a1 ?_ a3⟩
  rw [a2]
  exact congrArg some (con_set _ _ _ _ _ _ rfl)
theorem ki_6 (g : KG w0 n C T A c B S) (h : KI w0 n C T A c B s 6 w) :
    Calls Tryz.prog 96 #[bxv n, bxv (n + 1), bxv (n + 2)] w fun e w' => e = .returned (.tuple #[]) ∧ KI w0 n C T A c B s 7 w' := by
  obtain ⟨vt, l, h⟩ := h
  have hk : ck B s 7 = (fun r : CS => ({ r with nt := (rnum B 1 r.s).1, s := (rnum B 1 r.s).2 } : CS)) (ck B s 6) := rfl
  unfold KI
  rw [hk]
  generalize ck B s 6 = r at h ⊢
  clear hk
  obtain ⟨P, p, e1, r1⟩ := own_rowAt h.tens.own
  subst e1
  have k1 := g.C_lt
  have k2 := g.T_lt
  refine (con_n_rd (o := 0) B h.rd (h.row g) h.le g.hc g.hB g.SC (h.boxes g) ((blk_cell h.con 28).trans rfl) h.hn (by omega)).mono fun e w' ⟨he, a1, a2, a3⟩ => ⟨he, _, l, ⟨a1, rnum_le B 1 _ h.le, a3.obj h.con (by rintro (f | f); exact g.TC f; omega), h.mod.trans (a3.mono fun b f => by rcases f with f | f; exact .inl f; exact .inr (.inr f)), a2, rnum_lt B 1 _, h.map, h.tens.mod a3 (fun b hb _ f => by rcases f with f | f <;> omega)⟩⟩
theorem ki_7 (g : KG w0 n C T A c B S) (h : KI w0 n C T A c B s 7 w) :
    Calls Tryz.prog 97 #[bxv n, bxv (n + 2), bxv (n + 1)] w fun e w' => e = .returned (.tuple #[]) ∧ KI w0 n C T A c B s 8 w' := by
  obtain ⟨vt, l, h⟩ := h
  have hk : ck B s 8 = (fun r : CS => ({ r with l := (rmany (rten B) r.nt r.s).1, s := (rmany (rten B) r.nt r.s).2 } : CS)) (ck B s 7) := rfl
  unfold KI
  rw [hk]
  have hl0 : (ck B s 7).l = [] := rfl
  generalize ck B s 7 = r at h hl0 ⊢
  clear hk
  have k1 := g.C_lt
  have k2 := g.T_lt
  have hsz : n + 3 < w.heap.size := Nat.lt_of_lt_of_le (lt_of_block g.rw3) h.mod.size
  refine (con_list_rd (o := 0) B h.rd (h.row g) h.le g.hc g.hB g.SC g.ST (h.boxes g) (by have := h.cnt; omega) (fun b hb => by have := g.S_lt b hb; omega) h.hn h.con (by rw [con_size]; decide) g.TC).mono fun e w' ⟨he, a1, ⟨v, l2, a2, a4, a5⟩, a3⟩ => ⟨he, v, l2, ⟨a1, rmany_le (rten_le B) _ _ h.le, ?_, h.mod.trans (a3.mono fun b f => by rcases f with f | f; exact .inl f; exact .inr (.inl f)), a3.obj h.hn (by rintro (f | f) <;> omega), h.cnt, a4, ?_⟩⟩
  · rw [a2]
    exact congrArg some (con_set _ _ _ _ _ _ rfl)
  · exact ⟨own_base a5.own (by omega), fun x hx => (a5.rows x hx).imp (fun b hb => ⟨by have := hb.1; omega, hb.2⟩)⟩
theorem ki_step (g : KG w0 n C T A c B S) : ∀ k w1 f cc, conFn[k]? = some f → (conCap n)[k]? = some cc → KI w0 n C T A c B s k w1 → w1.heap[n + 3]? = some (.cells (conRow n).toArray 1 (0, 0)) ∧ Calls Tryz.prog f cc w1 fun e w' => e = .returned (.tuple #[]) ∧ KI w0 n C T A c B s (k + 1) w' := by
  intro k w1 f cc hf hc h
  have hk : k < 8 := (List.getElem?_eq_some_iff.1 hf).1
  have hor : k = 0 ∨ k = 1 ∨ k = 2 ∨ k = 3 ∨ k = 4 ∨ k = 5 ∨ k = 6 ∨ k = 7 := by omega
  refine ⟨?_, ?_⟩
  · obtain ⟨vt, l, h⟩ := h
    exact h.keep g g.rw3 (by omega) (by omega)
  clear hk
  rcases hor with rfl | rfl | rfl | rfl | rfl | rfl | rfl | rfl
  · obtain rfl : 90 = f := Option.some.inj hf; obtain rfl : #[bxv n, bxv (n + 1)] = cc := Option.some.inj hc; exact ki_0 g h
  · obtain rfl : 91 = f := Option.some.inj hf; obtain rfl : #[bxv n, bxv (n + 1)] = cc := Option.some.inj hc; exact ki_1 g h
  · obtain rfl : 92 = f := Option.some.inj hf; obtain rfl : #[bxv n, bxv (n + 1)] = cc := Option.some.inj hc; exact ki_2 g h
  · obtain rfl : 93 = f := Option.some.inj hf; obtain rfl : #[bxv n, bxv (n + 1)] = cc := Option.some.inj hc; exact ki_3 g h
  · obtain rfl : 94 = f := Option.some.inj hf; obtain rfl : #[bxv n, bxv (n + 1)] = cc := Option.some.inj hc; exact ki_4 g h
  · obtain rfl : 95 = f := Option.some.inj hf; obtain rfl : #[bxv n, bxv (n + 1)] = cc := Option.some.inj hc; exact ki_5 g h
  · obtain rfl : 96 = f := Option.some.inj hf; obtain rfl : #[bxv n, bxv (n + 1), bxv (n + 2)] = cc := Option.some.inj hc; exact ki_6 g h
  · obtain rfl : 97 = f := Option.some.inj hf; obtain rfl : #[bxv n, bxv (n + 2), bxv (n + 1)] = cc := Option.some.inj hc; exact ki_7 g h
def zCon : Array Value := Con.zero.cells (.slice none 0 0)
/-- SETTINGS READ. -/
theorem config_rd (hb : w.heap[C]? = some (rdObj A B.length c s.1 s.2)) (hrow : RowAt S w A (bcells B)) (hat : s.1 ≤ B.length) (hc : B.length ≤ c) (hB : B.length ≤ 100000000) (hS : ¬ S C) (hST : ¬ S T) (hSl : ∀ b, S b → b < w.heap.size)
    (hT : w.heap[T]? = some (.cells zCon 36 (0, 0))) (hTC : T ≠ C) :
    Calls Tryz.prog 55 #[.pointer (some ⟨C, 0, none⟩), .pointer (some ⟨T, 0, none⟩)] w fun e w' => e = .returned (.tuple #[]) ∧ ∃ vt l, l.map (·.t) = (rcon B s).l ∧ (rcon B s).s.1 ≤ B.length ∧ w'.heap[C]? = some (rdObj A B.length c (rcon B s).s.1 (rcon B s).s.2) ∧
      w'.heap[T]? = some (.cells ((rcon B s).c.cells vt) 36 (0, 0)) ∧ TVs w' w.heap.size vt l ∧ Mod (fun b => b = C ∨ b = T) w w' := by
  have hC := lt_of_block hb
  have hTl := lt_of_block hT
  refine config_walk (fun w' => ∃ vt l, l.map (·.t) = (rcon B s).l ∧ (rcon B s).s.1 ≤ B.length ∧ w'.heap[C]? = some (rdObj A B.length c (rcon B s).s.1 (rcon B s).s.2) ∧
      w'.heap[T]? = some (.cells ((rcon B s).c.cells vt) 36 (0, 0)) ∧ TVs w' w.heap.size vt l ∧ Mod (fun b => b = C ∨ b = T) w w') (fun w0 hm hbx h2 h6 => ?_)
  have g : KG w0 w.heap.size C T A c B S := { bx := hbx, rw3 := h6, C_lt := hC, T_lt := hTl, TC := hTC, row := hrow.keeps (hm.keeps (fun _ _ _ f => f)), S_lt := hSl, SC := hS, ST := hST, hc := hc, hB := hB }
  refine ⟨KI w0 w.heap.size C T A c B s, ?_, ki_step g, fun w' ⟨vt, l, h'⟩ => ?_⟩
  · exact ⟨.slice none 0 0, [], ⟨hm.obj hb id, hat, hm.obj hT id, Mod.refl _ _, h2, show (0:Nat) < 256 by decide, rfl, ⟨rfl, .inl ⟨rfl, rfl⟩⟩, by simp⟩⟩
  · have hsz := hm.size
    refine ⟨vt, l, h'.map, h'.le, h'.rd, h'.con, ⟨own_base h'.tens.own (by omega), fun x hx => (h'.tens.rows x hx).imp (fun b hb => ⟨by have := hb.1; omega, hb.2⟩)⟩, ?_⟩
    refine (hm.mono (fun _ f => f.elim)).trans' h'.mod (fun i hi f => ?_)
    rcases f with f | f | f
    · exact .inl f
    · exact .inr f
    · omega
end
end

section
attribute [local go_sem] stPair gtPair gtK8 gtM6 run_store_func
attribute [local go_sem high] neqPair eqK8 eqM6
attribute [local go_sem ↓] load_fold store_fold alloc_fold
open Go.RowKit
set_option linter.unusedVariables false
def conLoad (v : Value) : Sem Value := Instr.loadAt 36 v
theorem con_load_fold (v : Value) : Instr.loadAt 36 v = conLoad v := rfl
attribute [local go_sem ↓] con_load_fold
def chgLoad (v : Value) : Sem Value := Instr.loadAt 33 v
theorem chg_load_fold (v : Value) : Instr.loadAt 33 v = chgLoad v := rfl
attribute [local go_sem ↓] chg_load_fold
theorem conLoad_run {W : World} {b : Nat} {CA : Array Value} (h : W.heap[b]? = some (.cells CA 36 (0, 0))) (hc : CA.size = 29) : (conLoad (.pointer (some ⟨b, 0, none⟩))).run Tryz.prog W = .ok (.agg CA) W := by
  simp only [conLoad, Instr.loadAt, Instr.sureAddr, Sem.run_bind, Sem.run_pure, Result.andThen_ok]
  exact run_loadVar_row W b _ _ CA (0, 0) _ h Tryz.underlying36 rfl (by rw [conSize, hc])
theorem chgLoad_run {W : World} {b : Nat} {CA : Array Value} (h : W.heap[b]? = some (.cells CA 33 (0, 0))) (hc : CA.size = 35) : (chgLoad (.pointer (some ⟨b, 0, none⟩))).run Tryz.prog W = .ok (.agg CA) W := load_chg h hc
/-- The tenant within a change that lies in a block of its own. -/
theorem chgTen_run {W : World} {b : Nat} {put : Bool} {name : List UInt8} {x : TV} (h : W.heap[b]? = some (.cells (cChg put name x) 33 (0, 0))) : (tenLoad (.pointer (some ⟨b, 2, none⟩))).run Tryz.prog W = .ok (.agg x.cells.toArray) W :=
  tenLoad_mid W b 2 x.cells rfl (fun j v hj => by rw [blk_cell h, cChg2]; exact hj)
theorem light_of {t : Ten} (h : light t = true) : t.name.length ≤ 300 ∧ t.pool.length ≤ 300 ∧ t.statics.length ≤ 300 ∧ t.twices.length ≤ 300 := by
  simp only [light, Bool.and_eq_true, decide_eq_true_eq] at h
  exact ⟨h.1.1.1, h.1.1.2, h.1.2, h.2⟩
/-- All light, and no more than so many? -/
def lights (l : List TV) (most : Nat) : Bool := (l.take most).all (fun x => light x.t) && decide (l.length ≤ most)
theorem lights_of {l : List TV} {most : Nat} (h : lights l most = true) : l.length ≤ most ∧ ∀ x ∈ l, light x.t = true := by
  simp only [lights, Bool.and_eq_true, decide_eq_true_eq, List.all_eq_true] at h
  refine ⟨h.2, fun x hx => h.1 x ?_⟩
  rw [List.take_of_length_le h.2]
  exact hx
set_option maxRecDepth 100000 in
theorem lights_ok {w : World} (l : List TV) (most : Nat) (hm : most ≤ 1000) (hl : l.length ≤ 9223372036854775807) {A : Option Addr} {c : Nat} (hrow : RowAt (fun _ => True) w A (tvCells l)) (ho : ∀ x ∈ l, x.Open w) :
    Calls Tryz.prog 5 #[.slice A l.length c, .int .i64 most] w fun e w' => e = .returned (.bool (lights l most)) ∧ Mod No w w' := by
  obtain ⟨n, hn⟩ : ∃ n, n = l.length := ⟨_, rfl⟩
  rw [← hn] at hl
  rw [← hn]
  have HN := Lib.hid hn
  have H0 := Lib.hid (And.intro (hrow.mono (S' := fun b => b < w.heap.size) (fun b hb _ => hb)) ho)
  obtain ⟨r, hr⟩ : ∃ r, r = lights l most := ⟨_, rfl⟩
  rw [← hr]
  have HR := Lib.hid hr
  clear hn hrow ho hr
  go_enter Tryz.func5, Tryz.ntmps5
  go_wp2
  go_loopw [5] (fun i wr => ∃ j : Nat, i = .int .i64 j ∧ j ≤ n ∧ j ≤ most ∧ ((l.take j).all (fun x => light x.t)) = true ∧ Mod No w wr) (fun i _ => most - (intOf i).toNat)
  case atStart => exact ⟨0, rfl, by omega, by omega, by simp, Mod.refl _ _⟩
  case round =>
    obtain ⟨j, rfl, hj, hjm, hall, hmw⟩ := hrel
    have HA := Lib.hid (And.intro hall hmw)
    clear hall hmw
    by_cases hlt : j < n
    · by_cases hlm : j < most
      · obtain ⟨z, hz⟩ : ∃ z, l[j]? = some z := ⟨_, List.getElem?_eq_getElem (by have := HN.out; omega)⟩
        have hkp : ∀ S, Keeps S w wr := fun S => HA.out.2.keeps (fun _ _ _ f => f)
        obtain ⟨b, o', rfl, _, hblt, hx0⟩ := (H0.out.1.keeps (hkp _)).elem TV.cells 33 TV.len (by omega) hz
        have hld := tenLoad_mid wr b (o' + j * 33) z.cells rfl hx0
        have hzo := H0.out.2 z (List.mem_of_getElem? hz)
        have hT := light_ok z.t (.agg z.cells.toArray) (hzo.val.keeps (hkp _))
        obtain ⟨TA, hTA⟩ : ∃ TA, TA = z.cells.toArray := ⟨_, rfl⟩
        rw [← hTA] at hT hld
        obtain ⟨lz, hlz⟩ : ∃ lz, lz = light z.t := ⟨_, rfl⟩
        rw [← hlz] at hT
        have HT := Lib.hid hT
        have HZ := Lib.hid (And.intro hz hlz)
        have p1 : (0:Int) ≤ j := by omega
        have p2 : (j:Int) < n := by omega
        have p3 : (j:Int) < most := by omega
        clear hz hkp hx0 hzo hT hTA hlz
        cases lz
        · go_wp2_with (first | (go_at_call 6; refine HT.out.mono ?_; rintro e w1 ⟨rfl, m1⟩; have H1 := Lib.hid m1; clear m1) | fail)
          go_ret
          refine ⟨?_, HA.out.2.trans H1.out⟩
          have : lights l most = false := by
            cases hq : lights l most with
            | false => rfl
            | true => have := (lights_of hq).2 z (List.mem_of_getElem? HZ.out.1); rw [← HZ.out.2] at this; simp at this
          rw [HR.out, this]; rfl
        · go_wp2_with (first | (go_at_call 6; refine HT.out.mono ?_; rintro e w1 ⟨rfl, m1⟩; have H1 := Lib.hid m1; clear m1) | fail)
          refine ⟨⟨j + 1, by go_num, by omega, by omega, ?_, HA.out.2.trans H1.out⟩, by simp [intOf]; omega⟩
          rw [take_snoc' HZ.out.1, List.all_append, HA.out.1]
          simp [← HZ.out.2]
      · obtain rfl : j = most := by omega
        have p0 : ¬ ((n : Int) ≤ j) := by omega
        have p1 : decide ((n : Int) ≤ j) = false := by simpa using p0
        have hres : lights l j = false := by simp only [lights, ← HN.out]; simp; intro _; omega
        have H9 := Lib.hid hres
        clear hres
        go_wp2
        go_ret
        exact ⟨by rw [HR.out, H9.out]; rfl, HA.out.2⟩
    · obtain rfl : n = j := by omega
      have p0 : ((n : Int) ≤ most) := by omega
      have p1 : decide ((n : Int) ≤ most) = true := by simpa using p0
      have hres : lights l most = true := by
        have e : l.take most = l.take n := by rw [List.take_of_length_le (by have := HN.out; omega), List.take_of_length_le (by have := HN.out; omega)]
        simp only [lights, e, HA.out.1, ← HN.out, Bool.true_and, decide_eq_true_eq]
        omega
      have H9 := Lib.hid hres
      clear hres
      go_wp2
      go_ret
      exact ⟨by rw [HR.out, H9.out]; rfl, HA.out.2⟩
end

section
attribute [local go_sem] stPair gtPair gtK8 gtM6 run_store_func
attribute [local go_sem high] neqPair eqK8 eqM6
attribute [local go_sem ↓] load_fold store_fold alloc_fold slice_op_fold con_load_fold chg_load_fold
open Go.RowKit
set_option linter.unusedVariables false
def tenZero : Sem Value := Instr.build 31 #[]
theorem ten_zero_fold (ρ : Operand → Value) (dst : Option Tmp) (ty : TypeId) (pos : String) (after : Array Edge) (g : Option (Nat × Bool)) :
    execOp ρ { dst := dst, op := .build 31 #[], type := ty, pos := pos, after := after, guard := g } = (do pure (Next.value (← tenZero)) : Sem Next) := by
  show (do pure (Next.value (← Instr.build 31 (#[].map fun (i, x) => (i, ρ x)))) : Sem Next) = _
  simp only [Array.map_empty]
  rfl
attribute [local go_sem ↓] ten_zero_fold
theorem tenStore_row {W : World} {b : Nat} {old CA : Array Value} (h : W.heap[b]? = some (.cells old 31 (0, 0))) (ho : old.size = 33) (hc : CA.size = 33) (h1 : CA.all (·.oneCell') = true) :
    (tenStore (.pointer (some ⟨b, 0, none⟩)) (.agg CA)).run Tryz.prog W = .ok () (W.setRow b CA) := by
  simp only [tenStore, Instr.storeAt, Instr.sureAddr, Sem.run_bind, Sem.run_pure, Result.andThen_ok]
  exact run_storeVar_row _ _ _ _ old CA h (by rw [tenSize, hc]) (by rw [ho, hc]) h1
def TV.zero : TV := ⟨.zero, .slice none 0 0, .slice none 0 0, .slice none 0 0⟩
theorem TV.zero_rows (S : Nat → Prop) (w : World) : TV.zero.Rows S w := ⟨none, 0, none, 0, none, 0, rfl, rfl, rfl, .nil _ _ _, .nil _ _ _, .nil _ _ _⟩
end

section
attribute [local go_sem] stPair gtPair gtK8 gtM6 run_store_func
attribute [local go_sem high] neqPair eqK8 eqM6
attribute [local go_sem ↓] load_fold store_fold alloc_fold slice_op_fold con_load_fold chg_load_fold ten_zero_fold
open Go.RowKit
set_option linter.unusedVariables false
def conAlloc (v : Value) : Sem Value := Instr.alloc 36 true v
theorem con_alloc_fold (v : Value) : Instr.alloc 36 true v = conAlloc v := rfl
attribute [local go_sem ↓] con_alloc_fold
set_option maxRecDepth 100000 in
theorem conAlloc_run (W : World) : (conAlloc (.tuple #[])).run Tryz.prog W = .ok (.pointer (some ⟨W.heap.size, 0, none⟩)) (W.alloc (.cells zCon 36)) := by kernel_rfl
def conStore (p v : Value) : Sem Unit := Instr.storeAt 36 p v
theorem con_store_fold (p v : Value) : Instr.storeAt 36 p v = conStore p v := rfl
attribute [local go_sem ↓] con_store_fold
theorem conStore_row {W : World} {b : Nat} {old CA : Array Value} (h : W.heap[b]? = some (.cells old 36 (0, 0))) (ho : old.size = 29) (hc : CA.size = 29) (h1 : CA.all (·.oneCell') = true) :
    (conStore (.pointer (some ⟨b, 0, none⟩)) (.agg CA)).run Tryz.prog W = .ok () (W.setRow b CA) := by
  simp only [conStore, Instr.storeAt, Instr.sureAddr, Sem.run_bind, Sem.run_pure, Result.andThen_ok]
  exact run_storeVar_row _ _ _ _ old CA h (by rw [conSize, hc]) (by rw [ho, hc]) h1
def conZero : Sem Value := Instr.build 36 #[]
theorem con_zero_fold (ρ : Operand → Value) (dst : Option Tmp) (ty : TypeId) (pos : String) (after : Array Edge) (g : Option (Nat × Bool)) :
    execOp ρ { dst := dst, op := .build 36 #[], type := ty, pos := pos, after := after, guard := g } = (do pure (Next.value (← conZero)) : Sem Next) := by
  show (do pure (Next.value (← Instr.build 36 (#[].map fun (i, x) => (i, ρ x)))) : Sem Next) = _
  simp only [Array.map_empty]
  rfl
attribute [local go_sem ↓] con_zero_fold
set_option maxRecDepth 100000 in
theorem conZero_run : ∀ W, conZero.run Tryz.prog W = .ok (.agg zCon) W := fun W => by kernel_rfl
theorem con_one (c : Con) (P : Option Addr) (a b : Nat) : (c.cells (.slice P a b)).all (·.oneCell') = true := by simp [Con.cells, Value.oneCell', u8v]
/-- What OpenConfig tells: settings, tenants, an error. -/
def ocf (B : List UInt8) : Con × List Ten × Nat := if (rcon B (0, false)).s.2 = false ∧ (rcon B (0, false)).s.1 = B.length then ((rcon B (0, false)).c, (rcon B (0, false)).l, 0) else (.zero, [], 70)
/-- What OpenConfig hands out: settings, an error. -/
def OpenConP (r : Con × List Ten × Nat) (w : World) (e : Ending) (w' : World) : Prop :=
  ∃ vt l, e = .returned (.tuple #[.agg (r.1.cells vt), .int .i64 (r.2.2 : Nat)]) ∧ l.map (·.t) = r.2.1 ∧ TVs w' w.heap.size vt l ∧ Mod No w w'
set_option maxRecDepth 100000 in
set_option maxHeartbeats 1000000 in
theorem openConfig_ok {w : World} {A : Option Addr} {c : Nat} (B : List UInt8) (hrow : RowAt (fun b => b < w.heap.size) w A (bcells B)) (hc : B.length ≤ c) (hB : B.length ≤ 100000000) :
    Calls Tryz.prog 37 #[.slice A B.length c] w (OpenConP (ocf B) w) := by
  obtain ⟨W, hW⟩ : ∃ W, W = ((w.alloc (.cells zCon 36)).alloc (.cells #[.slice A B.length c, .bool true, .int .i64 0, .bool false] 102)).alloc (.cells zCon 36) := ⟨_, rfl⟩
  have hmW : Mod No w W := by rw [hW]; exact (((Mod.refl _ _).alloc _).alloc _).alloc _
  have hsz : W.heap.size = w.heap.size + 3 := by rw [hW]; simp
  have hX : W.heap[w.heap.size]? = some (.cells zCon 36 (0, 0)) := by rw [hW]; exact at30 w _ _ _
  have hC : W.heap[w.heap.size + 1]? = some (rdObj A B.length c 0 false) := by rw [hW]; exact at31 w _ _ _
  have hT : W.heap[w.heap.size + 1 + 1]? = some (.cells zCon 36 (0, 0)) := by rw [hW]; exact at32 w _ _ _
  have HN := config_rd (w := W) (s := (0, false)) (S := fun b => b < w.heap.size) (C := w.heap.size + 1) (T := w.heap.size + 1 + 1) hC (hrow.keeps (hmW.keeps (fun _ _ _ f => f))) (Nat.zero_le _) hc hB (by omega) (by omega) (fun b hb => by omega) hT (by omega)
  obtain ⟨n, hn⟩ : ∃ n, n = B.length := ⟨_, rfl⟩
  rw [← hn] at hW HN
  rw [← hn]
  obtain ⟨q, hq⟩ : ∃ q, q = rcon B (0, false) := ⟨_, rfl⟩
  have hot : ocf B = if q.s.2 = false ∧ q.s.1 = n then (q.c, q.l, 0) else (.zero, [], 70) := by rw [hq, hn]; rfl
  rw [hot]
  rw [← hq] at HN
  obtain ⟨qc, qn, ql, at_, sh⟩ := q
  obtain ⟨eb, heb⟩ : ∃ eb, eb = (!sh && decide (at_ = n)) := ⟨_, rfl⟩
  have hif : (sh = false ∧ at_ = n) = (eb = true) := by
    rw [heb]
    cases sh <;> simp
  simp only [hif]
  obtain ⟨res, hres0⟩ : ∃ res, res = (if eb = true then (qc, ql, 0) else (Con.zero, [], 70) : Con × List Ten × Nat) := ⟨_, rfl⟩
  rw [← hres0]
  have HRES := Lib.hid hres0
  clear hres0
  have HN := Lib.hid HN
  have HM := Lib.hid (And.intro hmW (And.intro hX (And.intro hsz heb)))
  have HW := Lib.hid hW
  have hal := conAlloc_run
  have hzr := conZero_run
  clear hmW hX hC hW hT hrow hc hB hn hot hq hsz heb hif
  cases eb
  · go_enter Tryz.func37, Tryz.ntmps37
    go_wp2_with fail
    rw [← HW.out]
    refine HN.out.mono ?_
    rintro e w1 ⟨rfl, vt, l, k0, kl, k1, k2, kr, k3⟩
    have hX1 := k3.obj HM.out.2.1 (by rintro (f | f) <;> omega)
    have hE := ended_ok k1
    have hst : ∀ q, (conStore (.pointer (some ⟨w.heap.size, 0, none⟩)) (.agg zCon)).run Tryz.prog (w1.drewN q) = .ok () ((w1.drewN q).setRow w.heap.size zCon) := fun q => conStore_row (old := zCon) hX1 rfl rfl (con_one .zero none 0 0)
    have hres : ∀ q, ((w1.drewN q).setRow w.heap.size zCon).heap[w.heap.size]? = some (.cells zCon 36 (0, 0)) := fun q => setRow_heap (w1.drewN q) w.heap.size _ zCon _ _ hX1
    rw [← HM.out.2.2.2] at hE
    have HE := Lib.hid hE
    have H1 := Lib.hid (And.intro hres k3)
    clear k0 kl k1 k2 kr k3 hX1 hres hE
    go_wp2_with (first | (go_at_call 53; refine HE.out.mono ?_; rintro e w5 ⟨rfl, q5, rfl⟩; have hst5 := hst q5) | fail)
    refine bodyPost_ret (results_cell_tmp rfl _ _ w.heap.size 36 zCon (0, 0) _ rfl (H1.out.1 q5) Tryz.underlying36 rfl (by rw [conSize]; rfl)) rfl ?_
    rw [HRES.out, if_neg (by decide)]
    refine ⟨.slice none 0 0, [], rfl, rfl, ⟨⟨rfl, .inl ⟨rfl, rfl⟩⟩, by simp⟩, ?_⟩
    have m1 : Mod No w w1 := HM.out.1.trans' H1.out.2 (fun i hi f => by rcases f with f | f <;> omega)
    exact (m1.drewN q5).trans' (setRow_mod zCon) (fun i hi f => by omega)
  · go_enter Tryz.func37, Tryz.ntmps37
    go_wp2_with fail
    rw [← HW.out]
    refine HN.out.mono ?_
    rintro e w1 ⟨rfl, vt, l, k0, kl, k1, k2, kr, k3⟩
    obtain ⟨P, p, e1, _⟩ := own_rowAt kr.own
    have hX1 := k3.obj HM.out.2.1 (by rintro (f | f) <;> omega)
    have hE := ended_ok k1
    rw [← HM.out.2.2.2] at hE
    obtain ⟨TA, hTA⟩ : ∃ TA, TA = qc.cells vt := ⟨_, rfl⟩
    have hTs : TA.size = 29 := by rw [hTA]; rfl
    have hone : TA.all (·.oneCell') = true := by rw [hTA, e1]; exact con_one _ _ _ _
    have hT1 : w1.heap[w.heap.size + 1 + 1]? = some (.cells TA 36 (0, 0)) := by rw [hTA]; exact k2
    have hld : ∀ q, (conLoad (.pointer (some ⟨w.heap.size + 1 + 1, 0, none⟩))).run Tryz.prog (w1.drewN q) = .ok (.agg TA) (w1.drewN q) := fun q => conLoad_run (W := w1.drewN q) hT1 hTs
    have hst : ∀ q, (conStore (.pointer (some ⟨w.heap.size, 0, none⟩)) (.agg TA)).run Tryz.prog (w1.drewN q) = .ok () ((w1.drewN q).setRow w.heap.size TA) := fun q => conStore_row (old := zCon) hX1 rfl hTs hone
    have hres : ∀ q, ((w1.drewN q).setRow w.heap.size TA).heap[w.heap.size]? = some (.cells TA 36 (0, 0)) := fun q => setRow_heap (w1.drewN q) w.heap.size _ TA _ _ hX1
    have HE := Lib.hid hE
    have H1 := Lib.hid (And.intro hres (And.intro k3 (And.intro k0 (And.intro kr (And.intro hTA hTs)))))
    clear k0 kl k1 k2 kr k3 hX1 hres hE e1 hT1 hone hTA hTs
    go_wp2_with (first | (go_at_call 53; refine HE.out.mono ?_; rintro e w5 ⟨rfl, q5, rfl⟩; have hst5 := hst q5; have hld5 := hld q5) | fail)
    refine bodyPost_ret (results_cell_tmp rfl _ _ w.heap.size 36 TA (0, 0) _ rfl (H1.out.1 q5) Tryz.underlying36 rfl (by rw [conSize, H1.out.2.2.2.2.2])) rfl ?_
    have m1 : Mod No w w1 := HM.out.1.trans' H1.out.2.1 (fun i hi f => by rcases f with f | f <;> omega)
    have m2 : Mod (fun b => b = w.heap.size) w1 ((w1.drewN q5).setRow w.heap.size TA) := ((Mod.refl (fun b => b = w.heap.size) w1).drewN q5).trans (setRow_mod TA)
    have hs3 := HM.out.2.2.1
    have htv := H1.out.2.2.2.1.mod m2 (fun b hb _ f => by omega)
    rw [HRES.out, if_pos (by trivial)]
    refine ⟨vt, l, by rw [H1.out.2.2.2.2.1]; rfl, H1.out.2.2.1, ⟨own_base htv.own (by omega), fun x hx => (htv.rows x hx).imp (fun b hb => ⟨by have := hb.1; omega, hb.2⟩)⟩, ?_⟩
    exact m1.trans' m2 (fun i hi f => by omega)
end

section
attribute [local go_sem] stPair gtPair gtK8 gtM6 run_store_func
attribute [local go_sem high] neqPair eqK8 eqM6
attribute [local go_sem ↓] load_fold store_fold alloc_fold slice_op_fold con_load_fold chg_load_fold ten_zero_fold con_alloc_fold con_store_fold con_zero_fold
open Go.RowKit
set_option linter.unusedVariables false
def chgAlloc (v : Value) : Sem Value := Instr.alloc 33 true v
theorem chg_alloc_fold (v : Value) : Instr.alloc 33 true v = chgAlloc v := rfl
attribute [local go_sem ↓] chg_alloc_fold
theorem chgAlloc_run (W : World) : (chgAlloc (.tuple #[])).run Tryz.prog W = .ok (.pointer (some ⟨W.heap.size, 0, none⟩)) (W.alloc (.cells zChg 33)) := alloc_chg W
def chgStore (p v : Value) : Sem Unit := Instr.storeAt 33 p v
theorem chg_store_fold (p v : Value) : Instr.storeAt 33 p v = chgStore p v := rfl
attribute [local go_sem ↓] chg_store_fold
theorem chgStore_row {W : World} {b : Nat} {old CA : Array Value} (h : W.heap[b]? = some (.cells old 33 (0, 0))) (ho : old.size = 35) (hc : CA.size = 35) (h1 : CA.all (·.oneCell') = true) :
    (chgStore (.pointer (some ⟨b, 0, none⟩)) (.agg CA)).run Tryz.prog W = .ok () (W.setRow b CA) := store_chg h ho hc h1
def chgZero : Sem Value := Instr.build 33 #[]
theorem chg_zero_fold (ρ : Operand → Value) (dst : Option Tmp) (ty : TypeId) (pos : String) (after : Array Edge) (g : Option (Nat × Bool)) :
    execOp ρ { dst := dst, op := .build 33 #[], type := ty, pos := pos, after := after, guard := g } = (do pure (Next.value (← chgZero)) : Sem Next) := by
  show (do pure (Next.value (← Instr.build 33 (#[].map fun (i, x) => (i, ρ x)))) : Sem Next) = _
  simp only [Array.map_empty]
  rfl
attribute [local go_sem ↓] chg_zero_fold
theorem chgZero_run : ∀ W, chgZero.run Tryz.prog W = .ok (.agg zChg) W := build_chg
def chgPut (v : Value) : Sem Value := Instr.build 33 #[(0, v)]
theorem chg_put_fold (ρ : Operand → Value) (x : Operand) (dst : Option Tmp) (ty : TypeId) (pos : String) (after : Array Edge) (g : Option (Nat × Bool)) :
    execOp ρ { dst := dst, op := .build 33 #[(0, x)], type := ty, pos := pos, after := after, guard := g } = (do pure (Next.value (← chgPut (ρ x))) : Sem Next) := by
  show (do pure (Next.value (← Instr.build 33 (#[(0, x)].map fun (i, x) => (i, ρ x)))) : Sem Next) = _
  have hm : (#[((0 : Nat), x)].map fun (i, x) => (i, ρ x)) = #[(0, ρ x)] := by simp
  rw [hm]
  rfl
attribute [local go_sem ↓] chg_put_fold
def chg1 : Array Value := chgCells true [] .zero (.slice none 0 0) (.slice none 0 0) (.slice none 0 0)
theorem chgPut_run : ∀ W, (chgPut (.bool true)).run Tryz.prog W = .ok (.agg chg1) W := fun W => by kernel_rfl
theorem chg1_one : chg1.all (·.oneCell') = true := by simp [chg1, chgCells, Ten.cells, Value.oneCell']
theorem chg1_eq : chg1 = ([Value.bool true, .string (str [])] ++ zTen.toList ++ []).toArray := rfl
theorem cChg_at2 (put : Bool) (name : List UInt8) (x : TV) : (cChg put name x)[2]? = some (.string (str x.t.name)) := by
  have := cChg2 put name x 0
  rw [Nat.add_zero] at this
  rw [this]
  rfl
theorem cChg_set1 (put : Bool) (name name' : List UInt8) (x : TV) : (cChg put name x).setIfInBounds 1 (.string (str name')) = cChg put name' x := by
  apply Array.toList_inj.1
  simp only [cChg, Array.toList_setIfInBounds, Array.toList_append]
  rfl
theorem cChg_one {S : Nat → Prop} {w : World} (put : Bool) (name : List UInt8) {x : TV} (h : x.Rows S w) : (cChg put name x).all (·.oneCell') = true := by
  have := TV.one h
  rw [cChg, Array.all_append]
  simp only [this, Bool.and_true]
  simp [Value.oneCell']
/-- What OpenChange tells: a change, an error. -/
def ocg : List UInt8 → Bool × List UInt8 × Ten × Nat
  | [] => (false, [], .zero, 70)
  | b :: r => if 1 < b.toNat then (false, [], .zero, 70) else
    if b = 1 then (if (rten (b :: r) (1, false)).2 = (r.length + 1, false) then (true, (rten (b :: r) (1, false)).1.name, (rten (b :: r) (1, false)).1, 0) else (false, [], .zero, 70))
    else (if (rname (b :: r) (1, false)).2 = (r.length + 1, false) then (false, (rname (b :: r) (1, false)).1, .zero, 0) else (false, [], .zero, 70))
def OpenChgP (r : Bool × List UInt8 × Ten × Nat) (w : World) (e : Ending) (w' : World) : Prop :=
  ∃ x : TV, e = .returned (.tuple #[.agg (cChg r.1 r.2.1 x), .int .i64 (r.2.2.2 : Nat)]) ∧ x.t = r.2.2.1 ∧ x.Rows (fun b => w.heap.size ≤ b) w' ∧ Mod No w w'
theorem openChg_none {w w' : World} {e : Ending} (he : e = .returned (.tuple #[.agg zChg, .int .i64 70])) (hm : Mod No w w') : OpenChgP (false, [], .zero, 70) w e w' := ⟨TV.zero, by rw [he]; rfl, rfl, TV.zero_rows _ _, hm⟩
set_option maxRecDepth 100000 in
set_option maxHeartbeats 1000000 in
theorem openChange_put {w : World} (A : Option Addr) (c : Nat) (r : List UInt8) (hrow : RowAt (fun b => b < w.heap.size) w A (bcells (1 :: r))) (hc : r.length + 1 ≤ c) (hB : r.length + 1 ≤ 100000000) :
    Calls Tryz.prog 33 #[.slice A (r.length + 1) c] w (OpenChgP (if (rten (1 :: r) (1, false)).2 = (r.length + 1, false) then (true, (rten (1 :: r) (1, false)).1.name, (rten (1 :: r) (1, false)).1, 0) else (false, [], .zero, 70)) w) := by
  obtain ⟨b, o, rfl, hbw, hlt, hcl⟩ := hrow.open (by simp [bcells])
  have c0 := hcl 0 (.int .u8 1) rfl
  rw [Nat.add_zero] at c0
  obtain ⟨B, hB1⟩ : ∃ B, B = (1 : UInt8) :: r := ⟨_, rfl⟩
  obtain ⟨n, hn⟩ : ∃ n, n = r.length + 1 := ⟨_, rfl⟩
  have hBn : B.length = n := by rw [hB1, hn]; rfl
  have p0 : ((n : Int) == 0) = false := by rw [beq_eq_false_iff_ne]; omega
  have p1 : (0 : Int) < n := by omega
  rw [← hB1] at hrow
  rw [← hB1, ← hn]
  rw [← hn] at hc hB
  obtain ⟨W, hW⟩ : ∃ W, W = ((w.alloc (.cells zChg 33)).alloc (.cells #[.slice (some ⟨b, o, none⟩) n c, .bool true, .int .i64 1, .bool false] 102)).alloc (.cells zChg 33) := ⟨_, rfl⟩
  obtain ⟨W2, hW2⟩ : ∃ W2, W2 = W.setRow (w.heap.size + 1 + 1) chg1 := ⟨_, rfl⟩
  have hmW : Mod No w W := by rw [hW]; exact (((Mod.refl _ _).alloc _).alloc _).alloc _
  have hsz : W.heap.size = w.heap.size + 3 := by rw [hW]; simp
  have hX : W.heap[w.heap.size]? = some (.cells zChg 33 (0, 0)) := by rw [hW]; exact at30 w _ _ _
  have hC : W.heap[w.heap.size + 1]? = some (rdObj (some ⟨b, o, none⟩) n c 1 false) := by rw [hW]; exact at31 w _ _ _
  have hT : W.heap[w.heap.size + 1 + 1]? = some (.cells zChg 33 (0, 0)) := by rw [hW]; exact at32 w _ _ _
  have hm2 : Mod (fun b => b = w.heap.size + 1 + 1) W W2 := by rw [hW2]; exact setRow_mod _
  have hs2 : W2.heap.size = w.heap.size + 3 := by rw [← hsz, hW2]; simp [World.setRow]
  have hT2 : W2.heap[w.heap.size + 1 + 1]? = some (.cells chg1 33 (0, 0)) := by rw [hW2]; exact setRow_heap _ _ _ _ _ _ hT
  have hX2 := hm2.obj hX (by omega)
  have hC2 := hm2.obj hC (by omega)
  have hmw2 : Mod No w W2 := hmW.trans' hm2 (fun i hi f => by omega)
  have hst1 : (chgStore (.pointer (some ⟨w.heap.size + 1 + 1, 0, none⟩)) (.agg chg1)).run Tryz.prog W = .ok () W2 := by rw [hW2]; exact chgStore_row hT zSize (chg_size _ _ _ _ _ _) chg1_one
  have d0 : W2.cell? ⟨w.heap.size + 1 + 1, 0, none⟩ = some (.bool true) := (blk_cell hT2 0).trans rfl
  have hlT2 := lt_of_block hT2
  have HN := tenant_rd (w := W2) (s0 := (1, false)) (S := fun b => b < w.heap.size) B (by rw [hBn]; exact hC2) (hrow.keeps (hmw2.keeps (fun _ _ _ f => f))) (by omega) (by omega) (by omega) (by omega) (T := w.heap.size + 1 + 1) (o := 2) (by omega) (fun b hb => by omega) (pre := [.bool true, .string (str [])]) (post := []) (tt := 33) (by rw [hT2, chg1_eq]) rfl (by omega)
  obtain ⟨q, hq⟩ : ∃ q, q = rten B (1, false) := ⟨_, rfl⟩
  rw [← hq]
  rw [← hq] at HN
  obtain ⟨qt, at_, sh⟩ := q
  obtain ⟨eb, heb⟩ : ∃ eb, eb = (!sh && decide (at_ = B.length)) := ⟨_, rfl⟩
  have hif : ((at_, sh) = (n, false)) = (eb = true) := by
    rw [heb, hBn]
    cases sh <;> simp
  simp only [hif]
  obtain ⟨res, hres0⟩ : ∃ res, res = (if eb = true then (true, qt.name, qt, 0) else (false, [], Ten.zero, 70) : Bool × List UInt8 × Ten × Nat) := ⟨_, rfl⟩
  rw [← hres0]
  have HRES := Lib.hid hres0
  have HN := Lib.hid HN
  have HM := Lib.hid (And.intro hmw2 (And.intro hX2 (And.intro hs2 heb)))
  have HW := Lib.hid hW
  have hal := chgAlloc_run
  have hzr := chgZero_run
  have hpr := chgPut_run
  rw [hW] at hst1
  clear hmW hX hC hW hT hrow hc hB hn hq hsz heb hif hres0 hm2 hs2 hT2 hX2 hC2 hmw2 hW2 hB1 hBn hcl
  have c1 : ((w.alloc (.cells zChg 33)).alloc (.cells #[.slice (some ⟨b, o, none⟩) n c, .bool true, .int .i64 1, .bool false] 102)).cell? ⟨b, o, none⟩ = some (.int .u8 1) := (((Mod.refl No w).alloc _).alloc _).cell c0 id
  go_enter Tryz.func33, Tryz.ntmps33
  go_wp2_with fail
  refine HN.out.mono ?_
  rintro e w1 ⟨rfl, x, k0, kl, k1, k2, kr, k3⟩
  have hX1 := k3.obj HM.out.2.1 (by rintro (f | f) <;> omega)
  have hs2 := HM.out.2.2.1
  have hm1 : Mod No w w1 := HM.out.1.trans' k3 (fun i hi f => by rcases f with f | f <;> omega)
  rw [List.append_nil] at k2
  -- the name goes where a change's name is
  have hbl : w1.heap[w.heap.size + 1 + 1]? = some (.cells (cChg true [] x) 33 (0, 0)) := by rw [k2]; simp [cChg]
  have dn : w1.cell? ⟨w.heap.size + 1 + 1, 2, none⟩ = some (.string (str x.t.name)) := (blk_cell hbl 2).trans (cChg_at2 _ _ _)
  have d1 : w1.cell? ⟨w.heap.size + 1 + 1, 1, none⟩ = some (.string (str [])) := (blk_cell hbl 1).trans (cChg1 _ _ _)
  have f1 := blk_free hbl 1
  have hb2 : (w1.setCell ⟨w.heap.size + 1 + 1, 1, none⟩ (.string (str x.t.name))).heap[w.heap.size + 1 + 1]? = some (.cells (cChg true x.t.name x) 33 (0, 0)) := by
    rw [heap_setCell_row hbl, cChg_set1]
  obtain ⟨CX, hCX⟩ : ∃ CX, CX = cChg true x.t.name x := ⟨_, rfl⟩
  have hone : CX.all (·.oneCell') = true := by rw [hCX]; exact cChg_one _ _ kr
  have hCs : CX.size = 35 := by rw [hCX]; exact cChg_size _ _ _
  rw [← hCX] at hb2
  have hms : Mod (fun b => b = w.heap.size + 1 + 1) w1 (w1.setCell ⟨w.heap.size + 1 + 1, 1, none⟩ (.string (str x.t.name))) := Mod.setCell (p := ⟨w.heap.size + 1 + 1, 1, none⟩) (Mod.refl (fun b => b = w.heap.size + 1 + 1) w1) (.inr rfl) _
  have hC2 := hms.obj k1 (by omega)
  have hX2 := hms.obj hX1 (by omega)
  have hE := ended_ok hC2
  rw [← HM.out.2.2.2] at hE
  obtain ⟨w4, hw4⟩ : ∃ w4, w4 = w1.setCell ⟨w.heap.size + 1 + 1, 1, none⟩ (.string (str x.t.name)) := ⟨_, rfl⟩
  rw [← hw4] at hb2 hC2 hX2 hE hms
  have hld : ∀ q, (chgLoad (.pointer (some ⟨w.heap.size + 1 + 1, 0, none⟩))).run Tryz.prog (w4.drewN q) = .ok (.agg CX) (w4.drewN q) := fun q => chgLoad_run (W := w4.drewN q) hb2 hCs
  have hst : ∀ q CA, CA.size = 35 → CA.all (·.oneCell') = true → (chgStore (.pointer (some ⟨w.heap.size, 0, none⟩)) (.agg CA)).run Tryz.prog (w4.drewN q) = .ok () ((w4.drewN q).setRow w.heap.size CA) := fun q CA h1 h2 => chgStore_row (old := zChg) hX2 zSize h1 h2
  have hres : ∀ q CA, ((w4.drewN q).setRow w.heap.size CA).heap[w.heap.size]? = some (.cells CA 33 (0, 0)) := fun q CA => setRow_heap (w4.drewN q) w.heap.size _ CA _ _ hX2
  have hm4 : Mod No w w4 := hm1.trans' hms (fun i hi f => by omega)
  have hkr4 : x.Rows (fun b => w.heap.size + 3 ≤ b) w4 := (kr.imp (S' := fun b => w.heap.size + 3 ≤ b) (fun b hb => by omega)).keeps (hms.keeps (fun b _ hb f => by omega))
  have HE := Lib.hid hE
  have H4 := Lib.hid (And.intro hres (And.intro hm4 (And.intro hkr4 (And.intro k0 (And.intro hCX hCs)))))
  have HST := Lib.hid hst
  have HW4 := Lib.hid hw4
  have HO := Lib.hid hone
  have HLD := Lib.hid hld
  clear k0 kl k1 k2 kr k3 hX1 hs2 hm1 hbl hb2 hone hCs hms hC2 hX2 hE hw4 hld hst hres hm4 hkr4 hCX
  go_upto_region 9 with fail
  rw [← HW4.out]
  have fin : ∀ q5 CA, Mod No w ((w4.drewN q5).setRow w.heap.size CA) := fun q5 CA => (H4.out.2.1.drewN q5).trans' (setRow_mod CA) (fun i hi f => by omega)
  have HF := Lib.hid fin
  clear fin
  cases eb
  · go_wp2_with (first | (go_at_call 53; refine HE.out.mono ?_; rintro e w5 ⟨rfl, q5, rfl⟩; have hst5 := HST.out q5 zChg zSize zOne) | fail)
    refine bodyPost_ret (results_cell_tmp rfl _ _ w.heap.size 33 zChg (0, 0) _ rfl (H4.out.1 q5 zChg) Tryz.underlying33 rfl (by rw [chgSize, zSize])) rfl ?_
    rw [HRES.out, if_neg (by decide)]
    exact openChg_none rfl (HF.out _ _)
  · go_wp2_with (first | (go_at_call 53; refine HE.out.mono ?_; rintro e w5 ⟨rfl, q5, rfl⟩; have hst5 := HST.out q5 CX H4.out.2.2.2.2.2 HO.out; have hld5 := HLD.out q5) | fail)
    refine bodyPost_ret (results_cell_tmp rfl _ _ w.heap.size 33 CX (0, 0) _ rfl (H4.out.1 q5 CX) Tryz.underlying33 rfl (by rw [chgSize, H4.out.2.2.2.2.2])) rfl ?_
    rw [HRES.out, if_pos (by trivial)]
    refine ⟨x, ?_, H4.out.2.2.2.1, ?_, HF.out _ _⟩
    · rw [H4.out.2.2.2.2.1, H4.out.2.2.2.1]; rfl
    · have hk : Mod (fun b => b = w.heap.size) w4 ((w4.drewN q5).setRow w.heap.size CX) := ((Mod.refl (fun b => b = w.heap.size) w4).drewN q5).trans (setRow_mod CX)
      exact (H4.out.2.2.1.keeps (hk.keeps (fun b _ hb f => by omega))).imp (fun b hb => by omega)
theorem openChange_ok {w : World} {A : Option Addr} {c : Nat} (B : List UInt8) (hrow : RowAt (fun b => b < w.heap.size) w A (bcells B)) (hc : B.length ≤ c) (hB : B.length ≤ 100000000) :
    Calls Tryz.prog 33 #[.slice A B.length c] w (OpenChgP (ocg B) w) := by
  match B, hrow, hc, hB with
  | [], hrow, hc, hB => exact (openChange_nil A c).mono fun e w' ⟨h1, h2⟩ => openChg_none h1 h2
  | b :: r, hrow, hc, hB =>
    by_cases h1 : 1 < b.toNat
    · have : ocg (b :: r) = (false, [], .zero, 70) := by simp [ocg, h1]
      rw [this]
      exact (openChange_bad A _ c b r hrow rfl h1).mono fun e w' ⟨h1, h2⟩ => openChg_none h1 h2
    · by_cases h2 : b = 1
      · subst h2
        have : ocg (1 :: r) = (if (rten (1 :: r) (1, false)).2 = (r.length + 1, false) then (true, (rten (1 :: r) (1, false)).1.name, (rten (1 :: r) (1, false)).1, 0) else (false, [], .zero, 70)) := by
          have : ¬ 1 < (1 : UInt8).toNat := h1
          simp only [ocg, if_neg this, if_pos]
        rw [this]
        exact openChange_put A c r hrow hc hB
      · have hb0 : b = 0 := by
          apply UInt8.toNat_inj.1
          have : b.toNat ≠ 1 := fun e => h2 (UInt8.toNat_inj.1 e)
          simp; omega
        subst hb0
        have : ocg (0 :: r) = (if (rname (0 :: r) (1, false)).2 = (r.length + 1, false) then (false, (rname (0 :: r) (1, false)).1, .zero, 0) else (false, [], .zero, 70)) := by
          simp only [ocg, if_neg h1, if_neg h2]
        rw [this]
        refine (openChange_name A _ c r hrow rfl hc hB).mono fun e w' ⟨h1, h2⟩ => ?_
        by_cases hq : (rname (0 :: r) (1, false)).2 = (r.length + 1, false)
        · rw [if_pos hq] at h1 ⊢
          exact ⟨TV.zero, by rw [h1]; rfl, rfl, TV.zero_rows _ _, h2⟩
        · rw [if_neg hq] at h1 ⊢
          exact openChg_none h1 h2
end

end Go.Proofs.YtpkieilmlnlpkaaGreat
