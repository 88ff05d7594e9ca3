/-
  A chain of tests 'a.x == b.x && ..' that lies as one region of guarded operations: one law a test, over a frame that is not written out. No program in sight. Ours.
-/
import Derived.WalkKit
import Derived.ProofKit
import Derived.Deep.Draws
namespace Go.Proofs.Ytcnemhhbihhcfaa
set_option linter.unusedVariables false

variable {P : Program} {ops : Array Oper} {Q : Exit → Act → World → Prop}

/-- What is known of the frame between two tests: the two operands' addresses, and the slot d that holds what the tests so far came to. -/
structure CInv (n : Nat) (pA pB : Value) (a : Act) (d : Nat) (b : Bool) : Prop where
  size : a.tmps.size = n
  defers : a.defers = []
  t2 : a.tmps[2]? = some pA
  t3 : a.tmps[3]? = some pB
  tb : a.tmps[d]? = some (.bool b)

theorem put_size (a : Act) (d : Nat) (v : Value) : (a.put (some d) v).tmps.size = a.tmps.size := by simp [Act.put]
theorem put_get {a : Act} {d s : Nat} {v u : Value} (h : d ≠ s) (hs : a.tmps[s]? = some u) : (a.put (some d) v).tmps[s]? = some u := by
  simp only [Act.put, Array.getElem?_setIfInBounds, if_neg h]
  exact hs
theorem put_same {a : Act} {d : Nat} {v : Value} (h : d < a.tmps.size) : (a.put (some d) v).tmps[d]? = some v := by
  simp [Act.put, h]
theorem eval_get {a : Act} {s : Nat} {v : Value} (h : a.tmps[s]? = some v) : a.eval (.tmp s) = v := by
  simp [Act.eval, Array.getD_eq_getD_getElem?, h]
theorem want_of {o : Oper} {i d : Nat} {a : Act} {e : Bool} (hg : o.guard = some (i, true)) (hi : (ops[i]?).bind (·.dst) = some d) (ha : a.tmps[d]? = some (.bool e)) : Region.wanted o (yielded ops a.tmps) = e := by
  have hy : yielded ops a.tmps i = some e := by
    unfold yielded
    rw [hi]
    simp only [Option.bind_some, ha]
  unfold Region.wanted
  rw [hg]
  simp only [hy]
  cases e <;> rfl
theorem step_skip {o : Oper} {rest : List Oper} {a : Act} {w : World} (hw : Region.wanted o (yielded ops a.tmps) = false) (h : wpList P ops Q rest (a.put o.dst undef) w) : wpList P ops Q (o :: rest) a w := by
  unfold wpList
  rw [if_neg (by rw [hw]; decide)]
  exact h
theorem step_val {o : Oper} {rest : List Oper} {a : Act} {w w' : World} {v : Value} (hw : Region.wanted o (yielded ops a.tmps) = true) (hr : (execOp a.eval o).run P w = .ok (.value v) w') (h : wpList P ops Q rest (a.put o.dst v) w') : wpList P ops Q (o :: rest) a w := by
  refine wpList_step fun K hK => ?_
  rw [if_pos hw]
  unfold Oper.wp
  rw [hr]
  exact hK _ _ h
theorem step_calls {o : Oper} {rest : List Oper} {a : Act} {w : World} {f : Nat} {args : Array Value} {R : Value → World → Prop} (hw : Region.wanted o (yielded ops a.tmps) = true) (hr : (execOp a.eval o).run P w = .ok (.enter f args) w)
    (hc : Calls P f args w fun e w' => ∃ v, e = .returned v ∧ R v w') (h : ∀ v w', R v w' → wpList P ops Q rest (a.put o.dst v) w') : wpList P ops Q (o :: rest) a w := by
  refine wpList_step fun K hK => ?_
  rw [if_pos hw]
  unfold Oper.wp
  rw [hr]
  show Calls P f args w _
  refine hc.mono ?_
  rintro e w' ⟨v, rfl, hR⟩
  exact hK _ _ (h v w' hR)
theorem want_none {o : Oper} {a : Act} (h : o.guard = none) : Region.wanted o (yielded ops a.tmps) = true := by simp [Region.wanted, h]

theorem CInv.put {n : Nat} {pA pB : Value} {a : Act} {d : Nat} {b : Bool} (h : CInv n pA pB a d b) {s : Nat} (v : Value) (m : ¬ s = 2) (k : ¬ s = 3) (c : ¬ s = d) : CInv n pA pB (a.put (some s) v) d b :=
  ⟨by rw [put_size, h.size], h.defers, put_get m h.t2, put_get k h.t3, put_get c h.tb⟩
theorem CInv.at {n : Nat} {pA pB : Value} {a : Act} {d : Nat} {b : Bool} (h : CInv n pA pB a d b) {s : Nat} (v : Value) (l : s < n) : (a.put (some s) v).tmps[s]? = some v := put_same (by rw [h.size]; exact l)
/-- The five slots of a test, all apart. -/
def apart5 (n d s1 s2 s3 s4 s5 s6 d' : Nat) : Bool :=
  [s1, s2, s3, s4, s5, s6, d'].all (fun s => decide (s < n) && s != 2 && s != 3) && [s1, s2, s3, s4, s5].all (fun s => s != d) && s2 != s3 && s2 != s4

/-- What a test's five operations come to: the Boolean e' in slot s5, in a world of which R holds. -/
def Test5 (P : Program) (pA pB : Value) (o1 o2 o3 o4 o5 : Oper) (s1 s2 s3 s4 : Nat) (e' : Bool) (w : World) (R : World → Prop) : Prop :=
  ∃ q1 v1 q2 v2, (∀ ρ : Operand → Value, ρ (.tmp 2) = pA → (execOp ρ o1).run P w = .ok (.value q1) w) ∧ (∀ ρ : Operand → Value, ρ (.tmp s1) = q1 → (execOp ρ o2).run P w = .ok (.value v1) w) ∧
    (∀ ρ : Operand → Value, ρ (.tmp 3) = pB → (execOp ρ o3).run P w = .ok (.value q2) w) ∧ (∀ ρ : Operand → Value, ρ (.tmp s3) = q2 → (execOp ρ o4).run P w = .ok (.value v2) w) ∧
    ((∀ ρ : Operand → Value, ρ (.tmp s2) = v1 → ρ (.tmp s4) = v2 → (execOp ρ o5).run P w = .ok (.value (.bool e')) w) ∧ R w ∨
      ∃ f, (∀ ρ : Operand → Value, (∀ k, ρ (.func k) = .func (.func k) #[] #[]) → ρ (.tmp s2) = v1 → ρ (.tmp s4) = v2 → (execOp ρ o5).run P w = .ok (.enter f #[v1, v2]) w) ∧ Calls P f #[v1, v2] w fun e w' => e = .returned (.bool e') ∧ R w')

/-- One test more, behind a chain that came to e. -/
theorem chain_test {n i d s1 s2 s3 s4 s5 s6 d' : Nat} {pA pB : Value} {e e' : Bool} {a : Act} {w : World} {o1 o2 o3 o4 o5 o6 o7 : Oper} {rest : List Oper} {R : World → Prop}
    (ha : CInv n pA pB a d e) (hi : (ops[i]?).bind (·.dst) = some d) (hap : apart5 n d s1 s2 s3 s4 s5 s6 d' = true)
    (g1 : o1.guard = some (i, true)) (g2 : o2.guard = some (i, true)) (g3 : o3.guard = some (i, true)) (g4 : o4.guard = some (i, true)) (g5 : o5.guard = some (i, true)) (g6 : o6.guard = none) (g7 : o7.guard = none)
    (d1 : o1.dst = some s1) (d2 : o2.dst = some s2) (d3 : o3.dst = some s3) (d4 : o4.dst = some s4) (d5 : o5.dst = some s5) (d6 : o6.dst = some s6) (d7 : o7.dst = some d')
    (h6 : o6.op = .pick (.tmp d) (.tmp s5) (.const (.bool false))) (h7 : o7.op = .move (.tmp s6) ∨ o7.op = .assign (.tmp s6)) (ht : Test5 P pA pB o1 o2 o3 o4 o5 s1 s2 s3 s4 e' w R) (hR : R w)
    (h : ∀ a' w', CInv n pA pB a' d' (e && e') → R w' → wpList P ops Q rest a' w') : wpList P ops Q (o1 :: o2 :: o3 :: o4 :: o5 :: o6 :: o7 :: rest) a w := by
  simp only [apart5, List.all_cons, List.all_nil, Bool.and_true, Bool.and_eq_true, bne_iff_ne, ne_eq, decide_eq_true_eq] at hap
  obtain ⟨⟨⟨⟨⟨⟨l1, m1⟩, k1⟩, ⟨⟨l2, m2⟩, k2⟩, ⟨⟨l3, m3⟩, k3⟩, ⟨⟨l4, m4⟩, k4⟩, ⟨⟨l5, m5⟩, k5⟩, ⟨⟨l6, m6⟩, k6⟩, ⟨l7, m7⟩, k7⟩, c1, c2, c3, c4, c5⟩, x23⟩, x24⟩ := hap
  -- the last two operations, whatever the five left
  have tail : ∀ (b : Act) (w' : World) (u : Value), CInv n pA pB b d e → b.tmps[s5]? = some u → (e = true → u = .bool e') → R w' → wpList P ops Q (o6 :: o7 :: rest) b w' := by
    intro b w' u hb b5 hu hRw
    have r6 : (execOp b.eval o6).run P w' = .ok (.value (.bool (e && e'))) w' := by
      cases e with
      | true =>
        have hu' := hu rfl
        subst hu'
        simp only [execOp, h6, eval_get hb.tb, eval_get b5]
        simp [asBool]
      | false =>
        simp only [execOp, h6, eval_get hb.tb]
        simp [asBool, Act.eval]
    refine step_val (want_none g6) r6 ?_
    rw [d6]
    have e6 := hb.at (.bool (e && e')) l6
    have z6 : (b.put (some s6) (.bool (e && e'))).tmps.size = n ∧ (b.put (some s6) (.bool (e && e'))).defers = [] ∧ (b.put (some s6) (.bool (e && e'))).tmps[2]? = some pA ∧ (b.put (some s6) (.bool (e && e'))).tmps[3]? = some pB := ⟨by rw [put_size, hb.size], hb.defers, put_get m6 hb.t2, put_get k6 hb.t3⟩
    generalize b.put (some s6) (.bool (e && e')) = b6 at e6 z6 ⊢
    obtain ⟨y1, y2, y3, y4⟩ := z6
    have r7 : (execOp b6.eval o7).run P w' = .ok (.value (.bool (e && e'))) w' := by
      rcases h7 with h7 | h7 <;> simp only [execOp, h7, eval_get e6, Sem.run_pure]
    refine step_val (want_none g7) r7 ?_
    rw [d7]
    exact h _ _ ⟨by rw [put_size, y1], y2, put_get m7 y3, put_get k7 y4, put_same (by rw [y1]; exact l7)⟩ hRw
  cases e with
  | false =>
    refine step_skip (want_of g1 hi ha.tb) ?_
    rw [d1]
    have ha1 := ha.put undef m1 k1 c1
    generalize a.put (some s1) undef = a1 at ha1 ⊢
    refine step_skip (want_of g2 hi ha1.tb) ?_
    rw [d2]
    have ha2 := ha1.put undef m2 k2 c2
    generalize a1.put (some s2) undef = a2 at ha2 ⊢
    refine step_skip (want_of g3 hi ha2.tb) ?_
    rw [d3]
    have ha3 := ha2.put undef m3 k3 c3
    generalize a2.put (some s3) undef = a3 at ha3 ⊢
    refine step_skip (want_of g4 hi ha3.tb) ?_
    rw [d4]
    have ha4 := ha3.put undef m4 k4 c4
    generalize a3.put (some s4) undef = a4 at ha4 ⊢
    refine step_skip (want_of g5 hi ha4.tb) ?_
    rw [d5]
    have ha5 := ha4.put undef m5 k5 c5
    have e5 := ha4.at undef l5
    generalize a4.put (some s5) undef = a5 at ha5 e5 ⊢
    exact tail _ _ undef ha5 e5 (fun f => by cases f) hR
  | true =>
    obtain ⟨q1, v1, q2, v2, x1, x2, x3, x4, x5⟩ := ht
    refine step_val (want_of g1 hi ha.tb) (x1 _ (eval_get ha.t2)) ?_
    rw [d1]
    have ha1 := ha.put q1 m1 k1 c1
    have e1 := ha.at q1 l1
    generalize a.put (some s1) q1 = a1 at ha1 e1 ⊢
    refine step_val (want_of g2 hi ha1.tb) (x2 _ (eval_get e1)) ?_
    rw [d2]
    have ha2 := ha1.put v1 m2 k2 c2
    have e2 := ha1.at v1 l2
    generalize a1.put (some s2) v1 = a2 at ha2 e2 ⊢
    refine step_val (want_of g3 hi ha2.tb) (x3 _ (eval_get ha2.t3)) ?_
    rw [d3]
    have ha3 := ha2.put q2 m3 k3 c3
    have e3 := ha2.at q2 l3
    have e23 := put_get (v := q2) (fun f => x23 f.symm) e2
    generalize a2.put (some s3) q2 = a3 at ha3 e3 e23 ⊢
    refine step_val (want_of g4 hi ha3.tb) (x4 _ (eval_get e3)) ?_
    rw [d4]
    have ha4 := ha3.put v2 m4 k4 c4
    have e4 := ha3.at v2 l4
    have e24 := put_get (v := v2) (fun f => x24 f.symm) e23
    generalize a3.put (some s4) v2 = a4 at ha4 e4 e24 ⊢
    have fin : ∀ w', R w' → wpList P ops Q (o6 :: o7 :: rest) (a4.put o5.dst (.bool e')) w' := by
      intro w' hRw
      rw [d5]
      exact tail _ _ (.bool e') (ha4.put (.bool e') m5 k5 c5) (ha4.at (.bool e') l5) (fun _ => rfl) hRw
    rcases x5 with ⟨x5, hRw⟩ | ⟨f, x5, hcall⟩
    · exact step_val (want_of g5 hi ha4.tb) (x5 _ (eval_get e24) (eval_get e4)) (fin w hRw)
    · refine step_calls (R := fun v w' => v = .bool e' ∧ R w') (want_of g5 hi ha4.tb) (x5 _ (fun _ => rfl) (eval_get e24) (eval_get e4)) (hcall.mono fun e w' ⟨h1, h2⟩ => ⟨_, h1, rfl, h2⟩) ?_
      rintro v w' ⟨rfl, hRw⟩
      exact fin w' hRw

/-- The first test of a chain. -/
theorem chain_first {n s1 s2 s3 s4 s5 d' : Nat} {pA pB : Value} {e' : Bool} {a : Act} {w : World} {o1 o2 o3 o4 o5 o7 : Oper} {rest : List Oper} {R : World → Prop}
    (hs : a.tmps.size = n) (hdf : a.defers = []) (ha2 : a.tmps[2]? = some pA) (ha3 : a.tmps[3]? = some pB) (hap : apart5 n n s1 s2 s3 s4 s5 d' d' = true)
    (g1 : o1.guard = none) (g2 : o2.guard = none) (g3 : o3.guard = none) (g4 : o4.guard = none) (g5 : o5.guard = none) (g7 : o7.guard = none)
    (d1 : o1.dst = some s1) (d2 : o2.dst = some s2) (d3 : o3.dst = some s3) (d4 : o4.dst = some s4) (d5 : o5.dst = some s5) (d7 : o7.dst = some d')
    (h7 : o7.op = .move (.tmp s5)) (ht : Test5 P pA pB o1 o2 o3 o4 o5 s1 s2 s3 s4 e' w R)
    (h : ∀ a' w', CInv n pA pB a' d' e' → R w' → wpList P ops Q rest a' w') : wpList P ops Q (o1 :: o2 :: o3 :: o4 :: o5 :: o7 :: rest) a w := by
  simp only [apart5, List.all_cons, List.all_nil, Bool.and_true, Bool.and_eq_true, bne_iff_ne, ne_eq, decide_eq_true_eq] at hap
  obtain ⟨⟨⟨⟨⟨⟨l1, m1⟩, k1⟩, ⟨⟨l2, m2⟩, k2⟩, ⟨⟨l3, m3⟩, k3⟩, ⟨⟨l4, m4⟩, k4⟩, ⟨⟨l5, m5⟩, k5⟩, ⟨⟨l6, m6⟩, k6⟩, ⟨l7, m7⟩, k7⟩, c1, c2, c3, c4, c5⟩, x23⟩, x24⟩ := hap
  obtain ⟨q1, v1, q2, v2, x1, x2, x3, x4, x5⟩ := ht
  refine step_val (want_none g1) (x1 _ (eval_get ha2)) ?_
  rw [d1]
  have e1 := put_same (v := q1) (show s1 < a.tmps.size by rw [hs]; exact l1)
  have z1 : (a.put (some s1) q1).tmps.size = n ∧ (a.put (some s1) q1).defers = [] ∧ (a.put (some s1) q1).tmps[2]? = some pA ∧ (a.put (some s1) q1).tmps[3]? = some pB := ⟨by rw [put_size, hs], hdf, put_get m1 ha2, put_get k1 ha3⟩
  generalize a.put (some s1) q1 = a1 at e1 z1 ⊢
  obtain ⟨hs, hdf, ha2, ha3⟩ := z1
  refine step_val (want_none g2) (x2 _ (eval_get e1)) ?_
  rw [d2]
  have e2 := put_same (v := v1) (show s2 < a1.tmps.size by rw [hs]; exact l2)
  have z1 : (a1.put (some s2) v1).tmps.size = n ∧ (a1.put (some s2) v1).defers = [] ∧ (a1.put (some s2) v1).tmps[2]? = some pA ∧ (a1.put (some s2) v1).tmps[3]? = some pB := ⟨by rw [put_size, hs], hdf, put_get m2 ha2, put_get k2 ha3⟩
  generalize a1.put (some s2) v1 = a2 at e2 z1 ⊢
  obtain ⟨hs, hdf, ha2, ha3⟩ := z1
  refine step_val (want_none g3) (x3 _ (eval_get ha3)) ?_
  rw [d3]
  have e3 := put_same (v := q2) (show s3 < a2.tmps.size by rw [hs]; exact l3)
  have e23 := put_get (v := q2) (fun f => x23 f.symm) e2
  have z1 : (a2.put (some s3) q2).tmps.size = n ∧ (a2.put (some s3) q2).defers = [] ∧ (a2.put (some s3) q2).tmps[2]? = some pA ∧ (a2.put (some s3) q2).tmps[3]? = some pB := ⟨by rw [put_size, hs], hdf, put_get m3 ha2, put_get k3 ha3⟩
  generalize a2.put (some s3) q2 = a3 at e3 e23 z1 ⊢
  obtain ⟨hs, hdf, ha2, ha3⟩ := z1
  refine step_val (want_none g4) (x4 _ (eval_get e3)) ?_
  rw [d4]
  have e4 := put_same (v := v2) (show s4 < a3.tmps.size by rw [hs]; exact l4)
  have e24 := put_get (v := v2) (fun f => x24 f.symm) e23
  have z1 : (a3.put (some s4) v2).tmps.size = n ∧ (a3.put (some s4) v2).defers = [] ∧ (a3.put (some s4) v2).tmps[2]? = some pA ∧ (a3.put (some s4) v2).tmps[3]? = some pB := ⟨by rw [put_size, hs], hdf, put_get m4 ha2, put_get k4 ha3⟩
  generalize a3.put (some s4) v2 = a4 at e4 e24 z1 ⊢
  obtain ⟨hs, hdf, ha2, ha3⟩ := z1
  have fin : ∀ w', R w' → wpList P ops Q (o7 :: rest) (a4.put o5.dst (.bool e')) w' := by
    intro w' hRw
    rw [d5]
    have e5 := put_same (v := .bool e') (show s5 < a4.tmps.size by rw [hs]; exact l5)
    refine step_val (v := .bool e') (w' := w') (want_none g7) (by simp only [execOp, h7, eval_get e5, Sem.run_pure]) ?_
    rw [d7]
    exact h _ _ ⟨by rw [put_size, put_size, hs], hdf, put_get m7 (put_get m5 ha2), put_get k7 (put_get k5 ha3), put_same (by rw [put_size, hs]; exact l7)⟩ hRw
  rcases x5 with ⟨x5, hRw⟩ | ⟨f, x5, hcall⟩
  · exact step_val (want_none g5) (x5 _ (eval_get e24) (eval_get e4)) (fin w hRw)
  · refine step_calls (R := fun v w' => v = .bool e' ∧ R w') (want_none g5) (x5 _ (fun _ => rfl) (eval_get e24) (eval_get e4)) (hcall.mono fun e w' ⟨h1, h2⟩ => ⟨_, h1, rfl, h2⟩) ?_
    rintro v w' ⟨rfl, hRw⟩
    exact fin w' hRw

end Go.Proofs.Ytcnemhhbihhcfaa
