/-
  DfI, DfM, DfO, DfP, DfN, DfQ, DfR, DfS in one text (pack.py).
-/
import Derived.Test.YtkiikbajbikdeaaQ3
namespace Go.Proofs.Ytkiikbajbikdeaa

section
open Go.RowKit
set_option linter.unusedVariables false
attribute [local go_sem ↓] Go.wp_at_zero Go.wp_at_succ
attribute [local go_sem] stPair gtPair gtK8 gtM6
attribute [local go_sem high] neqPair
theorem rpairs_lens (A B : Option Addr) (n m c d : Nat) (w : World) (h : n ≠ m) :
    Calls Try.prog 44 #[.slice A n c, .slice B m d] w fun e w' => e = .returned (.bool false) ∧ ∃ n, w' = w.drewN n := by
  have hl : ((n : Int) != m) = true := by rw [bne_iff_ne]; omega
  go_enter Try.func44, Try.ntmps44
  go_wp2
  go_ret
  exact ⟨rfl, 0, rfl⟩
set_option maxRecDepth 100000 in
theorem rpairs_same {S S' : Nat → Prop} (A B : Option Addr) (c d : Nat) (xs ys : List Pr) (w : World) (hx : RowAt S w A (prCells xs)) (hy : RowAt S' w B (prCells ys)) (bx : xs.length ≤ 9223372036854775807) (m : Nat) (hm : m = ys.length) (hxy : xs.length = m) :
    Calls Try.prog 44 #[.slice A m c, .slice B m d] w fun e w' => e = .returned (.bool (decide (xs = ys))) ∧ ∃ n, w' = w.drewN n := by
  have hl : ((m : Int) != m) = false := by simp
  have bm : m ≤ 9223372036854775807 := by omega
  have HM := Lib.hid hm
  have HX := Lib.hid hxy
  clear hm hxy
  go_enter Try.func44, Try.ntmps44
  go_wp2
  go_loopw [5] (fun i wr => ∃ k : Nat, i = .int .i64 k ∧ k ≤ m ∧ (∀ j, j < k → xs[j]? = ys[j]?) ∧ ∃ n, wr = w.drewN n) (fun i _ => m - (intOf i).toNat)
  case atStart => exact ⟨0, rfl, by omega, by omega, 0, rfl⟩
  case round =>
    obtain ⟨k, rfl, hk, hpre, n, rfl⟩ := hrel
    have HP := Lib.hid hpre
    clear hpre
    by_cases hlt : k < m
    · have hkx : k < xs.length := by have := HX.out; omega
      have hky : k < ys.length := by have := HM.out; omega
      obtain ⟨p, hp⟩ : ∃ p, xs[k]? = some p := ⟨_, List.getElem?_eq_getElem hkx⟩
      obtain ⟨q, hq⟩ : ∃ q, ys[k]? = some q := ⟨_, List.getElem?_eq_getElem hky⟩
      obtain ⟨b, o, rfl, _, _, hx0, hx1⟩ := prs_at hx hp
      obtain ⟨b', o', rfl, _, _, hy0, hy1⟩ := prs_at hy hq
      have HPQ := Lib.hid (And.intro hp hq)
      clear hp hq hx hy
      have p1 : (0:Int) ≤ k := by omega
      have p2 : (k:Int) < m := by omega
      have hpq := pr_beq p q
      by_cases hd : p = q
      · have hb : ((p.a : Int) == q.a && (p.b : Int) == q.b) = true := by rw [hpq]; simpa using hd
        have hb' : (!((p.a : Int) == q.a && (p.b : Int) == q.b)) = false := by rw [hb]; rfl
        have hb2 : (!((p.a : Int) == q.a && (p.b : Int) == q.b)) = false := by rw [hb]; rfl
        have HD := Lib.hid hd
        clear hpq hd
        go_wp2
        go_quiet (fail)
        go_wp2
        all_goals first
          | (exfalso; have e := HD.out; subst e; simp_all; done)
          | (refine ⟨⟨k + 1, by go_num, by omega, ?_, _, by first | rfl | exact World.drewN_drewN ..⟩, by simp [intOf]; omega⟩
             intro j hj
             rcases Nat.lt_or_ge j k with h | h
             · exact HP.out j h
             · obtain rfl : j = k := by omega
               rw [HPQ.out.1, HPQ.out.2, HD.out])
      · have hb : ((p.a : Int) == q.a && (p.b : Int) == q.b) = false := by rw [hpq]; simpa using hd
        have hb2 : (!((p.a : Int) == q.a && (p.b : Int) == q.b)) = true := by rw [hb]; rfl
        have HD := Lib.hid hd
        clear hpq hd
        go_wp2
        go_quiet (fail)
        go_wp2
        all_goals first
          | (exfalso; simp_all; done)
          | (go_ret
             refine ⟨?_, _, by first | rfl | exact World.drewN_drewN ..⟩
             have : ¬ xs = ys := by
               intro e
               have h1 := HPQ.out.1
               rw [e, HPQ.out.2] at h1
               exact HD.out (Option.some.inj h1).symm
             simp [this])
    · have hk' : k = m := by omega
      subst hk'
      have : xs = ys := list_eq_of_get (by rw [HX.out, HM.out]) (fun j hj => HP.out j (by have := HX.out; omega))
      have H := Lib.hid this
      clear this
      go_wp2
      go_ret
      exact ⟨by simp [H.out], n, rfl⟩
theorem rpairs_ok {S S' : Nat → Prop} (A B : Option Addr) (c d : Nat) (xs ys : List Pr) (w : World) (hx : RowAt S w A (prCells xs)) (hy : RowAt S' w B (prCells ys)) (bx : xs.length ≤ 9223372036854775807) :
    Calls Try.prog 44 #[.slice A xs.length c, .slice B ys.length d] w fun e w' => e = .returned (.bool (decide (xs = ys))) ∧ ∃ n, w' = w.drewN n := by
  by_cases h : xs.length = ys.length
  · have := rpairs_same A B c d xs ys w hx hy bx ys.length rfl h
    rw [h]
    exact this
  · have hne : ¬ xs = ys := fun e => h (by rw [e])
    simp only [hne, decide_false]
    exact rpairs_lens A B _ _ c d w h
section
variable {P : Program} {ops : Array Oper} {Q : Exit → Act → World → Prop}
theorem want_not {o : Oper} {i d : Nat} {a : Act} {e : Bool} (hg : o.guard = some (i, false)) (hi : (ops[i]?).bind (·.dst) = some d) (ha : a.tmps[d]? = some (.bool e)) : Region.wanted o (yielded ops a.tmps) = !e := by
  have hy : yielded ops a.tmps i = some e := by
    unfold yielded
    rw [hi]
    simp only [Option.bind_some, ha]
  unfold Region.wanted
  rw [hg]
  simp only [hy]
  cases e <;> rfl
/-- One test more of 'a.x != b.x || ..': five guarded operations. -/
theorem chain5 {n i d s1 s2 s3 s4 s5 s6 d' : Nat} {pA pB : Value} {e e' : Bool} {a : Act} {w : World} {o1 o2 o3 o4 o5 : Oper} {rest : List Oper}
    (ha : CInv n pA pB a d e) (hi : (ops[i]?).bind (·.dst) = some d) (hap : apart5 n d s1 s2 s3 s4 s5 s6 d' = true)
    (g1 : o1.guard = some (i, false)) (g2 : o2.guard = some (i, false)) (g3 : o3.guard = some (i, false)) (g4 : o4.guard = some (i, false)) (g5 : o5.guard = some (i, false))
    (d1 : o1.dst = some s1) (d2 : o2.dst = some s2) (d3 : o3.dst = some s3) (d4 : o4.dst = some s4) (d5 : o5.dst = some s5)
    (ht : Test5 P pA pB o1 o2 o3 o4 o5 s1 s2 s3 s4 e' w (fun w' => w' = w))
    (h : ∀ a', CInv n pA pB a' d e → (∃ u, a'.tmps[s5]? = some u ∧ (e = false → u = .bool e')) → wpList P ops Q rest a' w) : wpList P ops Q (o1 :: o2 :: o3 :: o4 :: o5 :: rest) a w := by
  simp only [apart5, List.all_cons, List.all_nil, Bool.and_true, Bool.and_eq_true, bne_iff_ne, ne_eq, decide_eq_true_eq] at hap
  obtain ⟨⟨⟨⟨⟨⟨l1, m1⟩, k1⟩, ⟨⟨l2, m2⟩, k2⟩, ⟨⟨l3, m3⟩, k3⟩, ⟨⟨l4, m4⟩, k4⟩, ⟨⟨l5, m5⟩, k5⟩, ⟨⟨l6, m6⟩, k6⟩, ⟨l7, m7⟩, k7⟩, c1, c2, c3, c4, c5⟩, x23⟩, x24⟩ := hap
  have wn : ∀ {o : Oper} {b : Act}, o.guard = some (i, false) → b.tmps[d]? = some (.bool e) → Region.wanted o (yielded ops b.tmps) = !e := fun g hb => want_not g hi hb
  cases e with
  | true =>
    refine step_skip (wn g1 ha.tb) ?_
    rw [d1]
    have ha1 := ha.put undef m1 k1 c1
    generalize a.put (some s1) undef = a1 at ha1 ⊢
    refine step_skip (wn g2 ha1.tb) ?_
    rw [d2]
    have ha2 := ha1.put undef m2 k2 c2
    generalize a1.put (some s2) undef = a2 at ha2 ⊢
    refine step_skip (wn g3 ha2.tb) ?_
    rw [d3]
    have ha3 := ha2.put undef m3 k3 c3
    generalize a2.put (some s3) undef = a3 at ha3 ⊢
    refine step_skip (wn g4 ha3.tb) ?_
    rw [d4]
    have ha4 := ha3.put undef m4 k4 c4
    generalize a3.put (some s4) undef = a4 at ha4 ⊢
    refine step_skip (wn g5 ha4.tb) ?_
    rw [d5]
    exact h _ (ha4.put undef m5 k5 c5) ⟨_, ha4.at undef l5, fun f => by cases f⟩
  | false =>
    obtain ⟨q1, v1, q2, v2, x1, x2, x3, x4, x5⟩ := ht
    refine step_val (wn g1 ha.tb) (x1 _ (eval_get ha.t2)) ?_
    rw [d1]
    have ha1 := ha.put q1 m1 k1 c1
    have e1 := ha.at q1 l1
    generalize a.put (some s1) q1 = a1 at ha1 e1 ⊢
    refine step_val (wn g2 ha1.tb) (x2 _ (eval_get e1)) ?_
    rw [d2]
    have ha2 := ha1.put v1 m2 k2 c2
    have e2 := ha1.at v1 l2
    generalize a1.put (some s2) v1 = a2 at ha2 e2 ⊢
    refine step_val (wn g3 ha2.tb) (x3 _ (eval_get ha2.t3)) ?_
    rw [d3]
    have ha3 := ha2.put q2 m3 k3 c3
    have e3 := ha2.at q2 l3
    have e23 := put_get (v := q2) (fun f => x23 f.symm) e2
    generalize a2.put (some s3) q2 = a3 at ha3 e3 e23 ⊢
    refine step_val (wn g4 ha3.tb) (x4 _ (eval_get e3)) ?_
    rw [d4]
    have ha4 := ha3.put v2 m4 k4 c4
    have e4 := ha3.at v2 l4
    have e24 := put_get (v := v2) (fun f => x24 f.symm) e23
    generalize a3.put (some s4) v2 = a4 at ha4 e4 e24 ⊢
    rcases x5 with ⟨x5, _⟩ | ⟨f, x5, hcall⟩
    · refine step_val (wn g5 ha4.tb) (x5 _ (eval_get e24) (eval_get e4)) ?_
      rw [d5]
      exact h _ (ha4.put _ m5 k5 c5) ⟨_, ha4.at _ l5, fun _ => rfl⟩
    · refine step_calls (R := fun v w' => v = .bool e' ∧ w' = w) (wn g5 ha4.tb) (x5 _ (fun _ => rfl) (eval_get e24) (eval_get e4)) (hcall.mono fun e w' ⟨h1, h2⟩ => ⟨_, h1, rfl, h2⟩) ?_
      rintro v w' ⟨rfl, rfl⟩
      rw [d5]
      exact h _ (ha4.put _ m5 k5 c5) ⟨_, ha4.at _ l5, fun _ => rfl⟩
/-- .. its end: what it comes to, with what the tests so far came to. -/
theorem chain_pick {n d s5 s6 : Nat} {pA pB : Value} {e e' : Bool} {a : Act} {w : World} {o6 : Oper} {rest : List Oper} (ha : CInv n pA pB a d e) (hu : ∃ u, a.tmps[s5]? = some u ∧ (e = false → u = .bool e'))
    (m6 : (s6 != 2 && s6 != 3 && decide (s6 < n)) = true) (g6 : o6.guard = none) (d6 : o6.dst = some s6) (h6 : o6.op = .pick (.tmp d) (.const (.bool true)) (.tmp s5))
    (h : ∀ a', CInv n pA pB a' s6 (e || e') → wpList P ops Q rest a' w) : wpList P ops Q (o6 :: rest) a w := by
  simp only [Bool.and_eq_true, bne_iff_ne, ne_eq, decide_eq_true_eq] at m6
  obtain ⟨⟨m6, k6⟩, l6⟩ := m6
  obtain ⟨u, b5, hu⟩ := hu
  have r6 : (execOp a.eval o6).run P w = .ok (.value (.bool (e || e'))) w := by
    cases e with
    | true =>
      simp only [execOp, h6, eval_get ha.tb]
      simp [asBool, Act.eval]
    | false =>
      have hu' := hu rfl
      subst hu'
      simp only [execOp, h6, eval_get ha.tb, eval_get b5]
      simp [asBool]
  refine step_val (want_none g6) r6 ?_
  rw [d6]
  exact h _ ⟨by rw [put_size, ha.size], ha.defers, put_get m6 ha.t2, put_get k6 ha.t3, put_same (by rw [ha.size]; exact l6)⟩
theorem chain_move {n s6 d' : Nat} {pA pB : Value} {e : Bool} {a : Act} {w : World} {o7 : Oper} {rest : List Oper} (ha : CInv n pA pB a s6 e) (m : (d' != 2 && d' != 3 && decide (d' < n)) = true) (g7 : o7.guard = none) (d7 : o7.dst = some d') (h7 : o7.op = .move (.tmp s6))
    (h : ∀ a', CInv n pA pB a' d' e → wpList P ops Q rest a' w) : wpList P ops Q (o7 :: rest) a w := by
  simp only [Bool.and_eq_true, bne_iff_ne, ne_eq, decide_eq_true_eq] at m
  obtain ⟨⟨m7, k7⟩, l7⟩ := m
  refine step_val (v := .bool e) (w' := w) (want_none g7) (by simp only [execOp, h7, eval_get ha.tb, Sem.run_pure]) ?_
  rw [d7]
  exact h _ ⟨by rw [put_size, ha.size], ha.defers, put_get m7 ha.t2, put_get k7 ha.t3, put_same (by rw [ha.size]; exact l7)⟩
end
theorem cons_of_len {α : Type} {l : List α} {n : Nat} (h : l.length = n + 1) : ∃ a r, l = a :: r ∧ r.length = n := by
  cases l with
  | nil => simp at h
  | cons a r => exact ⟨a, r, rfl, by simpa using h⟩
theorem neq_of_eql {P : Program} {t : TypeId} {xs ys : Array Value} {d : Bool} {w : World} (h : (binOp .eql t (.agg xs) (.agg ys)).run P w = .ok (.bool d) w) : (binOp .neq t (.agg xs) (.agg ys)).run P w = .ok (.bool (!d)) w := by
  rw [run_eql_struct] at h
  rw [run_neq_struct]
  cases he : (Op.equalIn 10000 t (.agg xs) (.agg ys)).run P w with
  | ok b w' =>
    rw [he] at h
    simp only [Result.andThen, Result.ok.injEq, Value.bool.injEq] at h ⊢
    exact ⟨by rw [h.1], h.2⟩
  | _ => rw [he] at h; simp [Result.andThen] at h
/-- The tests of the fields that are no lists. -/
def plainDiff (a b : Ten) : Bool := (((((((((((((!decide (a.name = b.name)) || (!((a.vni : Int) == b.vni))) || (!decide (a.key = b.key))) || (!((a.vtep : Int) == b.vtep))) || (!decide (a.vmac = b.vmac))) || (!decide (a.host = b.host))) || (!((a.lo : Int) == b.lo))) || (!((a.hi : Int) == b.hi))) || (!(a.filter == b.filter))) || (!(a.sess == b.sess))) || (!(a.queue == b.queue))) || (!((a.rate : Int) == b.rate))) || (!((a.burst : Int) == b.burst)))
theorem plain_beq (a b : Ten) : (!plainDiff a b && decide (a.pool = b.pool) && decide (a.statics = b.statics) && decide (a.twices = b.twices)) = decide (a = b) := by
  obtain ⟨a0, a1, a2, a3, a4, a5, a6, a7, a8, a9, a10, a11, a12, a13, a14, a15⟩ := a
  obtain ⟨b0, b1, b2, b3, b4, b5, b6, b7, b8, b9, b10, b11, b12, b13, b14, b15⟩ := b
  rw [Bool.eq_iff_iff]
  simp only [plainDiff, nat_beq, Bool.not_or, Bool.not_not, Bool.and_eq_true, decide_eq_true_eq, beq_iff_eq, Ten.mk.injEq]
  constructor
  · rintro ⟨⟨⟨⟨⟨⟨⟨⟨⟨⟨⟨⟨⟨⟨⟨h0, h1⟩, h2⟩, h3⟩, h4⟩, h5⟩, h6⟩, h7⟩, h8⟩, h9⟩, h10⟩, h11⟩, h12⟩, h13⟩, h14⟩, h15⟩
    exact ⟨h0, h1, h2, h3, h4, h5, h13, h6, h7, h8, h14, h15, h9, h10, h11, h12⟩
  · rintro ⟨h0, h1, h2, h3, h4, h5, h13, h6, h7, h8, h14, h15, h9, h10, h11, h12⟩
    exact ⟨⟨⟨⟨⟨⟨⟨⟨⟨⟨⟨⟨⟨⟨⟨h0, h1⟩, h2⟩, h3⟩, h4⟩, h5⟩, h6⟩, h7⟩, h8⟩, h9⟩, h10⟩, h11⟩, h12⟩, h13⟩, h14⟩, h15⟩
set_option maxRecDepth 100000 in
set_option maxHeartbeats 2000000 in
theorem rsame_ok {S S' : Nat → Prop} {w : World} (a b : Ten) (va vb : Value) (ha : TenV S w a va) (hb : TenV S' w b vb) (la : a.pool.length ≤ 9223372036854775807) (ls : a.statics.length ≤ 9223372036854775807) (lt : a.twices.length ≤ 9223372036854775807) :
    Calls Try.prog 33 #[va, vb] w fun e w' => e = .returned (.bool (decide (a = b))) ∧ Mod No w w' := by
  obtain ⟨P, p, Q, q, R, r, rfl, h1, h2, h3⟩ := ha.val
  obtain ⟨P', p', Q', q', R', r', rfl, h1', h2', h3'⟩ := hb.val
  obtain ⟨CA, hCA⟩ : ∃ CA, CA = a.cells (.slice P a.pool.length p) (.slice Q a.statics.length q) (.slice R a.twices.length r) := ⟨_, rfl⟩
  obtain ⟨CB, hCB⟩ : ∃ CB, CB = b.cells (.slice P' b.pool.length p') (.slice Q' b.statics.length q') (.slice R' b.twices.length r') := ⟨_, rfl⟩
  have bA := box_ten CA (by rw [hCA]; rfl)
  have bB := box_ten CB (by rw [hCB]; rfl)
  rw [← hCA, ← hCB]
  have HA := Lib.hid hCA
  have HB := Lib.hid hCB
  have HH := Lib.hid (And.intro h1 (And.intro h2 (And.intro h3 (And.intro h1' (And.intro h2' h3')))))
  clear ha hb h1 h2 h3 h1' h2' h3' hCA hCB
  go_enter Try.func33, Try.ntmps33
  go_upto_region 1 with fail
  refine wp_region_lit ?_
  obtain ⟨W, hW⟩ : ∃ W, W = (w.alloc (.cells CA 34)).alloc (.cells CB 34) := ⟨_, rfl⟩
  show wpList _ _ _ _ _ ((w.alloc (.cells CA 34)).alloc (.cells CB 34))
  rw [← hW]
  have HW : Hid (W.heap[w.heap.size]? = some (.cells CA 34 (0, 0)) ∧ W.heap[w.heap.size + 1]? = some (.cells CB 34 (0, 0)) ∧ Mod No w W) := Lib.hid ⟨by rw [hW]; exact at20 w _ _, by rw [hW]; exact at21 w _ _, by rw [hW]; exact ((Mod.refl _ _).alloc _).alloc _⟩
  clear hW bA bB
  refine chain_first (n := 134) (pA := .pointer (some ⟨w.heap.size, 0, none⟩)) (pB := .pointer (some ⟨w.heap.size + 1, 0, none⟩)) (s1 := 6) (s2 := 7) (s3 := 8) (s4 := 9) (s5 := 10) (d' := 11) (e' := (!decide (a.name = b.name))) (R := fun w' => w' = W) rfl rfl rfl rfl rfl rfl rfl rfl rfl rfl rfl rfl rfl rfl rfl rfl rfl rfl ?_ ?_
  ·
    have d1 := blk_cell HW.out.1
    have d2 := blk_cell HW.out.2.1
    have ca0 : CA[0]? = some (Value.string (str a.name)) := by rw [HA.out]; rfl
    have cb0 : CB[0]? = some (Value.string (str b.name)) := by rw [HB.out]; rfl
    refine ⟨.pointer (some ⟨w.heap.size, 0, none⟩), (.string (str a.name)), .pointer (some ⟨w.heap.size + 1, 0, none⟩), (.string (str b.name)), ?_, ?_, ?_, ?_, .inl ⟨?_, rfl⟩⟩
    · intro ρ h; simp only [execOp, h]; go_simp
    · intro ρ h; simp only [execOp, h]; go_simp
    · intro ρ h; simp only [execOp, h]; go_simp
    · intro ρ h; simp only [execOp, h]; go_simp
    · intro ρ h1 h2; simp only [execOp, h1, h2]; go_simp; rw [← str_beq]
  intro a0 W2 hinv hW2
  rw [hW2]
  clear hW2 W2
  refine chain5 (i := 5) (s1 := 12) (s2 := 13) (s3 := 14) (s4 := 15) (s5 := 16) (s6 := 17) (d' := 18) (e' := (!((a.vni : Int) == b.vni))) hinv rfl rfl rfl rfl rfl rfl rfl rfl rfl rfl rfl rfl ?_ ?_
  ·
    have d1 := blk_cell HW.out.1
    have d2 := blk_cell HW.out.2.1
    have ca1 : CA[1]? = some (Value.int .u32 (a.vni : Int)) := by rw [HA.out]; rfl
    have cb1 : CB[1]? = some (Value.int .u32 (b.vni : Int)) := by rw [HB.out]; rfl
    refine ⟨.pointer (some ⟨w.heap.size, 1, none⟩), (.int .u32 (a.vni : Int)), .pointer (some ⟨w.heap.size + 1, 1, none⟩), (.int .u32 (b.vni : Int)), ?_, ?_, ?_, ?_, .inl ⟨?_, rfl⟩⟩
    · intro ρ h; simp only [execOp, h]; go_simp
    · intro ρ h; simp only [execOp, h]; go_simp
    · intro ρ h; simp only [execOp, h]; go_simp
    · intro ρ h; simp only [execOp, h]; go_simp
    · intro ρ h1 h2; simp only [execOp, h1, h2]; go_simp; rfl
  intro a1 hinv hu
  refine chain_pick (s6 := 17) hinv hu rfl rfl rfl rfl ?_
  clear hinv hu
  intro a1 hinv
  refine chain_move (d' := 18) hinv rfl rfl rfl rfl ?_
  clear hinv
  intro a1 hinv
  refine chain5 (i := 12) (s1 := 19) (s2 := 20) (s3 := 21) (s4 := 22) (s5 := 23) (s6 := 24) (d' := 25) (e' := (!decide (a.key = b.key))) hinv rfl rfl rfl rfl rfl rfl rfl rfl rfl rfl rfl rfl ?_ ?_
  ·
    have d1 := blk_cell HW.out.1
    have d2 := blk_cell HW.out.2.1
    have ca2 : CA[2]? = some (Value.int .u8 (a.key.b0.toNat : Int)) := by rw [HA.out]; rfl
    have cb2 : CB[2]? = some (Value.int .u8 (b.key.b0.toNat : Int)) := by rw [HB.out]; rfl
    have ca3 : CA[3]? = some (Value.int .u8 (a.key.b1.toNat : Int)) := by rw [HA.out]; rfl
    have cb3 : CB[3]? = some (Value.int .u8 (b.key.b1.toNat : Int)) := by rw [HB.out]; rfl
    have ca4 : CA[4]? = some (Value.int .u8 (a.key.b2.toNat : Int)) := by rw [HA.out]; rfl
    have cb4 : CB[4]? = some (Value.int .u8 (b.key.b2.toNat : Int)) := by rw [HB.out]; rfl
    have ca5 : CA[5]? = some (Value.int .u8 (a.key.b3.toNat : Int)) := by rw [HA.out]; rfl
    have cb5 : CB[5]? = some (Value.int .u8 (b.key.b3.toNat : Int)) := by rw [HB.out]; rfl
    have ca6 : CA[6]? = some (Value.int .u8 (a.key.b4.toNat : Int)) := by rw [HA.out]; rfl
    have cb6 : CB[6]? = some (Value.int .u8 (b.key.b4.toNat : Int)) := by rw [HB.out]; rfl
    have ca7 : CA[7]? = some (Value.int .u8 (a.key.b5.toNat : Int)) := by rw [HA.out]; rfl
    have cb7 : CB[7]? = some (Value.int .u8 (b.key.b5.toNat : Int)) := by rw [HB.out]; rfl
    have ca8 : CA[8]? = some (Value.int .u8 (a.key.b6.toNat : Int)) := by rw [HA.out]; rfl
    have cb8 : CB[8]? = some (Value.int .u8 (b.key.b6.toNat : Int)) := by rw [HB.out]; rfl
    have ca9 : CA[9]? = some (Value.int .u8 (a.key.b7.toNat : Int)) := by rw [HA.out]; rfl
    have cb9 : CB[9]? = some (Value.int .u8 (b.key.b7.toNat : Int)) := by rw [HB.out]; rfl
    refine ⟨.pointer (some ⟨w.heap.size, 2, none⟩), (.agg #[.int .u8 (a.key.b0.toNat : Int), .int .u8 (a.key.b1.toNat : Int), .int .u8 (a.key.b2.toNat : Int), .int .u8 (a.key.b3.toNat : Int), .int .u8 (a.key.b4.toNat : Int), .int .u8 (a.key.b5.toNat : Int), .int .u8 (a.key.b6.toNat : Int), .int .u8 (a.key.b7.toNat : Int)]), .pointer (some ⟨w.heap.size + 1, 2, none⟩), (.agg #[.int .u8 (b.key.b0.toNat : Int), .int .u8 (b.key.b1.toNat : Int), .int .u8 (b.key.b2.toNat : Int), .int .u8 (b.key.b3.toNat : Int), .int .u8 (b.key.b4.toNat : Int), .int .u8 (b.key.b5.toNat : Int), .int .u8 (b.key.b6.toNat : Int), .int .u8 (b.key.b7.toNat : Int)]), ?_, ?_, ?_, ?_, .inl ⟨?_, rfl⟩⟩
    · intro ρ h; simp only [execOp, h]; go_simp
    · intro ρ h; simp only [execOp, h]; go_simp
    · intro ρ h; simp only [execOp, h]; go_simp
    · intro ρ h; simp only [execOp, h]; go_simp
    · intro ρ h1 h2; have hn := neq_of_eql (eqK8 a.key b.key W); rw [run_neq_struct] at hn; simp only [execOp, h1, h2]; go_simp
  intro a2 hinv hu
  refine chain_pick (s6 := 24) hinv hu rfl rfl rfl rfl ?_
  clear hinv hu
  intro a2 hinv
  refine chain_move (d' := 25) hinv rfl rfl rfl rfl ?_
  clear hinv
  intro a2 hinv
  refine chain5 (i := 19) (s1 := 26) (s2 := 27) (s3 := 28) (s4 := 29) (s5 := 30) (s6 := 31) (d' := 32) (e' := (!((a.vtep : Int) == b.vtep))) hinv rfl rfl rfl rfl rfl rfl rfl rfl rfl rfl rfl rfl ?_ ?_
  ·
    have d1 := blk_cell HW.out.1
    have d2 := blk_cell HW.out.2.1
    have ca10 : CA[10]? = some (Value.int .u32 (a.vtep : Int)) := by rw [HA.out]; rfl
    have cb10 : CB[10]? = some (Value.int .u32 (b.vtep : Int)) := by rw [HB.out]; rfl
    refine ⟨.pointer (some ⟨w.heap.size, 10, none⟩), (.int .u32 (a.vtep : Int)), .pointer (some ⟨w.heap.size + 1, 10, none⟩), (.int .u32 (b.vtep : Int)), ?_, ?_, ?_, ?_, .inl ⟨?_, rfl⟩⟩
    · intro ρ h; simp only [execOp, h]; go_simp
    · intro ρ h; simp only [execOp, h]; go_simp
    · intro ρ h; simp only [execOp, h]; go_simp
    · intro ρ h; simp only [execOp, h]; go_simp
    · intro ρ h1 h2; simp only [execOp, h1, h2]; go_simp; rfl
  intro a3 hinv hu
  refine chain_pick (s6 := 31) hinv hu rfl rfl rfl rfl ?_
  clear hinv hu
  intro a3 hinv
  refine chain_move (d' := 32) hinv rfl rfl rfl rfl ?_
  clear hinv
  intro a3 hinv
  refine chain5 (i := 26) (s1 := 33) (s2 := 34) (s3 := 35) (s4 := 36) (s5 := 37) (s6 := 38) (d' := 39) (e' := (!decide (a.vmac = b.vmac))) hinv rfl rfl rfl rfl rfl rfl rfl rfl rfl rfl rfl rfl ?_ ?_
  ·
    have d1 := blk_cell HW.out.1
    have d2 := blk_cell HW.out.2.1
    have ca11 : CA[11]? = some (Value.int .u8 (a.vmac.b0.toNat : Int)) := by rw [HA.out]; rfl
    have cb11 : CB[11]? = some (Value.int .u8 (b.vmac.b0.toNat : Int)) := by rw [HB.out]; rfl
    have ca12 : CA[12]? = some (Value.int .u8 (a.vmac.b1.toNat : Int)) := by rw [HA.out]; rfl
    have cb12 : CB[12]? = some (Value.int .u8 (b.vmac.b1.toNat : Int)) := by rw [HB.out]; rfl
    have ca13 : CA[13]? = some (Value.int .u8 (a.vmac.b2.toNat : Int)) := by rw [HA.out]; rfl
    have cb13 : CB[13]? = some (Value.int .u8 (b.vmac.b2.toNat : Int)) := by rw [HB.out]; rfl
    have ca14 : CA[14]? = some (Value.int .u8 (a.vmac.b3.toNat : Int)) := by rw [HA.out]; rfl
    have cb14 : CB[14]? = some (Value.int .u8 (b.vmac.b3.toNat : Int)) := by rw [HB.out]; rfl
    have ca15 : CA[15]? = some (Value.int .u8 (a.vmac.b4.toNat : Int)) := by rw [HA.out]; rfl
    have cb15 : CB[15]? = some (Value.int .u8 (b.vmac.b4.toNat : Int)) := by rw [HB.out]; rfl
    have ca16 : CA[16]? = some (Value.int .u8 (a.vmac.b5.toNat : Int)) := by rw [HA.out]; rfl
    have cb16 : CB[16]? = some (Value.int .u8 (b.vmac.b5.toNat : Int)) := by rw [HB.out]; rfl
    refine ⟨.pointer (some ⟨w.heap.size, 11, none⟩), (.agg #[.int .u8 (a.vmac.b0.toNat : Int), .int .u8 (a.vmac.b1.toNat : Int), .int .u8 (a.vmac.b2.toNat : Int), .int .u8 (a.vmac.b3.toNat : Int), .int .u8 (a.vmac.b4.toNat : Int), .int .u8 (a.vmac.b5.toNat : Int)]), .pointer (some ⟨w.heap.size + 1, 11, none⟩), (.agg #[.int .u8 (b.vmac.b0.toNat : Int), .int .u8 (b.vmac.b1.toNat : Int), .int .u8 (b.vmac.b2.toNat : Int), .int .u8 (b.vmac.b3.toNat : Int), .int .u8 (b.vmac.b4.toNat : Int), .int .u8 (b.vmac.b5.toNat : Int)]), ?_, ?_, ?_, ?_, .inl ⟨?_, rfl⟩⟩
    · intro ρ h; simp only [execOp, h]; go_simp
    · intro ρ h; simp only [execOp, h]; go_simp
    · intro ρ h; simp only [execOp, h]; go_simp
    · intro ρ h; simp only [execOp, h]; go_simp
    · intro ρ h1 h2; have hn := neq_of_eql (eqM6 a.vmac b.vmac W); rw [run_neq_struct] at hn; simp only [execOp, h1, h2]; go_simp
  intro a4 hinv hu
  refine chain_pick (s6 := 38) hinv hu rfl rfl rfl rfl ?_
  clear hinv hu
  intro a4 hinv
  refine chain_move (d' := 39) hinv rfl rfl rfl rfl ?_
  clear hinv
  intro a4 hinv
  refine chain5 (i := 33) (s1 := 40) (s2 := 41) (s3 := 42) (s4 := 43) (s5 := 44) (s6 := 45) (d' := 46) (e' := (!decide (a.host = b.host))) hinv rfl rfl rfl rfl rfl rfl rfl rfl rfl rfl rfl rfl ?_ ?_
  ·
    have d1 := blk_cell HW.out.1
    have d2 := blk_cell HW.out.2.1
    have ca17 : CA[17]? = some (Value.int .u8 (a.host.b0.toNat : Int)) := by rw [HA.out]; rfl
    have cb17 : CB[17]? = some (Value.int .u8 (b.host.b0.toNat : Int)) := by rw [HB.out]; rfl
    have ca18 : CA[18]? = some (Value.int .u8 (a.host.b1.toNat : Int)) := by rw [HA.out]; rfl
    have cb18 : CB[18]? = some (Value.int .u8 (b.host.b1.toNat : Int)) := by rw [HB.out]; rfl
    have ca19 : CA[19]? = some (Value.int .u8 (a.host.b2.toNat : Int)) := by rw [HA.out]; rfl
    have cb19 : CB[19]? = some (Value.int .u8 (b.host.b2.toNat : Int)) := by rw [HB.out]; rfl
    have ca20 : CA[20]? = some (Value.int .u8 (a.host.b3.toNat : Int)) := by rw [HA.out]; rfl
    have cb20 : CB[20]? = some (Value.int .u8 (b.host.b3.toNat : Int)) := by rw [HB.out]; rfl
    have ca21 : CA[21]? = some (Value.int .u8 (a.host.b4.toNat : Int)) := by rw [HA.out]; rfl
    have cb21 : CB[21]? = some (Value.int .u8 (b.host.b4.toNat : Int)) := by rw [HB.out]; rfl
    have ca22 : CA[22]? = some (Value.int .u8 (a.host.b5.toNat : Int)) := by rw [HA.out]; rfl
    have cb22 : CB[22]? = some (Value.int .u8 (b.host.b5.toNat : Int)) := by rw [HB.out]; rfl
    refine ⟨.pointer (some ⟨w.heap.size, 17, none⟩), (.agg #[.int .u8 (a.host.b0.toNat : Int), .int .u8 (a.host.b1.toNat : Int), .int .u8 (a.host.b2.toNat : Int), .int .u8 (a.host.b3.toNat : Int), .int .u8 (a.host.b4.toNat : Int), .int .u8 (a.host.b5.toNat : Int)]), .pointer (some ⟨w.heap.size + 1, 17, none⟩), (.agg #[.int .u8 (b.host.b0.toNat : Int), .int .u8 (b.host.b1.toNat : Int), .int .u8 (b.host.b2.toNat : Int), .int .u8 (b.host.b3.toNat : Int), .int .u8 (b.host.b4.toNat : Int), .int .u8 (b.host.b5.toNat : Int)]), ?_, ?_, ?_, ?_, .inl ⟨?_, rfl⟩⟩
    · intro ρ h; simp only [execOp, h]; go_simp
    · intro ρ h; simp only [execOp, h]; go_simp
    · intro ρ h; simp only [execOp, h]; go_simp
    · intro ρ h; simp only [execOp, h]; go_simp
    · intro ρ h1 h2; have hn := neq_of_eql (eqM6 a.host b.host W); rw [run_neq_struct] at hn; simp only [execOp, h1, h2]; go_simp
  intro a5 hinv hu
  refine chain_pick (s6 := 45) hinv hu rfl rfl rfl rfl ?_
  clear hinv hu
  intro a5 hinv
  refine chain_move (d' := 46) hinv rfl rfl rfl rfl ?_
  clear hinv
  intro a5 hinv
  refine chain5 (i := 40) (s1 := 47) (s2 := 48) (s3 := 49) (s4 := 50) (s5 := 51) (s6 := 52) (d' := 53) (e' := (!((a.lo : Int) == b.lo))) hinv rfl rfl rfl rfl rfl rfl rfl rfl rfl rfl rfl rfl ?_ ?_
  ·
    have d1 := blk_cell HW.out.1
    have d2 := blk_cell HW.out.2.1
    have ca24 : CA[24]? = some (Value.int .u16 (a.lo : Int)) := by rw [HA.out]; rfl
    have cb24 : CB[24]? = some (Value.int .u16 (b.lo : Int)) := by rw [HB.out]; rfl
    refine ⟨.pointer (some ⟨w.heap.size, 24, none⟩), (.int .u16 (a.lo : Int)), .pointer (some ⟨w.heap.size + 1, 24, none⟩), (.int .u16 (b.lo : Int)), ?_, ?_, ?_, ?_, .inl ⟨?_, rfl⟩⟩
    · intro ρ h; simp only [execOp, h]; go_simp
    · intro ρ h; simp only [execOp, h]; go_simp
    · intro ρ h; simp only [execOp, h]; go_simp
    · intro ρ h; simp only [execOp, h]; go_simp
    · intro ρ h1 h2; simp only [execOp, h1, h2]; go_simp; rfl
  intro a6 hinv hu
  refine chain_pick (s6 := 52) hinv hu rfl rfl rfl rfl ?_
  clear hinv hu
  intro a6 hinv
  refine chain_move (d' := 53) hinv rfl rfl rfl rfl ?_
  clear hinv
  intro a6 hinv
  refine chain5 (i := 47) (s1 := 54) (s2 := 55) (s3 := 56) (s4 := 57) (s5 := 58) (s6 := 59) (d' := 60) (e' := (!((a.hi : Int) == b.hi))) hinv rfl rfl rfl rfl rfl rfl rfl rfl rfl rfl rfl rfl ?_ ?_
  ·
    have d1 := blk_cell HW.out.1
    have d2 := blk_cell HW.out.2.1
    have ca25 : CA[25]? = some (Value.int .u16 (a.hi : Int)) := by rw [HA.out]; rfl
    have cb25 : CB[25]? = some (Value.int .u16 (b.hi : Int)) := by rw [HB.out]; rfl
    refine ⟨.pointer (some ⟨w.heap.size, 25, none⟩), (.int .u16 (a.hi : Int)), .pointer (some ⟨w.heap.size + 1, 25, none⟩), (.int .u16 (b.hi : Int)), ?_, ?_, ?_, ?_, .inl ⟨?_, rfl⟩⟩
    · intro ρ h; simp only [execOp, h]; go_simp
    · intro ρ h; simp only [execOp, h]; go_simp
    · intro ρ h; simp only [execOp, h]; go_simp
    · intro ρ h; simp only [execOp, h]; go_simp
    · intro ρ h1 h2; simp only [execOp, h1, h2]; go_simp; rfl
  intro a7 hinv hu
  refine chain_pick (s6 := 59) hinv hu rfl rfl rfl rfl ?_
  clear hinv hu
  intro a7 hinv
  refine chain_move (d' := 60) hinv rfl rfl rfl rfl ?_
  clear hinv
  intro a7 hinv
  refine chain5 (i := 54) (s1 := 61) (s2 := 62) (s3 := 63) (s4 := 64) (s5 := 65) (s6 := 66) (d' := 67) (e' := (!(a.filter == b.filter))) hinv rfl rfl rfl rfl rfl rfl rfl rfl rfl rfl rfl rfl ?_ ?_
  ·
    have d1 := blk_cell HW.out.1
    have d2 := blk_cell HW.out.2.1
    have ca26 : CA[26]? = some (Value.int .i64 a.filter) := by rw [HA.out]; rfl
    have cb26 : CB[26]? = some (Value.int .i64 b.filter) := by rw [HB.out]; rfl
    refine ⟨.pointer (some ⟨w.heap.size, 26, none⟩), (.int .i64 a.filter), .pointer (some ⟨w.heap.size + 1, 26, none⟩), (.int .i64 b.filter), ?_, ?_, ?_, ?_, .inl ⟨?_, rfl⟩⟩
    · intro ρ h; simp only [execOp, h]; go_simp
    · intro ρ h; simp only [execOp, h]; go_simp
    · intro ρ h; simp only [execOp, h]; go_simp
    · intro ρ h; simp only [execOp, h]; go_simp
    · intro ρ h1 h2; simp only [execOp, h1, h2]; go_simp; rfl
  intro a8 hinv hu
  refine chain_pick (s6 := 66) hinv hu rfl rfl rfl rfl ?_
  clear hinv hu
  intro a8 hinv
  refine chain_move (d' := 67) hinv rfl rfl rfl rfl ?_
  clear hinv
  intro a8 hinv
  refine chain5 (i := 61) (s1 := 68) (s2 := 69) (s3 := 70) (s4 := 71) (s5 := 72) (s6 := 73) (d' := 74) (e' := (!(a.sess == b.sess))) hinv rfl rfl rfl rfl rfl rfl rfl rfl rfl rfl rfl rfl ?_ ?_
  ·
    have d1 := blk_cell HW.out.1
    have d2 := blk_cell HW.out.2.1
    have ca29 : CA[29]? = some (Value.int .i64 a.sess) := by rw [HA.out]; rfl
    have cb29 : CB[29]? = some (Value.int .i64 b.sess) := by rw [HB.out]; rfl
    refine ⟨.pointer (some ⟨w.heap.size, 29, none⟩), (.int .i64 a.sess), .pointer (some ⟨w.heap.size + 1, 29, none⟩), (.int .i64 b.sess), ?_, ?_, ?_, ?_, .inl ⟨?_, rfl⟩⟩
    · intro ρ h; simp only [execOp, h]; go_simp
    · intro ρ h; simp only [execOp, h]; go_simp
    · intro ρ h; simp only [execOp, h]; go_simp
    · intro ρ h; simp only [execOp, h]; go_simp
    · intro ρ h1 h2; simp only [execOp, h1, h2]; go_simp; rfl
  intro a9 hinv hu
  refine chain_pick (s6 := 73) hinv hu rfl rfl rfl rfl ?_
  clear hinv hu
  intro a9 hinv
  refine chain_move (d' := 74) hinv rfl rfl rfl rfl ?_
  clear hinv
  intro a9 hinv
  refine chain5 (i := 68) (s1 := 75) (s2 := 76) (s3 := 77) (s4 := 78) (s5 := 79) (s6 := 80) (d' := 81) (e' := (!(a.queue == b.queue))) hinv rfl rfl rfl rfl rfl rfl rfl rfl rfl rfl rfl rfl ?_ ?_
  ·
    have d1 := blk_cell HW.out.1
    have d2 := blk_cell HW.out.2.1
    have ca30 : CA[30]? = some (Value.int .i64 a.queue) := by rw [HA.out]; rfl
    have cb30 : CB[30]? = some (Value.int .i64 b.queue) := by rw [HB.out]; rfl
    refine ⟨.pointer (some ⟨w.heap.size, 30, none⟩), (.int .i64 a.queue), .pointer (some ⟨w.heap.size + 1, 30, none⟩), (.int .i64 b.queue), ?_, ?_, ?_, ?_, .inl ⟨?_, rfl⟩⟩
    · intro ρ h; simp only [execOp, h]; go_simp
    · intro ρ h; simp only [execOp, h]; go_simp
    · intro ρ h; simp only [execOp, h]; go_simp
    · intro ρ h; simp only [execOp, h]; go_simp
    · intro ρ h1 h2; simp only [execOp, h1, h2]; go_simp; rfl
  intro a10 hinv hu
  refine chain_pick (s6 := 80) hinv hu rfl rfl rfl rfl ?_
  clear hinv hu
  intro a10 hinv
  refine chain_move (d' := 81) hinv rfl rfl rfl rfl ?_
  clear hinv
  intro a10 hinv
  refine chain5 (i := 75) (s1 := 82) (s2 := 83) (s3 := 84) (s4 := 85) (s5 := 86) (s6 := 87) (d' := 88) (e' := (!((a.rate : Int) == b.rate))) hinv rfl rfl rfl rfl rfl rfl rfl rfl rfl rfl rfl rfl ?_ ?_
  ·
    have d1 := blk_cell HW.out.1
    have d2 := blk_cell HW.out.2.1
    have ca31 : CA[31]? = some (Value.int .u32 (a.rate : Int)) := by rw [HA.out]; rfl
    have cb31 : CB[31]? = some (Value.int .u32 (b.rate : Int)) := by rw [HB.out]; rfl
    refine ⟨.pointer (some ⟨w.heap.size, 31, none⟩), (.int .u32 (a.rate : Int)), .pointer (some ⟨w.heap.size + 1, 31, none⟩), (.int .u32 (b.rate : Int)), ?_, ?_, ?_, ?_, .inl ⟨?_, rfl⟩⟩
    · intro ρ h; simp only [execOp, h]; go_simp
    · intro ρ h; simp only [execOp, h]; go_simp
    · intro ρ h; simp only [execOp, h]; go_simp
    · intro ρ h; simp only [execOp, h]; go_simp
    · intro ρ h1 h2; simp only [execOp, h1, h2]; go_simp; rfl
  intro a11 hinv hu
  refine chain_pick (s6 := 87) hinv hu rfl rfl rfl rfl ?_
  clear hinv hu
  intro a11 hinv
  refine chain_move (d' := 88) hinv rfl rfl rfl rfl ?_
  clear hinv
  intro a11 hinv
  refine chain5 (i := 82) (s1 := 89) (s2 := 90) (s3 := 91) (s4 := 92) (s5 := 93) (s6 := 94) (d' := 95) (e' := (!((a.burst : Int) == b.burst))) hinv rfl rfl rfl rfl rfl rfl rfl rfl rfl rfl rfl rfl ?_ ?_
  ·
    have d1 := blk_cell HW.out.1
    have d2 := blk_cell HW.out.2.1
    have ca32 : CA[32]? = some (Value.int .u32 (a.burst : Int)) := by rw [HA.out]; rfl
    have cb32 : CB[32]? = some (Value.int .u32 (b.burst : Int)) := by rw [HB.out]; rfl
    refine ⟨.pointer (some ⟨w.heap.size, 32, none⟩), (.int .u32 (a.burst : Int)), .pointer (some ⟨w.heap.size + 1, 32, none⟩), (.int .u32 (b.burst : Int)), ?_, ?_, ?_, ?_, .inl ⟨?_, rfl⟩⟩
    · intro ρ h; simp only [execOp, h]; go_simp
    · intro ρ h; simp only [execOp, h]; go_simp
    · intro ρ h; simp only [execOp, h]; go_simp
    · intro ρ h; simp only [execOp, h]; go_simp
    · intro ρ h1 h2; simp only [execOp, h1, h2]; go_simp; rfl
  intro a12 hinv hu
  refine chain_pick (s6 := 94) hinv hu rfl rfl rfl rfl ?_
  clear hinv hu
  intro a12 hinv
  refine chain_move (d' := 95) hinv rfl rfl rfl rfl ?_
  clear hinv
  intro a12 hinv

  obtain ⟨E, hE⟩ : ∃ E, E = plainDiff a b := ⟨_, rfl⟩
  have hinv : CInv 134 (.pointer (some ⟨w.heap.size, 0, none⟩)) (.pointer (some ⟨w.heap.size + 1, 0, none⟩)) a12 95 E := by rw [hE]; exact hinv
  have HE := Lib.hid hE
  clear hE
  obtain ⟨⟨tm⟩, df⟩ := a12
  obtain ⟨hs, hd, h2, h3, hb⟩ := hinv
  simp only at hs hd h2 h3 hb
  subst hd
  simp only [List.size_toArray] at hs
  obtain ⟨x0, tm, rfl, hs0⟩ := cons_of_len (n := 133) hs
  clear hs
  obtain ⟨x1, tm, rfl, hs1⟩ := cons_of_len (n := 132) hs0
  clear hs0
  obtain ⟨x2, tm, rfl, hs2⟩ := cons_of_len (n := 131) hs1
  clear hs1
  obtain ⟨x3, tm, rfl, hs3⟩ := cons_of_len (n := 130) hs2
  clear hs2
  obtain ⟨x4, tm, rfl, hs4⟩ := cons_of_len (n := 129) hs3
  clear hs3
  obtain ⟨x5, tm, rfl, hs5⟩ := cons_of_len (n := 128) hs4
  clear hs4
  obtain ⟨x6, tm, rfl, hs6⟩ := cons_of_len (n := 127) hs5
  clear hs5
  obtain ⟨x7, tm, rfl, hs7⟩ := cons_of_len (n := 126) hs6
  clear hs6
  obtain ⟨x8, tm, rfl, hs8⟩ := cons_of_len (n := 125) hs7
  clear hs7
  obtain ⟨x9, tm, rfl, hs9⟩ := cons_of_len (n := 124) hs8
  clear hs8
  obtain ⟨x10, tm, rfl, hs10⟩ := cons_of_len (n := 123) hs9
  clear hs9
  obtain ⟨x11, tm, rfl, hs11⟩ := cons_of_len (n := 122) hs10
  clear hs10
  obtain ⟨x12, tm, rfl, hs12⟩ := cons_of_len (n := 121) hs11
  clear hs11
  obtain ⟨x13, tm, rfl, hs13⟩ := cons_of_len (n := 120) hs12
  clear hs12
  obtain ⟨x14, tm, rfl, hs14⟩ := cons_of_len (n := 119) hs13
  clear hs13
  obtain ⟨x15, tm, rfl, hs15⟩ := cons_of_len (n := 118) hs14
  clear hs14
  obtain ⟨x16, tm, rfl, hs16⟩ := cons_of_len (n := 117) hs15
  clear hs15
  obtain ⟨x17, tm, rfl, hs17⟩ := cons_of_len (n := 116) hs16
  clear hs16
  obtain ⟨x18, tm, rfl, hs18⟩ := cons_of_len (n := 115) hs17
  clear hs17
  obtain ⟨x19, tm, rfl, hs19⟩ := cons_of_len (n := 114) hs18
  clear hs18
  obtain ⟨x20, tm, rfl, hs20⟩ := cons_of_len (n := 113) hs19
  clear hs19
  obtain ⟨x21, tm, rfl, hs21⟩ := cons_of_len (n := 112) hs20
  clear hs20
  obtain ⟨x22, tm, rfl, hs22⟩ := cons_of_len (n := 111) hs21
  clear hs21
  obtain ⟨x23, tm, rfl, hs23⟩ := cons_of_len (n := 110) hs22
  clear hs22
  obtain ⟨x24, tm, rfl, hs24⟩ := cons_of_len (n := 109) hs23
  clear hs23
  obtain ⟨x25, tm, rfl, hs25⟩ := cons_of_len (n := 108) hs24
  clear hs24
  obtain ⟨x26, tm, rfl, hs26⟩ := cons_of_len (n := 107) hs25
  clear hs25
  obtain ⟨x27, tm, rfl, hs27⟩ := cons_of_len (n := 106) hs26
  clear hs26
  obtain ⟨x28, tm, rfl, hs28⟩ := cons_of_len (n := 105) hs27
  clear hs27
  obtain ⟨x29, tm, rfl, hs29⟩ := cons_of_len (n := 104) hs28
  clear hs28
  obtain ⟨x30, tm, rfl, hs30⟩ := cons_of_len (n := 103) hs29
  clear hs29
  obtain ⟨x31, tm, rfl, hs31⟩ := cons_of_len (n := 102) hs30
  clear hs30
  obtain ⟨x32, tm, rfl, hs32⟩ := cons_of_len (n := 101) hs31
  clear hs31
  obtain ⟨x33, tm, rfl, hs33⟩ := cons_of_len (n := 100) hs32
  clear hs32
  obtain ⟨x34, tm, rfl, hs34⟩ := cons_of_len (n := 99) hs33
  clear hs33
  obtain ⟨x35, tm, rfl, hs35⟩ := cons_of_len (n := 98) hs34
  clear hs34
  obtain ⟨x36, tm, rfl, hs36⟩ := cons_of_len (n := 97) hs35
  clear hs35
  obtain ⟨x37, tm, rfl, hs37⟩ := cons_of_len (n := 96) hs36
  clear hs36
  obtain ⟨x38, tm, rfl, hs38⟩ := cons_of_len (n := 95) hs37
  clear hs37
  obtain ⟨x39, tm, rfl, hs39⟩ := cons_of_len (n := 94) hs38
  clear hs38
  obtain ⟨x40, tm, rfl, hs40⟩ := cons_of_len (n := 93) hs39
  clear hs39
  obtain ⟨x41, tm, rfl, hs41⟩ := cons_of_len (n := 92) hs40
  clear hs40
  obtain ⟨x42, tm, rfl, hs42⟩ := cons_of_len (n := 91) hs41
  clear hs41
  obtain ⟨x43, tm, rfl, hs43⟩ := cons_of_len (n := 90) hs42
  clear hs42
  obtain ⟨x44, tm, rfl, hs44⟩ := cons_of_len (n := 89) hs43
  clear hs43
  obtain ⟨x45, tm, rfl, hs45⟩ := cons_of_len (n := 88) hs44
  clear hs44
  obtain ⟨x46, tm, rfl, hs46⟩ := cons_of_len (n := 87) hs45
  clear hs45
  obtain ⟨x47, tm, rfl, hs47⟩ := cons_of_len (n := 86) hs46
  clear hs46
  obtain ⟨x48, tm, rfl, hs48⟩ := cons_of_len (n := 85) hs47
  clear hs47
  obtain ⟨x49, tm, rfl, hs49⟩ := cons_of_len (n := 84) hs48
  clear hs48
  obtain ⟨x50, tm, rfl, hs50⟩ := cons_of_len (n := 83) hs49
  clear hs49
  obtain ⟨x51, tm, rfl, hs51⟩ := cons_of_len (n := 82) hs50
  clear hs50
  obtain ⟨x52, tm, rfl, hs52⟩ := cons_of_len (n := 81) hs51
  clear hs51
  obtain ⟨x53, tm, rfl, hs53⟩ := cons_of_len (n := 80) hs52
  clear hs52
  obtain ⟨x54, tm, rfl, hs54⟩ := cons_of_len (n := 79) hs53
  clear hs53
  obtain ⟨x55, tm, rfl, hs55⟩ := cons_of_len (n := 78) hs54
  clear hs54
  obtain ⟨x56, tm, rfl, hs56⟩ := cons_of_len (n := 77) hs55
  clear hs55
  obtain ⟨x57, tm, rfl, hs57⟩ := cons_of_len (n := 76) hs56
  clear hs56
  obtain ⟨x58, tm, rfl, hs58⟩ := cons_of_len (n := 75) hs57
  clear hs57
  obtain ⟨x59, tm, rfl, hs59⟩ := cons_of_len (n := 74) hs58
  clear hs58
  obtain ⟨x60, tm, rfl, hs60⟩ := cons_of_len (n := 73) hs59
  clear hs59
  obtain ⟨x61, tm, rfl, hs61⟩ := cons_of_len (n := 72) hs60
  clear hs60
  obtain ⟨x62, tm, rfl, hs62⟩ := cons_of_len (n := 71) hs61
  clear hs61
  obtain ⟨x63, tm, rfl, hs63⟩ := cons_of_len (n := 70) hs62
  clear hs62
  obtain ⟨x64, tm, rfl, hs64⟩ := cons_of_len (n := 69) hs63
  clear hs63
  obtain ⟨x65, tm, rfl, hs65⟩ := cons_of_len (n := 68) hs64
  clear hs64
  obtain ⟨x66, tm, rfl, hs66⟩ := cons_of_len (n := 67) hs65
  clear hs65
  obtain ⟨x67, tm, rfl, hs67⟩ := cons_of_len (n := 66) hs66
  clear hs66
  obtain ⟨x68, tm, rfl, hs68⟩ := cons_of_len (n := 65) hs67
  clear hs67
  obtain ⟨x69, tm, rfl, hs69⟩ := cons_of_len (n := 64) hs68
  clear hs68
  obtain ⟨x70, tm, rfl, hs70⟩ := cons_of_len (n := 63) hs69
  clear hs69
  obtain ⟨x71, tm, rfl, hs71⟩ := cons_of_len (n := 62) hs70
  clear hs70
  obtain ⟨x72, tm, rfl, hs72⟩ := cons_of_len (n := 61) hs71
  clear hs71
  obtain ⟨x73, tm, rfl, hs73⟩ := cons_of_len (n := 60) hs72
  clear hs72
  obtain ⟨x74, tm, rfl, hs74⟩ := cons_of_len (n := 59) hs73
  clear hs73
  obtain ⟨x75, tm, rfl, hs75⟩ := cons_of_len (n := 58) hs74
  clear hs74
  obtain ⟨x76, tm, rfl, hs76⟩ := cons_of_len (n := 57) hs75
  clear hs75
  obtain ⟨x77, tm, rfl, hs77⟩ := cons_of_len (n := 56) hs76
  clear hs76
  obtain ⟨x78, tm, rfl, hs78⟩ := cons_of_len (n := 55) hs77
  clear hs77
  obtain ⟨x79, tm, rfl, hs79⟩ := cons_of_len (n := 54) hs78
  clear hs78
  obtain ⟨x80, tm, rfl, hs80⟩ := cons_of_len (n := 53) hs79
  clear hs79
  obtain ⟨x81, tm, rfl, hs81⟩ := cons_of_len (n := 52) hs80
  clear hs80
  obtain ⟨x82, tm, rfl, hs82⟩ := cons_of_len (n := 51) hs81
  clear hs81
  obtain ⟨x83, tm, rfl, hs83⟩ := cons_of_len (n := 50) hs82
  clear hs82
  obtain ⟨x84, tm, rfl, hs84⟩ := cons_of_len (n := 49) hs83
  clear hs83
  obtain ⟨x85, tm, rfl, hs85⟩ := cons_of_len (n := 48) hs84
  clear hs84
  obtain ⟨x86, tm, rfl, hs86⟩ := cons_of_len (n := 47) hs85
  clear hs85
  obtain ⟨x87, tm, rfl, hs87⟩ := cons_of_len (n := 46) hs86
  clear hs86
  obtain ⟨x88, tm, rfl, hs88⟩ := cons_of_len (n := 45) hs87
  clear hs87
  obtain ⟨x89, tm, rfl, hs89⟩ := cons_of_len (n := 44) hs88
  clear hs88
  obtain ⟨x90, tm, rfl, hs90⟩ := cons_of_len (n := 43) hs89
  clear hs89
  obtain ⟨x91, tm, rfl, hs91⟩ := cons_of_len (n := 42) hs90
  clear hs90
  obtain ⟨x92, tm, rfl, hs92⟩ := cons_of_len (n := 41) hs91
  clear hs91
  obtain ⟨x93, tm, rfl, hs93⟩ := cons_of_len (n := 40) hs92
  clear hs92
  obtain ⟨x94, tm, rfl, hs94⟩ := cons_of_len (n := 39) hs93
  clear hs93
  obtain ⟨x95, tm, rfl, hs95⟩ := cons_of_len (n := 38) hs94
  clear hs94
  obtain ⟨x96, tm, rfl, hs96⟩ := cons_of_len (n := 37) hs95
  clear hs95
  obtain ⟨x97, tm, rfl, hs97⟩ := cons_of_len (n := 36) hs96
  clear hs96
  obtain ⟨x98, tm, rfl, hs98⟩ := cons_of_len (n := 35) hs97
  clear hs97
  obtain ⟨x99, tm, rfl, hs99⟩ := cons_of_len (n := 34) hs98
  clear hs98
  obtain ⟨x100, tm, rfl, hs100⟩ := cons_of_len (n := 33) hs99
  clear hs99
  obtain ⟨x101, tm, rfl, hs101⟩ := cons_of_len (n := 32) hs100
  clear hs100
  obtain ⟨x102, tm, rfl, hs102⟩ := cons_of_len (n := 31) hs101
  clear hs101
  obtain ⟨x103, tm, rfl, hs103⟩ := cons_of_len (n := 30) hs102
  clear hs102
  obtain ⟨x104, tm, rfl, hs104⟩ := cons_of_len (n := 29) hs103
  clear hs103
  obtain ⟨x105, tm, rfl, hs105⟩ := cons_of_len (n := 28) hs104
  clear hs104
  obtain ⟨x106, tm, rfl, hs106⟩ := cons_of_len (n := 27) hs105
  clear hs105
  obtain ⟨x107, tm, rfl, hs107⟩ := cons_of_len (n := 26) hs106
  clear hs106
  obtain ⟨x108, tm, rfl, hs108⟩ := cons_of_len (n := 25) hs107
  clear hs107
  obtain ⟨x109, tm, rfl, hs109⟩ := cons_of_len (n := 24) hs108
  clear hs108
  obtain ⟨x110, tm, rfl, hs110⟩ := cons_of_len (n := 23) hs109
  clear hs109
  obtain ⟨x111, tm, rfl, hs111⟩ := cons_of_len (n := 22) hs110
  clear hs110
  obtain ⟨x112, tm, rfl, hs112⟩ := cons_of_len (n := 21) hs111
  clear hs111
  obtain ⟨x113, tm, rfl, hs113⟩ := cons_of_len (n := 20) hs112
  clear hs112
  obtain ⟨x114, tm, rfl, hs114⟩ := cons_of_len (n := 19) hs113
  clear hs113
  obtain ⟨x115, tm, rfl, hs115⟩ := cons_of_len (n := 18) hs114
  clear hs114
  obtain ⟨x116, tm, rfl, hs116⟩ := cons_of_len (n := 17) hs115
  clear hs115
  obtain ⟨x117, tm, rfl, hs117⟩ := cons_of_len (n := 16) hs116
  clear hs116
  obtain ⟨x118, tm, rfl, hs118⟩ := cons_of_len (n := 15) hs117
  clear hs117
  obtain ⟨x119, tm, rfl, hs119⟩ := cons_of_len (n := 14) hs118
  clear hs118
  obtain ⟨x120, tm, rfl, hs120⟩ := cons_of_len (n := 13) hs119
  clear hs119
  obtain ⟨x121, tm, rfl, hs121⟩ := cons_of_len (n := 12) hs120
  clear hs120
  obtain ⟨x122, tm, rfl, hs122⟩ := cons_of_len (n := 11) hs121
  clear hs121
  obtain ⟨x123, tm, rfl, hs123⟩ := cons_of_len (n := 10) hs122
  clear hs122
  obtain ⟨x124, tm, rfl, hs124⟩ := cons_of_len (n := 9) hs123
  clear hs123
  obtain ⟨x125, tm, rfl, hs125⟩ := cons_of_len (n := 8) hs124
  clear hs124
  obtain ⟨x126, tm, rfl, hs126⟩ := cons_of_len (n := 7) hs125
  clear hs125
  obtain ⟨x127, tm, rfl, hs127⟩ := cons_of_len (n := 6) hs126
  clear hs126
  obtain ⟨x128, tm, rfl, hs128⟩ := cons_of_len (n := 5) hs127
  clear hs127
  obtain ⟨x129, tm, rfl, hs129⟩ := cons_of_len (n := 4) hs128
  clear hs128
  obtain ⟨x130, tm, rfl, hs130⟩ := cons_of_len (n := 3) hs129
  clear hs129
  obtain ⟨x131, tm, rfl, hs131⟩ := cons_of_len (n := 2) hs130
  clear hs130
  obtain ⟨x132, tm, rfl, hs132⟩ := cons_of_len (n := 1) hs131
  clear hs131
  obtain ⟨x133, tm, rfl, hs133⟩ := cons_of_len (n := 0) hs132
  clear hs132
  obtain rfl := List.eq_nil_of_length_eq_zero hs133
  clear hs133
  simp only [List.getElem?_toArray, List.getElem?_cons_succ, List.getElem?_cons_zero, Option.some.injEq] at h2 h3 hb
  subst h2 h3 hb
  obtain ⟨m, hm⟩ : ∃ m, m = a.pool.length := ⟨_, rfl⟩
  obtain ⟨m', hm'⟩ : ∃ m, m = b.pool.length := ⟨_, rfl⟩
  have d1 := blk_cell HW.out.1
  have d2 := blk_cell HW.out.2.1
  have ca : CA[23]? = some (.slice P m p) := by rw [HA.out, hm]; rfl
  have cb : CB[23]? = some (.slice P' m' p') := by rw [HB.out, hm']; rfl
  have ca2 : CA[27]? = some (.slice Q a.statics.length q) := by rw [HA.out]; rfl
  have cb2 : CB[27]? = some (.slice Q' b.statics.length q') := by rw [HB.out]; rfl
  have ca3 : CA[28]? = some (.slice R a.twices.length r) := by rw [HA.out]; rfl
  have cb3 : CB[28]? = some (.slice R' b.twices.length r') := by rw [HB.out]; rfl
  have g1 := (d1 23).trans ca
  have g2 := (d2 23).trans cb
  have g3 := (d1 27).trans ca2
  have g4 := (d2 27).trans cb2
  have g5 := (d1 28).trans ca3
  have g6 := (d2 28).trans cb3
  have hmm : m ≤ 9223372036854775807 := by omega
  have HL := Lib.hid (And.intro hm (And.intro hm' (And.intro ls lt)))
  clear d1 d2 ca cb ca2 cb2 ca3 cb3 hm hm' la ls lt
  cases E with
  | true =>
    as_aux_lemma =>
    go_wp2
    go_ret
    exact ⟨by rw [← plain_beq, ← HE.out]; rfl, HW.out.2.2⟩
  | false =>
    by_cases hmn : m = m'
    · subst hmn
      have hl : ((m : Int) != m) = false := by simp
      go_wp2
      clear hl
      go_loopw [5] (fun i wr => ∃ k : Nat, i = .int .i64 k ∧ k ≤ m ∧ (∀ j, j < k → a.pool[j]? = b.pool[j]?) ∧ ∃ n, wr = W.drewN n) (fun i _ => m - (intOf i).toNat)
      case atStart => exact ⟨0, rfl, by omega, by omega, 0, rfl⟩
      case round =>
        obtain ⟨k, rfl, hk, hpre, n, rfl⟩ := hrel
        have HP := Lib.hid hpre
        clear hpre
        by_cases hlt : k < m
        · have hkx : k < a.pool.length := by have := HL.out.1; omega
          have hky : k < b.pool.length := by have := HL.out.2.1; omega
          obtain ⟨xp, hp⟩ : ∃ p, a.pool[k]? = some p := ⟨_, List.getElem?_eq_getElem hkx⟩
          obtain ⟨xq, hq⟩ : ∃ q, b.pool[k]? = some q := ⟨_, List.getElem?_eq_getElem hky⟩
          obtain ⟨b1, o1, rfl, _, _, hx0⟩ := nums_at HH.out.1 hp
          obtain ⟨b2, o2, rfl, _, _, hy0⟩ := nums_at HH.out.2.2.2.1 hq
          have hx1 := HW.out.2.2.cell hx0 (fun f => f)
          have hy1 := HW.out.2.2.cell hy0 (fun f => f)
          have HPQ := Lib.hid (And.intro hp hq)
          clear hp hq hx0 hy0 hkx hky
          have p1 : (0:Int) ≤ k := by omega
          have p2 : (k:Int) < m := by omega
          have hpq := nat_beq xp xq
          by_cases hd : xp = xq
          · as_aux_lemma =>
            have hb : ((xp : Int) == xq) = true := by rw [hpq]; simpa using hd
            have hb' : (!((xp : Int) == xq)) = false := by rw [hb]; rfl
            have hb2 : ((xp : Int) != xq) = false := by subst hd; simp
            have HD := Lib.hid hd
            clear hpq hd
            go_wp2
            go_quiet (fail)
            go_wp2
            all_goals first
              | (exfalso; have e := HD.out; subst e; simp_all; done)
              | (refine ⟨⟨k + 1, by go_num, by omega, ?_, _, by first | rfl | exact World.drewN_drewN ..⟩, by simp [intOf]; omega⟩
                 intro j hj
                 rcases Nat.lt_or_ge j k with h | h
                 · exact HP.out j h
                 · obtain rfl : j = k := by omega
                   rw [HPQ.out.1, HPQ.out.2, HD.out])
          · as_aux_lemma =>
            have hb : ((xp : Int) == xq) = false := by rw [hpq]; simpa using hd
            have hb2 : ((xp : Int) != xq) = true := by rw [bne_iff_ne]; omega
            have HD := Lib.hid hd
            clear hpq hd
            go_wp2
            go_quiet (fail)
            go_wp2
            all_goals first
              | (exfalso; simp_all; done)
              | (go_ret
                 refine ⟨?_, by first | exact HW.out.2.2.drewN _ | exact (HW.out.2.2.drewN _).drewN _⟩
                 have : ¬ a = b := by
                   intro e
                   have h1 := HPQ.out.1
                   rw [e, HPQ.out.2] at h1
                   exact HD.out (Option.some.inj h1).symm
                 simp [this])
        · as_aux_lemma =>
          have hk' : k = m := by omega
          subst hk'
          have : a.pool = b.pool := list_eq_of_get (by rw [← HL.out.1, ← HL.out.2.1]) (fun j hj => HP.out j (by have := HL.out.1; omega))
          have H := Lib.hid this
          clear this
          have hkp : ∀ n, Keeps S w (W.drewN n) ∧ Keeps S' w (W.drewN n) := fun n => ⟨(HW.out.2.2.drewN n).keeps (fun _ _ _ f => f), (HW.out.2.2.drewN n).keeps (fun _ _ _ f => f)⟩
          have q1 := rpairs_ok Q Q' q q' a.statics b.statics (W.drewN n) (HH.out.2.1.keeps (hkp n).1) (HH.out.2.2.2.2.1.keeps (hkp n).2) HL.out.2.2.1
          have q2 := fun n => rpairs_ok R R' r r' a.twices b.twices (W.drewN n) (HH.out.2.2.1.keeps (hkp n).1) (HH.out.2.2.2.2.2.keeps (hkp n).2) HL.out.2.2.2
          have HQ1 := Lib.hid q1
          have HQ2 := Lib.hid q2
          clear q1 q2 hkp
          cases hs : decide (a.statics = b.statics) with
          | true =>
            have hq1 := HQ1.out
            rw [hs] at hq1
            have HQ := Lib.hid hq1
            have HS := Lib.hid hs
            clear hq1 hs
            cases ht : decide (a.twices = b.twices) with
            | true =>
              have hq2 := HQ2.out
              rw [ht] at hq2
              have HQ3 := Lib.hid hq2
              have HT := Lib.hid ht
              clear hq2 ht
              go_wp2_with (first
                | (go_at_call_of 44 (Value.slice Q a.statics.length q); refine HQ.out.mono ?_; rintro e w' ⟨rfl, n2, rfl⟩)
                | (go_at_call_of 44 (Value.slice R a.twices.length r); (first | refine (HQ3.out _).mono ?_ | (rw [World.drewN_drewN]; refine (HQ3.out _).mono ?_)); rintro e w' ⟨rfl, n3, rfl⟩))
              go_ret
              refine ⟨?_, by first | exact HW.out.2.2.drewN _ | exact (HW.out.2.2.drewN _).drewN _ | exact ((HW.out.2.2.drewN _).drewN _).drewN _⟩
              rw [← plain_beq, ← HE.out, H.out, HS.out, HT.out]
              simp
            | false =>
              have hq2 := HQ2.out
              rw [ht] at hq2
              have HQ3 := Lib.hid hq2
              have HT := Lib.hid ht
              clear hq2 ht
              go_wp2_with (first
                | (go_at_call_of 44 (Value.slice Q a.statics.length q); refine HQ.out.mono ?_; rintro e w' ⟨rfl, n2, rfl⟩)
                | (go_at_call_of 44 (Value.slice R a.twices.length r); (first | refine (HQ3.out _).mono ?_ | (rw [World.drewN_drewN]; refine (HQ3.out _).mono ?_)); rintro e w' ⟨rfl, n3, rfl⟩))
              go_ret
              refine ⟨?_, by first | exact HW.out.2.2.drewN _ | exact (HW.out.2.2.drewN _).drewN _ | exact ((HW.out.2.2.drewN _).drewN _).drewN _⟩
              rw [← plain_beq, HT.out]
              simp
          | false =>
            have hq1 := HQ1.out
            rw [hs] at hq1
            have HQ := Lib.hid hq1
            have HS := Lib.hid hs
            clear hq1 hs
            go_wp2_with (go_at_call_of 44 (Value.slice Q a.statics.length q); refine HQ.out.mono ?_; rintro e w' ⟨rfl, n2, rfl⟩)
            go_ret
            refine ⟨?_, by first | exact HW.out.2.2.drewN _ | exact (HW.out.2.2.drewN _).drewN _⟩
            rw [← plain_beq, HS.out]
            simp
    · as_aux_lemma =>
      have hl : ((m : Int) != m') = true := by rw [bne_iff_ne]; omega
      have HNE := Lib.hid hmn
      clear hmn
      go_wp2
      go_ret
      refine ⟨?_, HW.out.2.2⟩
      have : ¬ a = b := by
        intro e
        subst e
        exact HNE.out (HL.out.1.trans HL.out.2.1.symm)
      simp [this]
end

section
open Go.RowKit
set_option linter.unusedVariables false
attribute [local go_sem ↓] Go.wp_at_zero Go.wp_at_succ
attribute [local go_sem ↓] store_fold alloc_fold load_fold slice_op_fold ten_zero_fold cg_store_fold cg_alloc_fold cg_load_fold cg_slice_fold cg_b1_fold cg_b3_fold
/-! ### plain -/
theorem applied_nil_sub {l : List Ten} {y : Ten} (h : y ∈ applied Ten.name l []) : y ∈ l := by
  have h1 := look_mem (nm := Ten.name) (applied_sd l []).nodup h
  rw [applied_look] at h1
  exact (look_name (nm := Ten.name) (l := l) h1).2
theorem mrg_t {z : Ten} : ∀ (x y : List Ten) (c : Chg Ten), c ∈ mrg Ten.name z x y → c.t = z ∨ c.t ∈ y
  | [], [], c, h => by simp [mrg] at h
  | a :: x, [], c, h => by
    unfold mrg at h
    rcases List.mem_cons.1 h with rfl | h
    · exact .inl rfl
    · exact mrg_t x [] c h
  | [], b :: y, c, h => by
    unfold mrg at h
    rcases List.mem_cons.1 h with rfl | h
    · exact .inr (by simp)
    · rcases mrg_t [] y c h with e | e
      · exact .inl e
      · exact .inr (by simp [e])
  | a :: x, b :: y, c, h => by
    unfold mrg at h
    split at h
    · rcases List.mem_cons.1 h with rfl | h
      · exact .inl rfl
      · exact mrg_t x (b :: y) c h
    · split at h
      · rcases List.mem_cons.1 h with rfl | h
        · exact .inr (by simp)
        · rcases mrg_t (a :: x) y c h with e | e
          · exact .inl e
          · exact .inr (by simp [e])
      · rcases List.mem_append.1 h with h | h
        · split at h
          · simp at h
          · obtain rfl : c = _ := by simpa using h
            exact .inr (by simp)
        · rcases mrg_t x y c h with e | e
          · exact .inl e
          · exact .inr (by simp [e])
termination_by x y => x.length + y.length
theorem dropT {X : List TV} {i : Nat} {p : TV} (h : X[i]? = some p) : (X.drop i).map (·.t) = p.t :: (X.drop (i + 1)).map (·.t) := by
  obtain ⟨hl, e⟩ := List.getElem?_eq_some_iff.1 h
  rw [List.drop_eq_getElem_cons hl, e]
  rfl
abbrev mg (x y : List Ten) : List (Chg Ten) := mrg Ten.name Ten.zero x y
theorem mg_l (a : Ten) (x : List Ten) : mg (a :: x) [] = ⟨false, a.name, Ten.zero⟩ :: mg x [] := by unfold mg; rw [mrg]
theorem mg_r (b : Ten) (y : List Ten) : mg [] (b :: y) = ⟨true, b.name, b⟩ :: mg [] y := by unfold mg; rw [mrg]
theorem mg_lt {a b : Ten} (h : a.name < b.name) (x y : List Ten) : mg (a :: x) (b :: y) = ⟨false, a.name, Ten.zero⟩ :: mg x (b :: y) := by unfold mg; rw [mrg, if_pos h]
theorem mg_gt {a b : Ten} (h : ¬ a.name < b.name) (k : b.name < a.name) (x y : List Ten) : mg (a :: x) (b :: y) = ⟨true, b.name, b⟩ :: mg (a :: x) y := by unfold mg; rw [mrg, if_neg h, if_pos k]
theorem mg_eq {a b : Ten} (h : ¬ a.name < b.name) (k : ¬ b.name < a.name) (e : a = b) (x y : List Ten) : mg (a :: x) (b :: y) = mg x y := by unfold mg; rw [mrg, if_neg h, if_neg k, if_pos e]; rfl
theorem mg_ne {a b : Ten} (h : ¬ a.name < b.name) (k : ¬ b.name < a.name) (e : ¬ a = b) (x y : List Ten) : mg (a :: x) (b :: y) = ⟨true, b.name, b⟩ :: mg x y := by unfold mg; rw [mrg, if_neg h, if_neg k, if_neg e]; rfl
/-! ### the reference's list of changes -/
def chgAppend (x y : Value) : Sem Value := Builtin.append_ #[23, 23] 23 #[x, y]
theorem app_chg_fold (ρ : Operand → Value) (x y : Operand) (dst : Option Tmp) (pos : String) (after : Array Edge) (g : Option (Nat × Bool)) :
    execOp ρ { dst := dst, op := .call { callee := .builtin .append, args := #[x, y], argTypes := #[23, 23] }, type := 23, pos := pos, after := after, guard := g } = (do pure (Next.value (← chgAppend (ρ x) (ρ y))) : Sem Next) := by
  simp [execOp, resolve, invoke, builtin, chgAppend]
attribute [local go_sem ↓ high] app_chg_fold
structure CL (S : Nat → Prop) (base : Nat) (w : World) (v : Value) (L : List Cg) : Prop where
  own : w.ownsRow base 47 35 v L.length (L.flatMap Cg.cells)
  rows : ∀ c ∈ L, c.x.Rows S w
theorem CL.nil (S : Nat → Prop) (base : Nat) (w : World) : CL S base w (.slice none 0 0) [] := ⟨⟨by simp, .inl ⟨rfl, rfl⟩⟩, by simp⟩
theorem CL.mod {S : Nat → Prop} {base : Nat} {w w' : World} {v : Value} {L : List Cg} (h : CL S base w v L) (hm : Mod No w w') : CL S base w' v L :=
  ⟨own_mod h.own hm (fun _ _ f => f), fun c hc => (h.rows c hc).keeps (hm.keeps (fun _ _ _ f => f))⟩
theorem CL.lower {S : Nat → Prop} {base base' : Nat} {w : World} {v : Value} {L : List Cg} (h : CL S base w v L) (hb : base' ≤ base) : CL S base' w v L := by
  refine ⟨⟨h.own.1, ?_⟩, h.rows⟩
  rcases h.own.2 with hn | ⟨g, cap, cur, rfl, hg, rest⟩
  · exact .inl hn
  · exact .inr ⟨g, cap, cur, rfl, by omega, rest⟩
theorem CL.open {S : Nat → Prop} {base : Nat} {w : World} {v : Value} {L : List Cg} (h : CL S base w v L) : ∃ A c, v = .slice A L.length c ∧ L.length ≤ c ∧ RowAt (fun b => base ≤ b) w A (L.flatMap Cg.cells) := RowAt.of_owns h.own
theorem CL.push {S : Nat → Prop} {base : Nat} {w : World} {v : Value} {L : List Cg} (h : CL S base w v L) (hb : base ≤ w.heap.size) (hS : ∀ b, base ≤ b → ¬ S b) {x : Cg} (hx : x.x.Rows S w) (hl : L.length ≤ 1000000) :
    ∃ v' w', (chgAppend v (.slice (some ⟨w.heap.size, 0, none⟩) 1 1)).run Try.prog (w.alloc (.cells x.cells.toArray 47)) = .ok v' w' ∧ CL S base w' v' (L ++ [x]) ∧ Mod (fun b => base ≤ b) w w' := by
  obtain ⟨i0, hi, hz0, hz1, hz2⟩ := info_parts infoChgB
  have m1 : Mod No w (w.alloc (.cells x.cells.toArray 47)) := (Mod.refl _ _).alloc _
  have hr : RowAt (fun b => b = w.heap.size) (w.alloc (.cells x.cells.toArray 47)) (some ⟨w.heap.size, 0, none⟩) x.cells :=
    .inr ⟨w.heap.size, 0, rfl, rfl, fun j u hj => by rw [Nat.zero_add]; exact (blk_cell (at10 w _) j).trans (by simpa using hj)⟩
  obtain ⟨v', w', h1, h2, h3, h4⟩ := run_append_row (P := Try.prog) _ base 23 23 47 i0 _ 35 184 Try.underlying23 hi hz0 hz1 hz2 (show zChg.size = 35 from rfl) (by decide) v L.length _ (own_mod h.own m1 (fun k _ f => f)) _ 1 1 x.cells hr (by rw [cg_len]) (fun u hu => (Array.all_eq_true_iff_forall_mem.1 (cg_one hx)) u (by simpa using hu)) (by unfold maxLen; omega) (by omega) (by simp; omega)
  have hown : ∀ k, v.ownBlock = some k → base ≤ k := by
    intro k hk
    rcases h.own.2 with ⟨rfl, _⟩ | ⟨g, cap, cur, rfl, hg, _⟩
    · simp [Value.ownBlock] at hk
    · obtain rfl : g = k := by simpa [Value.ownBlock] using hk
      exact hg
  have hm : Mod (fun b => base ≤ b) w w' := (m1.mono (fun _ f => f.elim)).grown h3 (fun k hk => .inr (hown k hk))
  refine ⟨v', w', h1, ⟨by simpa using h2, fun c hc => ?_⟩, hm⟩
  have hc' : c.x.Rows S w := by
    rcases List.mem_append.1 hc with hc | hc
    · exact h.rows c hc
    · obtain rfl : c = x := by simpa using hc
      exact hx
  exact hc'.keeps (hm.keeps (fun b _ hs f => hS b f hs))
theorem cg_zero (n : Nm) : (Cg.mk false n zTV).cells.toArray = #[.bool false, .string (str n)] ++ zTen := by rw [cg_cells]; simp [← zTV_cells]
theorem cg_full (n : Nm) (x : TV) : (Cg.mk true n x).cells.toArray = #[.bool true, .string (str n)] ++ x.cells.toArray := by rw [cg_cells]; simp
/-! ### Diff -/
set_option maxRecDepth 100000 in
set_option maxHeartbeats 4000000 in
theorem ref_diff_ok {S : Nat → Prop} {w : World} {A A2 : Option Addr} {c n c2 n2 : Nat} (a b : List TV) (hA : TVl S w A a) (hn : n = a.length) (hl : a.length ≤ 100000) (hsm : ∀ x ∈ a, x.Small)
    (hA2 : TVl S w A2 b) (hn2 : n2 = b.length) (hl2 : b.length ≤ 100000) (hS : ∀ b, w.heap.size ≤ b → ¬ S b) :
    Calls Try.prog 18 #[.slice A n c, .slice A2 n2 c2] w fun e w' => ∃ v L, e = .returned v ∧ CL S w.heap.size w' v L ∧ L.map Cg.chg = dff (a.map (·.t)) (b.map (·.t)) ∧ Mod No w w' := by
  have h1 := ref_apply_ok (c := c) (C := none) (d := 0) a [] hA hn hl hS (CVl.nil _ _ _) rfl (by simp)
  have h2 := fun (w2 : World) (hm : Mod No w w2) => ref_apply_ok (w := w2) (c := c2) (C := none) (d := 0) b [] (hA2.keeps (hm.keeps (fun _ _ _ f => f))) hn2 hl2 (fun j hj => hS j (by have := hm.size; omega)) (CVl.nil _ _ _) rfl (by simp)
  have HA := Lib.hid h1
  have HB := Lib.hid h2
  have H0 := Lib.hid (And.intro hsm (And.intro hS (And.intro hl hl2)))
  have hn1 : n ≤ 100000 := by omega
  have hn3 : n2 ≤ 100000 := by omega
  clear h1 h2 hA hn hl hsm hA2 hn2 hl2 hS
  go_enter Try.func18, Try.ntmps18
  go_upto_region 3 with (first
    | (go_at_call_of 14 (Value.slice A n c); refine HA.out.mono ?_; rintro e w2 ⟨vX, X, rfl, hX, hXt, hXl, hm2⟩; have HX := Lib.hid (And.intro hX (And.intro hXt (And.intro hXl hm2))); clear hX hXt hXl hm2)
    | (go_at_call_of 14 (Value.slice A2 n2 c2); refine (HB.out _ HX.out.2.2.2).mono ?_; rintro e w3 ⟨vY, Y, rfl, hY, hYt, hYl, hm3⟩; have HY := Lib.hid (And.intro hY (And.intro hYt (And.intro hYl hm3))); clear hY hYt hYl hm3))
  obtain ⟨B, hB⟩ : ∃ B, B = w.heap.size := ⟨_, rfl⟩
  obtain ⟨B3, hB3⟩ : ∃ B3, B3 = w3.heap.size := ⟨_, rfl⟩
  have hXL := HX.out.1.mod HY.out.2.2.2 (fun _ _ f => f) (fun _ _ f => f)
  obtain ⟨AX, cx, rfl, hcx, hLX⟩ := hXL.blk
  obtain ⟨AY, cy, rfl, hcy, hLY⟩ := HY.out.1.blk
  have m3 : Mod No w w3 := HX.out.2.2.2.trans HY.out.2.2.2
  obtain ⟨nx, hnx⟩ : ∃ nx, nx = X.length := ⟨_, rfl⟩
  obtain ⟨ny, hny⟩ : ∃ ny, ny = Y.length := ⟨_, rfl⟩
  rw [← hnx] at hcx
  rw [← hny] at hcy
  rw [← hnx, ← hny]
  have hb1 : nx ≤ 100000 := by have h1 := HX.out.2.2.1; have h2 := H0.out.2.2.1; rw [List.length_nil] at h1; omega
  have hb2 : ny ≤ 100000 := by have h1 := HY.out.2.2.1; have h2 := H0.out.2.2.2; rw [List.length_nil] at h1; omega
  have hSm : ∀ p ∈ X, p.Small := fun p hp => by
    have h1 : p.t ∈ X.map (·.t) := List.mem_map.2 ⟨p, hp, rfl⟩
    rw [HX.out.2.1] at h1
    obtain ⟨q, hq, e⟩ := List.mem_map.1 (applied_nil_sub h1)
    have h2 := H0.out.1 q hq
    unfold TV.Small at h2 ⊢
    rw [← e]
    exact h2
  have HR := Lib.hid (And.intro hLX.row (And.intro hLY.row (And.intro hXL.rows (And.intro HY.out.1.rows (And.intro hnx (And.intro hny (And.intro hSm hB3)))))))
  have hS3 : ∀ b, B3 ≤ b → ¬ S b := fun b hb => H0.out.2.1 b (by have := m3.size; omega)
  have HS3 := Lib.hid hS3
  obtain ⟨D, hD⟩ : ∃ D, D = dff (a.map (·.t)) (b.map (·.t)) := ⟨_, rfl⟩
  have hD2 : D = mg (X.map (·.t)) (Y.map (·.t)) := by rw [hD, HX.out.2.1, HY.out.2.1]; rfl
  have HD := Lib.hid (And.intro hD (And.intro hD2 (And.intro m3 hB)))
  clear hXL hLX hLY m3 hnx hny hSm hS3 hD hD2 hB hB3
  go_wp2_with fail
  go_loopw [7, 8, 9] (fun v i k wr => ∃ (i' k' : Nat) (acc : List Cg), i = .int .i64 i' ∧ k = .int .i64 k' ∧ i' ≤ nx ∧ k' ≤ ny ∧ acc.map Cg.chg ++ mg ((X.drop i').map (·.t)) ((Y.drop k').map (·.t)) = D ∧ acc.length ≤ i' + k' ∧ CL S B3 wr v acc ∧ Mod No w3 wr) (fun _ i k _ => nx + ny - (intOf i).toNat - (intOf k).toNat)
  case atStart => exact ⟨0, 0, [], rfl, rfl, by omega, by omega, by rw [HD.out.2.1]; rfl, by simp, CL.nil _ _ _, Mod.refl _ _⟩
  case round =>
    obtain ⟨i, k, acc, rfl, rfl, hi, hk, hacc, hal, hcl, hM⟩ := hrel
    have hBr : B3 ≤ wr.heap.size := by have := HR.out.2.2.2.2.2.2.2; have := hM.size; omega
    have HC := Lib.hid (And.intro hacc (And.intro hal (And.intro hcl (And.intro hM hBr))))
    clear hacc hal hcl hM hBr
    by_cases hix : i < nx
    · obtain ⟨p, hp⟩ : ∃ p, X[i]? = some p := ⟨_, List.getElem?_eq_getElem (by have := HR.out.2.2.2.2.1; omega)⟩
      by_cases hky : k < ny
      · obtain ⟨q, hq⟩ : ∃ q, Y[k]? = some q := ⟨_, List.getElem?_eq_getElem (by have := HR.out.2.2.2.2.2.1; omega)⟩
        obtain ⟨bX, oX, eX, _, _, hcX⟩ := (HR.out.1.keeps (HC.out.2.2.2.1.keeps (fun _ _ _ f => f))).elem TV.cells 33 TV.len (by omega) hp
        have cX0 := hcX 0 (.string (str p.nm)) rfl
        rw [Nat.add_zero] at cX0
        obtain ⟨KP, hKP⟩ : ∃ KP, KP = str p.nm := ⟨_, rfl⟩
        rw [← hKP] at cX0
        have hpr : p.Rows S wr := (HR.out.2.2.1 p (List.mem_of_getElem? hp)).keeps (HC.out.2.2.2.1.keeps (fun _ _ _ f => f))
        have HP := Lib.hid (And.intro hp (And.intro hKP (And.intro hpr hcX)))
        have p1 : (0:Int) ≤ i := by omega
        have p2 : (i:Int) < nx := by omega
        clear hKP hpr hcX hp
        subst eX
        obtain ⟨bY, oY, eY, _, _, hcY⟩ := (HR.out.2.1.keeps (HC.out.2.2.2.1.keeps (fun _ _ _ f => f))).elem TV.cells 33 TV.len (by omega) hq
        have cY0 := hcY 0 (.string (str q.nm)) rfl
        rw [Nat.add_zero] at cY0
        obtain ⟨KQ, hKQ⟩ : ∃ KQ, KQ = str q.nm := ⟨_, rfl⟩
        rw [← hKQ] at cY0
        have hqr : q.Rows S wr := (HR.out.2.2.2.1 q (List.mem_of_getElem? hq)).keeps (HC.out.2.2.2.1.keeps (fun _ _ _ f => f))
        have HQ := Lib.hid (And.intro hq (And.intro hKQ (And.intro hqr hcY)))
        have q1 : (0:Int) ≤ k := by omega
        have q2 : (k:Int) < ny := by omega
        clear hKQ hqr hcY hq
        subst eY
        by_cases hlt : p.nm < q.nm
        · as_aux_lemma =>
          have t1 : ((k : Int) == (ny : Int)) = false := by rw [beq_eq_false_iff_ne]; omega
          have t3 : ((i : Int) == (nx : Int)) = false := by rw [beq_eq_false_iff_ne]; omega
          have t4 : Op.bytesLess KP.toList KQ.toList = true := by rw [HP.out.2.1, HQ.out.2.1, less_str]; simpa using hlt
          have HLT := Lib.hid hlt
          clear hlt
          go_wp2_with fail
          go_quiet (fail)
          generalize hV : wr.drewN nq = V
          have mV : Mod No wr V := by rw [← hV]; exact Mod.drewN (Mod.refl _ _) _
          clear hV
          have cX1 : V.cell? ⟨bX, oX + i * 33, none⟩ = some (.string KP) := mV.cell cX0 (fun f => f)
          obtain ⟨v', w', hrun, hpush, hmm⟩ := (HC.out.2.2.1.mod mV).push (by have := HC.out.2.2.2.2; have := mV.size; omega) HS3.out (x := ⟨false, p.nm, zTV⟩) (zTV_rows _ _) (by have := HC.out.2.1; omega)
          have hb1 : ∀ W, (cgB1 (.string KP)).run Try.prog W = .ok (.agg (Cg.mk false p.nm zTV).cells.toArray) W := fun W => by rw [cg_zero, ← HP.out.2.1]; exact cgB1_run KP W
          have hs1 := cgSlice_run (Cg.mk false p.nm zTV).cells.toArray (by simp [cg_len])
          obtain ⟨CC, hCC⟩ : ∃ CC, CC = (Cg.mk false p.nm zTV).cells.toArray := ⟨_, rfl⟩
          rw [← hCC] at hrun hb1 hs1
          have HPU := Lib.hid (And.intro hpush (And.intro hmm mV))
          clear hpush hmm mV cX0 hCC
          go_wp2_with fail
          refine ⟨⟨i + 1, k, acc ++ [⟨false, p.nm, zTV⟩], by first | rfl | go_num, by first | rfl | go_num, by omega, by omega, ?_, by have := HC.out.2.1; simp; omega, HPU.out.1, ?_⟩, by simp [intOf]; omega⟩
          · rw [← HC.out.1, dropT HP.out.1, dropT HQ.out.1, mg_lt (show p.t.name < q.t.name from HLT.out), List.map_append, List.append_assoc]; rfl
          · exact (HC.out.2.2.2.1.trans HPU.out.2.2).trans' HPU.out.2.1 (fun j hj f => by have := HR.out.2.2.2.2.2.2.2; omega)
        · by_cases hgt : q.nm < p.nm
          · as_aux_lemma =>
            have t1 : ((k : Int) == (ny : Int)) = false := by rw [beq_eq_false_iff_ne]; omega
            have t3 : ((i : Int) == (nx : Int)) = false := by rw [beq_eq_false_iff_ne]; omega
            have t4 : Op.bytesLess KP.toList KQ.toList = false := by rw [HP.out.2.1, HQ.out.2.1, less_str]; simpa using hlt
            have t5 : Op.bytesLess KQ.toList KP.toList = true := by rw [HP.out.2.1, HQ.out.2.1, less_str]; simpa using hgt
            have HLT := Lib.hid (And.intro hlt hgt)
            clear hlt hgt
            go_wp2_with fail
            go_quiet (fail)
            generalize hV : wr.drewN nq = V1
            have mV1 : Mod No wr V1 := by rw [← hV]; exact Mod.drewN (Mod.refl _ _) _
            clear hV
            have cXV1 : V1.cell? ⟨bX, oX + i * 33, none⟩ = some (.string KP) := mV1.cell cX0 (fun f => f)
            have cYV1 : V1.cell? ⟨bY, oY + k * 33, none⟩ = some (.string KQ) := mV1.cell cY0 (fun f => f)
            go_wp2_with fail
            go_quiet (fail)
            generalize hV : V1.drewN nq = V
            have mV : Mod No wr V := by rw [← hV]; exact Mod.drewN mV1 _
            clear hV
            clear mV1 cXV1 cYV1
            have cY1 : V.cell? ⟨bY, oY + k * 33, none⟩ = some (.string KQ) := mV.cell cY0 (fun f => f)
            have hlq := fun (U : World) (hU : Mod No wr U) => tenLoad_mid U bY (oY + k * 33) q.cells q.len (fun j u hj => hU.cell (HQ.out.2.2.2 j u hj) (fun f => f))
            have hl0 := hlq V mV
            have hl1 := hlq V.drew mV.drew
            obtain ⟨v', w', hrun, hpush, hmm⟩ := (HC.out.2.2.1.mod mV.drew).push (by have := HC.out.2.2.2.2; have := mV.drew.size; omega) HS3.out (x := ⟨true, q.nm, q⟩) (HQ.out.2.2.1.keeps (mV.drew.keeps (fun _ _ _ f => f))) (by have := HC.out.2.1; omega)
            have hrun' : (chgAppend _ (.slice (some ⟨V.heap.size, 0, none⟩) 1 1)).run Try.prog (V.alloc (.cells (Cg.mk true q.nm q).cells.toArray 47)).drew = .ok v' w' := hrun
            have hb3 : ∀ W, (cgB3 (.bool true) (.string KQ) (.agg q.cells.toArray)).run Try.prog W = .ok (.agg (Cg.mk true q.nm q).cells.toArray) W := fun W => by rw [cg_full, ← HQ.out.2.1]; exact cgB3_run true KQ q.cells.toArray rfl W
            have hs3 := cgSlice_run (Cg.mk true q.nm q).cells.toArray (by simp [cg_len])
            obtain ⟨CC, hCC⟩ : ∃ CC, CC = (Cg.mk true q.nm q).cells.toArray := ⟨_, rfl⟩
            obtain ⟨CQ, hCQ⟩ : ∃ CQ, CQ = q.cells.toArray := ⟨_, rfl⟩
            rw [← hCC] at hrun' hb3 hs3
            rw [← hCQ] at hl0 hl1 hb3
            have HPU := Lib.hid (And.intro hpush (And.intro hmm mV.drew))
            clear hpush hmm mV cY0 hCC hCQ hlq hrun
            go_wp2_with fail
            go_region
            all_goals
              go_wp2_with fail
              refine ⟨⟨i, k + 1, acc ++ [⟨true, q.nm, q⟩], by first | rfl | go_num, by first | rfl | go_num, by omega, by omega, ?_, by have := HC.out.2.1; simp; omega, HPU.out.1, ?_⟩, by simp [intOf]; omega⟩
              · rw [← HC.out.1, dropT HP.out.1, dropT HQ.out.1, mg_gt (show ¬ p.t.name < q.t.name from HLT.out.1) (show q.t.name < p.t.name from HLT.out.2), List.map_append, List.append_assoc]; rfl
              · exact (HC.out.2.2.2.1.trans HPU.out.2.2).trans' HPU.out.2.1 (fun j hj f => by have := HR.out.2.2.2.2.2.2.2; omega)
          · by_cases heq : p.t = q.t
            · as_aux_lemma =>
              have t1 : ((k : Int) == (ny : Int)) = false := by rw [beq_eq_false_iff_ne]; omega
              have t3 : ((i : Int) == (nx : Int)) = false := by rw [beq_eq_false_iff_ne]; omega
              have t4 : Op.bytesLess KP.toList KQ.toList = false := by rw [HP.out.2.1, HQ.out.2.1, less_str]; simpa using hlt
              have t5 : Op.bytesLess KQ.toList KP.toList = false := by rw [HP.out.2.1, HQ.out.2.1, less_str]; simpa using hgt
              have HLT := Lib.hid (And.intro hlt (And.intro hgt heq))
              clear hlt hgt
              go_wp2_with fail
              go_quiet (fail)
              generalize hV : wr.drewN nq = V1
              have mV1 : Mod No wr V1 := by rw [← hV]; exact Mod.drewN (Mod.refl _ _) _
              clear hV
              have cXV1 : V1.cell? ⟨bX, oX + i * 33, none⟩ = some (.string KP) := mV1.cell cX0 (fun f => f)
              have cYV1 : V1.cell? ⟨bY, oY + k * 33, none⟩ = some (.string KQ) := mV1.cell cY0 (fun f => f)
              go_wp2_with fail
              go_quiet (fail)
              generalize hV : V1.drewN nq = V2
              have mV2 : Mod No wr V2 := by rw [← hV]; exact Mod.drewN mV1 _
              clear hV
              clear mV1 cXV1 cYV1
              have hlp := fun (U : World) (hU : Mod No wr U) => tenLoad_mid U bX (oX + i * 33) p.cells p.len (fun j u hj => hU.cell (HP.out.2.2.2 j u hj) (fun f => f))
              have hlq := fun (U : World) (hU : Mod No wr U) => tenLoad_mid U bY (oY + k * 33) q.cells q.len (fun j u hj => hU.cell (HQ.out.2.2.2 j u hj) (fun f => f))
              have hsm := HR.out.2.2.2.2.2.2.1 p (List.mem_of_getElem? HP.out.1)
              have hsame := fun (U : World) (hU : Mod No wr U) => rsame_ok p.t q.t _ _ (HP.out.2.2.1.keeps (hU.keeps (fun _ _ _ f => f))).val (HQ.out.2.2.1.keeps (hU.keeps (fun _ _ _ f => f))).val (by have := hsm.1; omega) (by have := hsm.2.1; omega) (by have := hsm.2.2.1; omega)
              have hd : decide (p.t = q.t) = true := by simpa using HLT.out.2.2
              rw [hd] at hsame
              obtain ⟨CP, hCP⟩ : ∃ CP, CP = p.cells.toArray := ⟨_, rfl⟩
              obtain ⟨CQ, hCQ⟩ : ∃ CQ, CQ = q.cells.toArray := ⟨_, rfl⟩
              rw [← hCP] at hsame hlp
              rw [← hCQ] at hsame hlq
              have HSA := Lib.hid (And.intro hsame (And.intro hlp hlq))
              have HV2 := Lib.hid mV2
              clear heq hsame hlp hlq hsm hd hCP hCQ mV2
              go_wp2_with fail
              go_region_held3 (fun U => (tenLoad (.pointer (some ⟨bX, oX + i * 33, none⟩))).run Try.prog U = .ok (.agg CP) U ∧ (tenLoad (.pointer (some ⟨bY, oY + k * 33, none⟩))).run Try.prog U = .ok (.agg CQ) U)
                (exact ⟨HSA.out.2.1 _ (by (repeat (first | with_reducible exact HV2.out | with_reducible refine Mod.trans ?_ m9 | refine Mod.drew ?_))), HSA.out.2.2 _ (by (repeat (first | with_reducible exact HV2.out | with_reducible refine Mod.trans ?_ m9 | refine Mod.drew ?_)))⟩)
                (first | (go_at_call 33; refine (HSA.out.1 _ ?_).mono ?_; (repeat (first | with_reducible exact HV2.out | refine Mod.drew ?_)); rintro e w9 ⟨rfl, m9⟩))
              all_goals
                have mw9 : Mod No wr w9 := HV2.out.drew.trans m9
                have HPU := Lib.hid (And.intro (HC.out.2.2.1.mod mw9) (And.intro ((Mod.refl (fun j => B3 ≤ j) w9)) mw9))
                clear mw9 m9
                go_wp2_with fail
                refine ⟨⟨i + 1, k + 1, acc, by first | rfl | go_num, by first | rfl | go_num, by omega, by omega, ?_, by have := HC.out.2.1; omega, HPU.out.1, ?_⟩, by simp [intOf]; omega⟩
                · rw [← HC.out.1, dropT HP.out.1, dropT HQ.out.1, mg_eq (show ¬ p.t.name < q.t.name from HLT.out.1) (show ¬ q.t.name < p.t.name from HLT.out.2.1) HLT.out.2.2]
                · exact (HC.out.2.2.2.1.trans HPU.out.2.2).trans' HPU.out.2.1 (fun j hj f => by have := HR.out.2.2.2.2.2.2.2; omega)
            · as_aux_lemma =>
              have t1 : ((k : Int) == (ny : Int)) = false := by rw [beq_eq_false_iff_ne]; omega
              have t3 : ((i : Int) == (nx : Int)) = false := by rw [beq_eq_false_iff_ne]; omega
              have t4 : Op.bytesLess KP.toList KQ.toList = false := by rw [HP.out.2.1, HQ.out.2.1, less_str]; simpa using hlt
              have t5 : Op.bytesLess KQ.toList KP.toList = false := by rw [HP.out.2.1, HQ.out.2.1, less_str]; simpa using hgt
              have HLT := Lib.hid (And.intro hlt (And.intro hgt heq))
              clear hlt hgt
              go_wp2_with fail
              go_quiet (fail)
              generalize hV : wr.drewN nq = V1
              have mV1 : Mod No wr V1 := by rw [← hV]; exact Mod.drewN (Mod.refl _ _) _
              clear hV
              have cXV1 : V1.cell? ⟨bX, oX + i * 33, none⟩ = some (.string KP) := mV1.cell cX0 (fun f => f)
              have cYV1 : V1.cell? ⟨bY, oY + k * 33, none⟩ = some (.string KQ) := mV1.cell cY0 (fun f => f)
              go_wp2_with fail
              go_quiet (fail)
              generalize hV : V1.drewN nq = V2
              have mV2 : Mod No wr V2 := by rw [← hV]; exact Mod.drewN mV1 _
              clear hV
              clear mV1 cXV1 cYV1
              have hlp := fun (U : World) (hU : Mod No wr U) => tenLoad_mid U bX (oX + i * 33) p.cells p.len (fun j u hj => hU.cell (HP.out.2.2.2 j u hj) (fun f => f))
              have hlq := fun (U : World) (hU : Mod No wr U) => tenLoad_mid U bY (oY + k * 33) q.cells q.len (fun j u hj => hU.cell (HQ.out.2.2.2 j u hj) (fun f => f))
              have hsm := HR.out.2.2.2.2.2.2.1 p (List.mem_of_getElem? HP.out.1)
              have hsame := fun (U : World) (hU : Mod No wr U) => rsame_ok p.t q.t _ _ (HP.out.2.2.1.keeps (hU.keeps (fun _ _ _ f => f))).val (HQ.out.2.2.1.keeps (hU.keeps (fun _ _ _ f => f))).val (by have := hsm.1; omega) (by have := hsm.2.1; omega) (by have := hsm.2.2.1; omega)
              have hd : decide (p.t = q.t) = false := by simpa using HLT.out.2.2
              rw [hd] at hsame
              obtain ⟨CP, hCP⟩ : ∃ CP, CP = p.cells.toArray := ⟨_, rfl⟩
              obtain ⟨CQ, hCQ⟩ : ∃ CQ, CQ = q.cells.toArray := ⟨_, rfl⟩
              rw [← hCP] at hsame hlp
              rw [← hCQ] at hsame hlq
              have HSA := Lib.hid (And.intro hsame (And.intro hlp hlq))
              have HV2 := Lib.hid mV2
              clear heq hsame hlp hlq hsm hd hCP hCQ mV2
              go_wp2_with fail
              go_region_held3 (fun U => (tenLoad (.pointer (some ⟨bX, oX + i * 33, none⟩))).run Try.prog U = .ok (.agg CP) U ∧ (tenLoad (.pointer (some ⟨bY, oY + k * 33, none⟩))).run Try.prog U = .ok (.agg CQ) U)
                (exact ⟨HSA.out.2.1 _ (by (repeat (first | with_reducible exact HV2.out | with_reducible refine Mod.trans ?_ m9 | refine Mod.drew ?_))), HSA.out.2.2 _ (by (repeat (first | with_reducible exact HV2.out | with_reducible refine Mod.trans ?_ m9 | refine Mod.drew ?_)))⟩)
                (first | (go_at_call 33; refine (HSA.out.1 _ ?_).mono ?_; (repeat (first | with_reducible exact HV2.out | refine Mod.drew ?_)); rintro e w9 ⟨rfl, m9⟩))
              all_goals
                have mV : Mod No wr w9 := HV2.out.drew.trans m9
                clear m9
                go_wp2_with fail
                have cY1 : w9.cell? ⟨bY, oY + k * 33, none⟩ = some (.string KQ) := mV.cell cY0 (fun f => f)
                have hlq := fun (U : World) (hU : Mod No wr U) => tenLoad_mid U bY (oY + k * 33) q.cells q.len (fun j u hj => hU.cell (HQ.out.2.2.2 j u hj) (fun f => f))
                have hl0 := hlq w9 mV
                have hl1 := hlq w9.drew mV.drew
                obtain ⟨v', w', hrun, hpush, hmm⟩ := (HC.out.2.2.1.mod mV.drew).push (by have := HC.out.2.2.2.2; have := mV.drew.size; omega) HS3.out (x := ⟨true, q.nm, q⟩) (HQ.out.2.2.1.keeps (mV.drew.keeps (fun _ _ _ f => f))) (by have := HC.out.2.1; omega)
                have hrun' : (chgAppend _ (.slice (some ⟨w9.heap.size, 0, none⟩) 1 1)).run Try.prog (w9.alloc (.cells (Cg.mk true q.nm q).cells.toArray 47)).drew = .ok v' w' := hrun
                have hb3 : ∀ W, (cgB3 (.bool true) (.string KQ) (.agg q.cells.toArray)).run Try.prog W = .ok (.agg (Cg.mk true q.nm q).cells.toArray) W := fun W => by rw [cg_full, ← HQ.out.2.1]; exact cgB3_run true KQ q.cells.toArray rfl W
                have hs3 := cgSlice_run (Cg.mk true q.nm q).cells.toArray (by simp [cg_len])
                obtain ⟨CC, hCC⟩ : ∃ CC, CC = (Cg.mk true q.nm q).cells.toArray := ⟨_, rfl⟩
                obtain ⟨CQ2, hCQ⟩ : ∃ CQ, CQ = q.cells.toArray := ⟨_, rfl⟩
                rw [← hCC] at hrun' hb3 hs3
                rw [← hCQ] at hl0 hl1 hb3
                have HPU := Lib.hid (And.intro hpush (And.intro hmm mV.drew))
                clear hpush hmm mV cY0 hCC hCQ hlq hrun
                go_wp2_with fail
                go_region
                all_goals
                  go_wp2_with fail
                  refine ⟨⟨i + 1, k + 1, acc ++ [⟨true, q.nm, q⟩], by first | rfl | go_num, by first | rfl | go_num, by omega, by omega, ?_, by have := HC.out.2.1; simp; omega, HPU.out.1, ?_⟩, by simp [intOf]; omega⟩
                  · rw [← HC.out.1, dropT HP.out.1, dropT HQ.out.1, mg_ne (show ¬ p.t.name < q.t.name from HLT.out.1) (show ¬ q.t.name < p.t.name from HLT.out.2.1) HLT.out.2.2, List.map_append, List.append_assoc]; rfl
                  · exact (HC.out.2.2.2.1.trans HPU.out.2.2).trans' HPU.out.2.1 (fun j hj f => by have := HR.out.2.2.2.2.2.2.2; omega)
      · as_aux_lemma =>
        obtain ⟨bX, oX, eX, _, _, hcX⟩ := (HR.out.1.keeps (HC.out.2.2.2.1.keeps (fun _ _ _ f => f))).elem TV.cells 33 TV.len (by omega) hp
        have cX0 := hcX 0 (.string (str p.nm)) rfl
        rw [Nat.add_zero] at cX0
        obtain ⟨KP, hKP⟩ : ∃ KP, KP = str p.nm := ⟨_, rfl⟩
        rw [← hKP] at cX0
        have hpr : p.Rows S wr := (HR.out.2.2.1 p (List.mem_of_getElem? hp)).keeps (HC.out.2.2.2.1.keeps (fun _ _ _ f => f))
        have HP := Lib.hid (And.intro hp (And.intro hKP (And.intro hpr hcX)))
        have p1 : (0:Int) ≤ i := by omega
        have p2 : (i:Int) < nx := by omega
        clear hKP hpr hcX hp
        subst eX
        obtain rfl : k = ny := by omega
        have t1 : ((k : Int) == (k : Int)) = true := by simp
        have hYn : (Y.drop k).map (·.t) = [] := by rw [List.drop_of_length_le (by have := HR.out.2.2.2.2.2.1; omega)]; rfl
        have HYN := Lib.hid hYn
        clear hYn
        go_wp2_with fail
        go_quiet (fail)
        generalize hV : wr.drewN nq = V
        have mV : Mod No wr V := by rw [← hV]; exact Mod.drewN (Mod.refl _ _) _
        clear hV
        have cX1 : V.cell? ⟨bX, oX + i * 33, none⟩ = some (.string KP) := mV.cell cX0 (fun f => f)
        obtain ⟨v', w', hrun, hpush, hmm⟩ := (HC.out.2.2.1.mod mV).push (by have := HC.out.2.2.2.2; have := mV.size; omega) HS3.out (x := ⟨false, p.nm, zTV⟩) (zTV_rows _ _) (by have := HC.out.2.1; omega)
        have hb1 : ∀ W, (cgB1 (.string KP)).run Try.prog W = .ok (.agg (Cg.mk false p.nm zTV).cells.toArray) W := fun W => by rw [cg_zero, ← HP.out.2.1]; exact cgB1_run KP W
        have hs1 := cgSlice_run (Cg.mk false p.nm zTV).cells.toArray (by simp [cg_len])
        obtain ⟨CC, hCC⟩ : ∃ CC, CC = (Cg.mk false p.nm zTV).cells.toArray := ⟨_, rfl⟩
        rw [← hCC] at hrun hb1 hs1
        have HPU := Lib.hid (And.intro hpush (And.intro hmm mV))
        clear hpush hmm mV cX0 hCC
        go_wp2_with fail
        refine ⟨⟨i + 1, k, acc ++ [⟨false, p.nm, zTV⟩], by first | rfl | go_num, by first | rfl | go_num, by omega, by omega, ?_, by have := HC.out.2.1; simp; omega, HPU.out.1, ?_⟩, by simp [intOf]; omega⟩
        · rw [← HC.out.1, dropT HP.out.1, HYN.out, mg_l, List.map_append, List.append_assoc]; rfl
        · exact (HC.out.2.2.2.1.trans HPU.out.2.2).trans' HPU.out.2.1 (fun j hj f => by have := HR.out.2.2.2.2.2.2.2; omega)
    · by_cases hky : k < ny
      · as_aux_lemma =>
        obtain ⟨q, hq⟩ : ∃ q, Y[k]? = some q := ⟨_, List.getElem?_eq_getElem (by have := HR.out.2.2.2.2.2.1; omega)⟩
        obtain ⟨bY, oY, eY, _, _, hcY⟩ := (HR.out.2.1.keeps (HC.out.2.2.2.1.keeps (fun _ _ _ f => f))).elem TV.cells 33 TV.len (by omega) hq
        have cY0 := hcY 0 (.string (str q.nm)) rfl
        rw [Nat.add_zero] at cY0
        obtain ⟨KQ, hKQ⟩ : ∃ KQ, KQ = str q.nm := ⟨_, rfl⟩
        rw [← hKQ] at cY0
        have hqr : q.Rows S wr := (HR.out.2.2.2.1 q (List.mem_of_getElem? hq)).keeps (HC.out.2.2.2.1.keeps (fun _ _ _ f => f))
        have HQ := Lib.hid (And.intro hq (And.intro hKQ (And.intro hqr hcY)))
        have q1 : (0:Int) ≤ k := by omega
        have q2 : (k:Int) < ny := by omega
        clear hKQ hqr hcY hq
        subst eY
        obtain rfl : i = nx := by omega
        have t1 : ((k : Int) == (ny : Int)) = false := by rw [beq_eq_false_iff_ne]; omega
        have t2 : decide ((i : Int) < (i : Int)) = false := by simp
        have t3 : ((i : Int) == (i : Int)) = true := by simp
        have hXn : (X.drop i).map (·.t) = [] := by rw [List.drop_of_length_le (by have := HR.out.2.2.2.2.1; omega)]; rfl
        have HXN := Lib.hid hXn
        clear hXn
        go_wp2_with fail
        go_quiet (fail)
        generalize hV : wr.drewN nq = V1
        have mV1 : Mod No wr V1 := by rw [← hV]; exact Mod.drewN (Mod.refl _ _) _
        clear hV
        go_wp2_with fail
        go_quiet (fail)
        generalize hV : V1.drewN nq = V
        have mV : Mod No wr V := by rw [← hV]; exact Mod.drewN mV1 _
        clear hV
        clear mV1
        have cY1 : V.cell? ⟨bY, oY + k * 33, none⟩ = some (.string KQ) := mV.cell cY0 (fun f => f)
        have hlq := fun (U : World) (hU : Mod No wr U) => tenLoad_mid U bY (oY + k * 33) q.cells q.len (fun j u hj => hU.cell (HQ.out.2.2.2 j u hj) (fun f => f))
        have hl0 := hlq V mV
        have hl1 := hlq V.drew mV.drew
        obtain ⟨v', w', hrun, hpush, hmm⟩ := (HC.out.2.2.1.mod mV.drew).push (by have := HC.out.2.2.2.2; have := mV.drew.size; omega) HS3.out (x := ⟨true, q.nm, q⟩) (HQ.out.2.2.1.keeps (mV.drew.keeps (fun _ _ _ f => f))) (by have := HC.out.2.1; omega)
        have hrun' : (chgAppend _ (.slice (some ⟨V.heap.size, 0, none⟩) 1 1)).run Try.prog (V.alloc (.cells (Cg.mk true q.nm q).cells.toArray 47)).drew = .ok v' w' := hrun
        have hb3 : ∀ W, (cgB3 (.bool true) (.string KQ) (.agg q.cells.toArray)).run Try.prog W = .ok (.agg (Cg.mk true q.nm q).cells.toArray) W := fun W => by rw [cg_full, ← HQ.out.2.1]; exact cgB3_run true KQ q.cells.toArray rfl W
        have hs3 := cgSlice_run (Cg.mk true q.nm q).cells.toArray (by simp [cg_len])
        obtain ⟨CC, hCC⟩ : ∃ CC, CC = (Cg.mk true q.nm q).cells.toArray := ⟨_, rfl⟩
        obtain ⟨CQ, hCQ⟩ : ∃ CQ, CQ = q.cells.toArray := ⟨_, rfl⟩
        rw [← hCC] at hrun' hb3 hs3
        rw [← hCQ] at hl0 hl1 hb3
        have HPU := Lib.hid (And.intro hpush (And.intro hmm mV.drew))
        clear hpush hmm mV cY0 hCC hCQ hlq hrun
        go_wp2_with fail
        go_region
        all_goals
          go_wp2_with fail
          refine ⟨⟨i, k + 1, acc ++ [⟨true, q.nm, q⟩], by first | rfl | go_num, by first | rfl | go_num, by omega, by omega, ?_, by have := HC.out.2.1; simp; omega, HPU.out.1, ?_⟩, by simp [intOf]; omega⟩
          · rw [← HC.out.1, dropT HQ.out.1, HXN.out, mg_r, List.map_append, List.append_assoc]; rfl
          · exact (HC.out.2.2.2.1.trans HPU.out.2.2).trans' HPU.out.2.1 (fun j hj f => by have := HR.out.2.2.2.2.2.2.2; omega)
      · as_aux_lemma =>
        obtain rfl : i = nx := by omega
        obtain rfl : k = ny := by omega
        go_wp2_with fail
        go_ret
        refine ⟨_, rfl, acc, HC.out.2.2.1.lower ?_, ?_, HD.out.2.2.1.trans HC.out.2.2.2.1⟩
        · have := HR.out.2.2.2.2.2.2.2; have := HD.out.2.2.1.size; omega
        · have := HC.out.1
          rw [List.drop_of_length_le (by have := HR.out.2.2.2.2.1; omega), List.drop_of_length_le (by have := HR.out.2.2.2.2.2.1; omega)] at this
          rw [← HD.out.1, ← this]
          simp [mg, mrg]
end

section
open Go.RowKit
set_option linter.unusedVariables false
attribute [local go_sem ↓] Go.wp_at_zero Go.wp_at_succ
attribute [local go_sem ↓] store_fold alloc_fold load_fold
instance : Inhabited TV := ⟨zTV⟩
instance : Inhabited Cg := ⟨⟨false, [], zTV⟩⟩
/-! ### arguments -/
section
open Go.ChangeShapes Go.WideShapes Go.ChangeAt Go.Deep
variable {H : Type} {enc : TypeId × Value → H} {w : World}
theorem open_tensG {fuel : Nat} {A : Option Addr} {len cap : Nat} {x : DataW H × List MemPlace} (h : DataW.trod enc Try.prog w 0 (fun _ => true) true fuel 22 [.slice A len cap] = some x) :
    ∃ l : List TV, l.length = len ∧ len ≤ 9223372036854775807 ∧ len ≤ cap ∧ RowAt (fun _ => True) w A (tvCells l) ∧ ∀ a ∈ l, a.Open w :=
  open_slice_of (P := Try.prog) TV.cells 33 TV.len (by decide) (fun a => a.Open w) Try.underlying22 coTen (fun n cs y h => open_tv h) h
theorem open_chgsG {fuel : Nat} {A : Option Addr} {len cap : Nat} {x : DataW H × List MemPlace} (h : DataW.trod enc Try.prog w 0 (fun _ => true) true fuel 23 [.slice A len cap] = some x) :
    ∃ l : List Cg, l.length = len ∧ len ≤ 9223372036854775807 ∧ len ≤ cap ∧ RowAt (fun _ => True) w A (l.flatMap Cg.cells) ∧ ∀ a ∈ l, a.x.Open w :=
  open_slice_of (P := Try.prog) Cg.cells 35 cg_len (by decide) (fun a => a.x.Open w) Try.underlying23 coChg (fun n cs y h => by
    obtain ⟨put, name, x, e, o⟩ := open_chg h
    refine ⟨⟨put, name, x⟩, ?_, o⟩
    simp only [Cg.cells]
    rw [← e]) h
end
/-! ### light -/
def cgLight (c : Cg) : Bool := light c.x.t && decide (c.name.length ≤ 300)
def light15 (a b : List TV) (cs : List Cg) : Bool := (cs.take 20).all cgLight && decide (cs.length ≤ 20) && lights a 20 && lights b 20
theorem light15_of {a b : List TV} {cs : List Cg} (h : light15 a b cs = true) : (a.length ≤ 20 ∧ ∀ x ∈ a, light x.t = true) ∧ (b.length ≤ 20 ∧ ∀ x ∈ b, light x.t = true) ∧ cs.length ≤ 20 ∧ ∀ c ∈ cs, light c.x.t = true ∧ c.name.length ≤ 300 := by
  simp only [light15, Bool.and_eq_true, decide_eq_true_eq, List.all_eq_true] at h
  obtain ⟨⟨⟨h1, h2⟩, h3⟩, h4⟩ := h
  refine ⟨lights_of h3, lights_of h4, h2, fun c hc => ?_⟩
  have := h1 c (by rw [List.take_of_length_le h2]; exact hc)
  simpa [cgLight] using this
theorem take_snoc3 {α : Type} {l : List α} {k : Nat} {x : α} (h : l[k]? = some x) : l.take (k + 1) = l.take k ++ [x] := by
  obtain ⟨hl, e⟩ := List.getElem?_eq_some_iff.1 h
  rw [List.take_succ_eq_append_getElem hl, e]
set_option maxRecDepth 100000 in
set_option maxHeartbeats 1000000 in
theorem light15_ok {w : World} (a b : List TV) (cs : List Cg) {A A2 C : Option Addr} {c c2 d : Nat} (hA : RowAt (fun _ => True) w A (tvCells a)) (hAo : ∀ x ∈ a, x.Open w) (hAl : a.length ≤ 9223372036854775807)
    (hB : RowAt (fun _ => True) w A2 (tvCells b)) (hBo : ∀ x ∈ b, x.Open w) (hBl : b.length ≤ 9223372036854775807) (hC : RowAt (fun _ => True) w C (cs.flatMap Cg.cells)) (hCo : ∀ c ∈ cs, c.x.Open w) (hCl : cs.length ≤ 9223372036854775807) :
    Calls Try.prog 9 #[.slice A a.length c, .slice A2 b.length c2, .slice C cs.length d] w fun e w' => e = .returned (.bool (light15 a b cs)) ∧ Mod No w w' := by
  have hrow : ∀ {S : Nat → Prop} {A : Option Addr} {xs : List Value} (W : World), RowAt (fun _ => True) w A xs → Mod No w W → RowAt (fun _ => True) W A xs := fun W h hm => ((h.mono (S' := fun b => b < w.heap.size) (fun b hb _ => hb)).keeps (hm.keeps (fun _ _ _ f => f))).mono (fun _ _ _ => trivial)
  have hop : ∀ (x : TV) (W : World), x.Open w → Mod No w W → x.Open W := fun x W h hm => ⟨(h.here.keeps (hm.keeps (fun _ _ _ f => f))).imp (fun _ _ => trivial), h.wf⟩
  have hla := fun (W : World) (hm : Mod No w W) => lights_ok (w := W) (c := c) a 20 (by omega) hAl (hrow (S := No) W hA hm) (fun x hx => hop x W (hAo x hx) hm)
  have hlb := fun (W : World) (hm : Mod No w W) => lights_ok (w := W) (c := c2) b 20 (by omega) hBl (hrow (S := No) W hB hm) (fun x hx => hop x W (hBo x hx) hm)
  obtain ⟨r, hr⟩ : ∃ r, r = light15 a b cs := ⟨_, rfl⟩
  obtain ⟨n, hn⟩ : ∃ n, n = a.length := ⟨_, rfl⟩
  obtain ⟨n2, hn2⟩ : ∃ n, n = b.length := ⟨_, rfl⟩
  obtain ⟨m, hm⟩ : ∃ m, m = cs.length := ⟨_, rfl⟩
  obtain ⟨ra, hra⟩ : ∃ r, r = lights a 20 := ⟨_, rfl⟩
  obtain ⟨rb, hrb⟩ : ∃ r, r = lights b 20 := ⟨_, rfl⟩
  rw [← hn, ← hra] at hla
  rw [← hn2, ← hrb] at hlb
  rw [← hm] at hCl
  rw [← hr, ← hn, ← hn2, ← hm]
  have HLA := Lib.hid hla
  have HLB := Lib.hid hlb
  have H0 := Lib.hid (And.intro hr (And.intro hm (And.intro hra (And.intro hrb (And.intro (hC.mono (S' := fun b => b < w.heap.size) (fun b hb _ => hb)) hCo)))))
  clear hA hAo hAl hB hBo hBl hC hCo hla hlb hr hn hn2 hm hra hrb hrow hop
  go_enter Try.func9, Try.ntmps9
  go_wp2
  go_loopw [7] (fun i wr => ∃ k : Nat, i = .int .i64 k ∧ k ≤ m ∧ k ≤ 20 ∧ (cs.take k).all cgLight = true ∧ Mod No w wr) (fun i _ => 20 - (intOf i).toNat)
  case atStart => exact ⟨0, rfl, by omega, by omega, by simp, Mod.refl _ _⟩
  case round =>
    obtain ⟨k, rfl, hk, hk20, hall, hM⟩ := hrel
    have HK := Lib.hid (And.intro hall hM)
    clear hall hM
    by_cases hgo : k < m ∧ k < 20
    · obtain ⟨h1, h2⟩ := hgo
      obtain ⟨x, hx⟩ : ∃ x : Cg, cs[k]? = some x := ⟨_, List.getElem?_eq_getElem (by have := H0.out.2.1; omega)⟩
      obtain ⟨g, o, rfl, _, _, hcell⟩ := RowAt.elem Cg.cells 35 cg_len (by decide) (H0.out.2.2.2.2.1.keeps (HK.out.2.keeps (fun _ _ _ f => f))) hx
      have hxo := H0.out.2.2.2.2.2 x (List.mem_of_getElem? hx)
      have hld := tenLoad_mid wr g (o + k * 35 + 2) x.x.cells x.x.len (fun j v hj => by rw [Nat.add_assoc]; exact hcell (2 + j) v (by rw [cg_cells, Nat.add_comm 2 j]; simpa using hj))
      have f5 := hcell 1 (.string (str x.name)) (by rw [cg_cells]; rfl)
      have hT := light_ok (w := wr) x.x.t (.agg x.x.cells.toArray) ((hxo.here.keeps (HK.out.2.keeps (fun _ _ _ f => f))).val)
      obtain ⟨lx, hlx⟩ : ∃ lx, lx = light x.x.t := ⟨_, rfl⟩
      obtain ⟨KN, hKN⟩ : ∃ KN, KN = str x.name := ⟨_, rfl⟩
      obtain ⟨CX, hCX⟩ : ∃ CX, CX = x.x.cells.toArray := ⟨_, rfl⟩
      rw [← hlx, ← hCX] at hT
      rw [← hCX] at hld
      rw [← hKN] at f5
      have hsz : KN.size = x.name.length := by rw [hKN]; simp [str, ByteArray.size]
      obtain ⟨nl, hnl⟩ : ∃ nl : Nat, nl = x.name.length := ⟨_, rfl⟩
      rw [← hnl] at hsz
      obtain ⟨lb, hlb⟩ : ∃ lb, lb = decide (nl ≤ 300) := ⟨_, rfl⟩
      have t1 : decide ((300 : Int) < (nl : Int)) = !lb := by rw [hlb]; by_cases h : nl ≤ 300 <;> simp [h] <;> omega
      have f5' := fun (W : World) (hm : Mod No wr W) => hm.cell f5 (fun f => f)
      have HX := Lib.hid (And.intro hx (And.intro hlx (And.intro hnl (And.intro hlb f5'))))
      have HT := Lib.hid hT
      have p1 : (0:Int) ≤ k := by omega
      have p2 : (k:Int) < m := by omega
      have p3 : (k:Int) < 20 := by omega
      clear hx hlx hnl hlb f5' hT hcell hxo hKN hCX
      cases lx
      · go_wp2_with (first | (go_at_call 20; refine HT.out.mono ?_; rintro e w1 ⟨rfl, m1⟩; have H1 := Lib.hid m1; clear m1) | fail)
        go_ret
        refine ⟨?_, HK.out.2.trans H1.out⟩
        have : light15 a b cs = false := by
          cases hq : light15 a b cs with
          | false => rfl
          | true => have := (light15_of hq).2.2.2 x (List.mem_of_getElem? HX.out.1); rw [← HX.out.2.1] at this; simp at this
        rw [H0.out.1, this]; rfl
      · cases lb
        · go_wp2_with (first | (go_at_call 20; refine HT.out.mono ?_; rintro e w1 ⟨rfl, m1⟩; have f6 := HX.out.2.2.2.2 w1 m1; have H1 := Lib.hid m1; clear m1) | fail)
          go_ret
          refine ⟨?_, HK.out.2.trans H1.out⟩
          have : light15 a b cs = false := by
            cases hq : light15 a b cs with
            | false => rfl
            | true => have := ((light15_of hq).2.2.2 x (List.mem_of_getElem? HX.out.1)).2; have h9 := HX.out.2.2.2.1; rw [HX.out.2.2.1] at h9; simp [this] at h9
          rw [H0.out.1, this]; rfl
        · go_wp2_with (first | (go_at_call 20; refine HT.out.mono ?_; rintro e w1 ⟨rfl, m1⟩; have f6 := HX.out.2.2.2.2 w1 m1; have H1 := Lib.hid m1; clear m1) | fail)
          refine ⟨⟨k + 1, by go_num, by omega, by omega, ?_, HK.out.2.trans H1.out⟩, by simp [intOf]; omega⟩
          have h9 := HX.out.2.2.2.1
          rw [HX.out.2.2.1] at h9
          rw [take_snoc3 HX.out.1, List.all_append, HK.out.1]
          simp [cgLight, ← HX.out.2.1, ← h9]
    · have hres : light15 a b cs = (decide (m ≤ 20) && ra && rb) := by
        by_cases hm20 : m ≤ 20
        · have hkm : k = m := by omega
          have h1 : (cs.take 20).all cgLight = true := by
            rw [List.take_of_length_le (by have := H0.out.2.1; omega)]
            have := HK.out.1
            rwa [hkm, List.take_of_length_le (by have := H0.out.2.1; omega)] at this
          unfold light15
          rw [h1, ← H0.out.2.1, ← H0.out.2.2.1, ← H0.out.2.2.2.1]
          simp
        · unfold light15
          rw [← H0.out.2.1]
          simp [hm20]
      have H9 := Lib.hid hres
      have HB := Lib.hid (fun (v : Bool) (h : v = (decide (m ≤ 20) && ra && rb)) => h.trans (hres.symm.trans H0.out.1.symm))
      have t0 : (decide ((k : Int) < m) && decide ((k : Int) < 20)) = false := by
        rw [Bool.and_eq_false_iff]
        by_cases h : k < m
        · right; simp; omega
        · left; simp; omega
      obtain ⟨b20, hb20⟩ : ∃ b, b = decide (m ≤ 20) := ⟨_, rfl⟩
      have t2 : decide ((m : Int) ≤ 20) = b20 := by rw [hb20, decide_eq_decide]; omega
      have H20 := Lib.hid hb20
      clear hres hb20
      by_cases hkm : k < m
      · have p2 : decide ((k:Int) < m) = true := by simp; omega
        have p3 : decide ((k:Int) < 20) = false := by simp; omega
        have hb : b20 = false := by rw [H20.out]; simp; omega
        subst hb
        go_wp2_with fail
        go_ret
        exact ⟨(HB.out _ (by rw [← H20.out]; try simp)).symm ▸ rfl, HK.out.2⟩
      · have p2 : decide ((k:Int) < m) = false := by simp; omega
        cases b20
        · go_wp2_with fail
          go_ret
          exact ⟨(HB.out _ (by rw [← H20.out]; try simp)).symm ▸ rfl, HK.out.2⟩
        · cases ra
          · go_wp2_with (first | (go_at_call 21; refine (HLA.out _ HK.out.2).mono ?_; rintro e w1 ⟨rfl, m1⟩; have H1 := Lib.hid m1; clear m1) | fail)
            go_ret
            exact ⟨(HB.out _ (by rw [← H20.out]; try simp)).symm ▸ rfl, HK.out.2.trans H1.out⟩
          · go_wp2_with (first | (go_at_call_of 21 (Value.slice A n c); refine (HLA.out _ HK.out.2).mono ?_; rintro e w1 ⟨rfl, m1⟩; have H1 := Lib.hid (HK.out.2.trans m1); clear m1) | (go_at_call_of 21 (Value.slice A2 n2 c2); refine (HLB.out _ H1.out).mono ?_; rintro e w2 ⟨rfl, m2⟩; have H2 := Lib.hid (H1.out.trans m2); clear m2) | fail)
            go_ret
            exact ⟨(HB.out _ (by rw [← H20.out]; try simp)).symm ▸ rfl, H2.out⟩
end

section
open Go.RowKit
set_option linter.unusedVariables false
attribute [local go_sem ↓] Go.wp_at_zero Go.wp_at_succ
attribute [local go_sem ↓] store_fold alloc_fold load_fold
set_option maxRecDepth 100000 in
set_option maxHeartbeats 2000000 in
theorem chgs_same {S S' : Nat → Prop} {w : World} {A B : Option Addr} {n c d : Nat} {L L' : List Cg} (hA : CVl S w A L) (hB : CVl S' w B L') (hn : n = L.length) (he : L.map Cg.chg = L'.map Cg.chg)
    (hl : ∀ x ∈ L', x.x.t.pool.length ≤ 300 ∧ x.x.t.statics.length ≤ 300 ∧ x.x.t.twices.length ≤ 300) (h63 : n ≤ 9223372036854775807) :
    Calls Try.prog 16 #[.slice A n c, .slice B n d] w fun e w' => e = .returned (.bool true) ∧ Mod No w w' := by
  have hlen : L'.length = L.length := by have := congrArg List.length he; simpa using this.symm
  have H0 := Lib.hid (And.intro hA (And.intro hB (And.intro hn (And.intro he (And.intro hl hlen)))))
  clear hA hB hn he hl hlen
  go_enter Try.func16, Try.ntmps16
  go_wp2
  go_loopw [5] (fun i wr => ∃ j : Nat, i = .int .i64 j ∧ j ≤ n ∧ Mod No w wr) (fun i _ => n - (intOf i).toNat)
  case atStart => exact ⟨0, rfl, by omega, Mod.refl _ _⟩
  case round =>
    obtain ⟨j, rfl, hj, hmw⟩ := hrel
    have HM := Lib.hid hmw
    clear hmw
    by_cases hlt : j < n
    · obtain ⟨x, hx⟩ : ∃ x : Cg, L[j]? = some x := ⟨_, List.getElem?_eq_getElem (by have := H0.out.2.2.1; omega)⟩
      obtain ⟨y, hy⟩ : ∃ y : Cg, L'[j]? = some y := ⟨_, List.getElem?_eq_getElem (by have := H0.out.2.2.1; have := H0.out.2.2.2.2.2; omega)⟩
      have hxy : x.chg = y.chg := by
        have h1 := congrArg (fun l => l[j]?) H0.out.2.2.2.1
        simp only [List.getElem?_map, hx, hy, Option.map_some] at h1
        exact Option.some.inj h1
      have hput : x.put = y.put := congrArg Chg.put hxy
      have hnm : x.name = y.name := congrArg Chg.name hxy
      have ht : x.x.t = y.x.t := congrArg Chg.t hxy
      have hrA := H0.out.1.keeps (HM.out.keeps (fun _ _ _ f => f))
      have hrB := H0.out.2.1.keeps (HM.out.keeps (fun _ _ _ f => f))
      obtain ⟨g, o, rfl, _, _, hcx⟩ := RowAt.elem Cg.cells 35 cg_len (by decide) hrA.1 hx
      obtain ⟨g', o', rfl, _, _, hcy⟩ := RowAt.elem Cg.cells 35 cg_len (by decide) hrB.1 hy
      have hxr := hrA.2 x (List.mem_of_getElem? hx)
      have hyr := hrB.2 y (List.mem_of_getElem? hy)
      have hlb := H0.out.2.2.2.2.1 y (List.mem_of_getElem? hy)
      obtain ⟨sn, hsn⟩ : ∃ sn, sn = str x.name := ⟨_, rfl⟩
      obtain ⟨put, hpp⟩ : ∃ put, put = x.put := ⟨_, rfl⟩
      obtain ⟨TX, hTX⟩ : ∃ TX, TX = x.x.cells.toArray := ⟨_, rfl⟩
      obtain ⟨TY, hTY⟩ : ∃ TY, TY = y.x.cells.toArray := ⟨_, rfl⟩
      have hS : ∀ W, Mod No wr W → W.cell? ⟨g, o + j * 35, none⟩ = some (.bool put) ∧ W.cell? ⟨g', o' + j * 35, none⟩ = some (.bool put) ∧ W.cell? ⟨g, o + j * 35 + 1, none⟩ = some (.string sn) ∧ W.cell? ⟨g', o' + j * 35 + 1, none⟩ = some (.string sn) ∧
          (tenLoad (.pointer (some ⟨g, o + j * 35 + 2, none⟩))).run Try.prog W = .ok (.agg TX) W ∧ (tenLoad (.pointer (some ⟨g', o' + j * 35 + 2, none⟩))).run Try.prog W = .ok (.agg TY) W := fun W hW => by
        have k := fun (p : Addr) (u : Value) (h : wr.cell? p = some u) => hW.cell h (fun f => f)
        rw [hsn, hTX, hTY, hpp]
        refine ⟨k _ _ (hcx 0 (.bool x.put) (by rw [cg_cells]; rfl)), k _ _ ?_, k _ _ (hcx 1 (.string (str x.name)) (by rw [cg_cells]; rfl)), k _ _ ?_, ?_, ?_⟩
        · rw [hput]; exact hcy 0 (.bool y.put) (by rw [cg_cells]; rfl)
        · rw [hnm]; exact hcy 1 (.string (str y.name)) (by rw [cg_cells]; rfl)
        · exact tenLoad_mid _ g (o + j * 35 + 2) x.x.cells x.x.len (fun i v hi => k _ _ (by rw [Nat.add_assoc]; exact hcx (2 + i) v (by rw [cg_cells, Nat.add_comm 2 i]; simpa using hi)))
        · exact tenLoad_mid _ g' (o' + j * 35 + 2) y.x.cells y.x.len (fun i v hi => k _ _ (by rw [Nat.add_assoc]; exact hcy (2 + i) v (by rw [cg_cells, Nat.add_comm 2 i]; simpa using hi)))
      have hs : ∀ W, Mod No wr W → Calls Try.prog 15 #[.agg TX, .agg TY] W fun e w' => e = .returned (.bool true) ∧ Mod No W w' := fun W hW => by
        rw [hTX, hTY]
        exact tenant_same (w := W) (hxr.keeps (hW.keeps (fun _ _ _ f => f))) (hyr.keeps (hW.keeps (fun _ _ _ f => f))) ht hlb.1 hlb.2.1 hlb.2.2
      have HS := Lib.hid hs
      have HSS := Lib.hid hS
      have q0 : (put == put) = true := by cases put <;> rfl
      have q1 : (put != put) = false := by cases put <;> rfl
      have q2 : (sn.toList != sn.toList) = false := by simp
      have q3 : (sn.toList == sn.toList) = true := by simp
      have p1 : (0:Int) ≤ j := by omega
      have p2 : (j:Int) < n := by omega
      clear hs hTX hTY hS hsn hpp hx hy hxy hput hnm ht hrA hrB hcx hcy hxr hyr hlb
      go_wp2_with fail
      go_region_held3 (fun W => W.cell? ⟨g, o + j * 35, none⟩ = some (.bool put) ∧ W.cell? ⟨g', o' + j * 35, none⟩ = some (.bool put) ∧ W.cell? ⟨g, o + j * 35 + 1, none⟩ = some (.string sn) ∧ W.cell? ⟨g', o' + j * 35 + 1, none⟩ = some (.string sn) ∧
          (tenLoad (.pointer (some ⟨g, o + j * 35 + 2, none⟩))).run Try.prog W = .ok (.agg TX) W ∧ (tenLoad (.pointer (some ⟨g', o' + j * 35 + 2, none⟩))).run Try.prog W = .ok (.agg TY) W)
        (exact HSS.out _ (by (repeat (first | with_reducible exact Mod.refl _ _ | with_reducible refine Mod.trans ?_ m9 | refine Mod.drew ?_))))
        (first
          | (go_at_call 15; refine (HS.out _ ?_).mono ?_; (repeat (first | with_reducible exact Mod.refl _ _ | refine Mod.drew ?_)); rintro e w9 ⟨rfl, m9⟩))
      all_goals
        go_wp2
        exact ⟨⟨j + 1, by go_num, by omega, HM.out.trans (by (repeat (first | with_reducible exact Mod.refl _ _ | with_reducible refine Mod.trans ?_ m9 | refine Mod.drew ?_)))⟩, by simp [intOf]; omega⟩
    · obtain rfl : j = n := by omega
      go_wp2
      go_ret
      exact ⟨rfl, HM.out⟩
/-! ### what the program's functions leave, as lists that may be read -/
theorem OL.tvl {w : World} {base : Nat} {v : Value} {L : List TV} (h : OL shTen 34 w base v L) : ∃ A c, v = .slice A L.length c ∧ L.length ≤ c ∧ TVl (fun b => base ≤ b) w A L := by
  obtain ⟨A, c, e, hc, hr, hx⟩ := h.open
  simp only [shTen] at hr hx
  exact ⟨A, c, e, hc, hr, hx⟩
theorem OL.cvl {w : World} {base : Nat} {v : Value} {L : List Cg} (h : OL shChg 47 w base v L) : ∃ A c, v = .slice A L.length c ∧ L.length ≤ c ∧ CVl (fun b => base ≤ b) w A L := by
  obtain ⟨A, c, e, hc, hr, hx⟩ := h.open
  simp only [shChg] at hr hx
  exact ⟨A, c, e, hc, hr, hx⟩
theorem RLs.tvl {S : Nat → Prop} {w : World} {base : Nat} {v : Value} {L : List TV} (h : RLs S base w v L) : ∃ A c, v = .slice A L.length c ∧ L.length ≤ c ∧ TVl (fun b => S b ∨ base ≤ b) w A L := by
  obtain ⟨A, c, e, hc, hl⟩ := h.blk
  exact ⟨A, c, e, hc, hl.row.mono (fun _ _ h => .inr h), fun x hx => (h.rows x hx).lt (fun _ _ h => .inl h)⟩
theorem CL.cvl {S : Nat → Prop} {w : World} {base : Nat} {v : Value} {L : List Cg} (h : CL S base w v L) : ∃ A c, v = .slice A L.length c ∧ L.length ≤ c ∧ CVl (fun b => S b ∨ base ≤ b) w A L := by
  obtain ⟨A, c, e, hc, hl⟩ := h.open
  exact ⟨A, c, e, hc, hl.mono (fun _ _ h => .inr h), fun x hx => (h.rows x hx).lt (fun _ _ h => .inl h)⟩
/-- What an argument is read as, where it is light. -/
theorem tvl_of {w : World} {A : Option Addr} {l : List TV} (hr : RowAt (fun _ => True) w A (tvCells l)) (ho : ∀ x ∈ l, x.Open w) : TVl (fun b => b < w.heap.size) w A l :=
  ⟨hr.mono (fun b hb _ => hb), fun x hx => (ho x hx).here⟩
theorem cvl_of {w : World} {A : Option Addr} {l : List Cg} (hr : RowAt (fun _ => True) w A (l.flatMap Cg.cells)) (ho : ∀ x ∈ l, x.x.Open w) : CVl (fun b => b < w.heap.size) w A l :=
  ⟨hr.mono (fun b hb _ => hb), fun x hx => (ho x hx).here⟩
def Lt300 (t : Ten) : Prop := t.pool.length ≤ 300 ∧ t.statics.length ≤ 300 ∧ t.twices.length ≤ 300
theorem small_of {x : TV} (h : light x.t = true) : x.Small := by
  have := light_of h
  exact ⟨by omega, by omega, by omega, by omega⟩
theorem lt300_of {t : Ten} (h : light t = true) : Lt300 t := by
  have := light_of h
  exact ⟨by omega, by omega, by omega⟩
theorem lt300_zero : Lt300 Ten.zero := by unfold Lt300; simp [Ten.zero]
end

section
open Go.RowKit
set_option linter.unusedVariables false
attribute [local go_sem ↓] Go.wp_at_zero Go.wp_at_succ
theorem name1_ok (w : World) : Calls Try.prog 34 #[.int .i64 1] w fun e w' => e = .returned (.string (str [98])) ∧ w' = w := by
  go_enter Try.func34, Try.ntmps34
  go_wp2
  go_ret
  exact ⟨rfl, rfl⟩
theorem addr1_ok (w : World) : Calls Try.prog 35 #[.int .u8 10, .int .u8 9, .int .u8 0, .int .u8 2] w fun e w' => e = .returned (.int .u32 168361986) ∧ w' = w := by
  go_enter Try.func35, Try.ntmps35
  go_wp2
  go_ret
  exact ⟨rfl, rfl⟩
theorem addr2_ok (w : World) : Calls Try.prog 35 #[.int .u8 5, .int .u8 5, .int .u8 1, .int .u8 1] w fun e w' => e = .returned (.int .u32 84214017) ∧ w' = w := by
  go_enter Try.func35, Try.ntmps35
  go_wp2
  go_ret
  exact ⟨rfl, rfl⟩
theorem Mod.setAt {b i : Nat} {a W : World} (h : Mod (fun j => j = b) a W) (v : Value) : Mod (fun j => j = b) a (W.setCell ⟨b, i, none⟩ v) := Mod.setCell h (.inr rfl) v
theorem Mod.rowAt (W : World) (b : Nat) (cs : Array Value) : Mod (fun j => j = b) W (W.setRow b cs) := Mod.setRow (F := fun j => j = b) (Mod.refl _ _) (.inr rfl) cs
def seatB : Ten := { name := [98], vni := 101, key := ⟨2, 0, 0, 0, 0, 0, 0, 0⟩, vtep := 168361986, vmac := ⟨2, 9, 1, 0, 0, 0⟩, host := ⟨2, 7, 1, 0, 0, 0⟩, pool := [84214017], lo := 1024, hi := 1024, filter := 0, statics := [], twices := [], sess := 1, queue := 1, rate := 0, burst := 3 }
def seatB0 : Ten := { seatB with pool := [], lo := 0, hi := 0, sess := 0, queue := 0, burst := 0 }
/-- A tenant of which seven fields are told. -/
def tB7 (a b c d e f g : Value) : Sem Value := Instr.build 34 #[(0, a), (1, b), (2, c), (3, d), (4, e), (5, f), (9, g)]
theorem t_b7_fold (ρ : Operand → Value) (a b c d e f g : Operand) (dst : Option Tmp) (ty : TypeId) (pos : String) (after : Array Edge) (gd : Option (Nat × Bool)) :
    execOp ρ { dst := dst, op := .build 34 #[(0, a), (1, b), (2, c), (3, d), (4, e), (5, f), (9, g)], type := ty, pos := pos, after := after, guard := gd } = (do pure (Next.value (← tB7 (ρ a) (ρ b) (ρ c) (ρ d) (ρ e) (ρ f) (ρ g))) : Sem Next) := by
  show (do pure (Next.value (← Instr.build 34 (#[(0, a), (1, b), (2, c), (3, d), (4, e), (5, f), (9, g)].map fun (i, x) => (i, ρ x)))) : Sem Next) = _
  have hm : (#[((0 : Nat), a), (1, b), (2, c), (3, d), (4, e), (5, f), (9, g)].map fun (i, x) => (i, ρ x)) = #[(0, ρ a), (1, ρ b), (2, ρ c), (3, ρ d), (4, ρ e), (5, ρ f), (9, ρ g)] := by simp
  rw [hm]
  rfl
set_option maxRecDepth 100000 in
theorem tB7_run (s : ByteArray) (v : Int) (k0 k1 k2 k3 k4 k5 k6 k7 : Value) (vt : Int) (a0 a1 a2 a3 a4 a5 b0 b1 b2 b3 b4 b5 : Value) (f : Int) (W : World) :
    (tB7 (.string s) (.int .u32 v) (.agg #[k0, k1, k2, k3, k4, k5, k6, k7]) (.int .u32 vt) (.agg #[a0, a1, a2, a3, a4, a5]) (.agg #[b0, b1, b2, b3, b4, b5]) (.int .i64 f)).run Try.prog W =
      .ok (.agg #[.string s, .int .u32 v, k0, k1, k2, k3, k4, k5, k6, k7, .int .u32 vt, a0, a1, a2, a3, a4, a5, b0, b1, b2, b3, b4, b5, .slice none 0 0, .int .u16 0, .int .u16 0, .int .i64 f, .slice none 0 0, .slice none 0 0, .int .i64 0, .int .i64 0, .int .u32 0, .int .u32 0]) W := by
  kernel_rfl
attribute [local go_sem ↓] t_b7_fold store_fold alloc_fold load_fold
set_option maxRecDepth 100000 in
set_option maxHeartbeats 4000000 in
theorem seatB_ok (w : World) : Calls Try.prog 19 #[.int .i64 1, .int .u16 3] w fun e w' => ∃ x : TV, e = .returned (.agg x.cells.toArray) ∧ x.t = seatB ∧ x.Rows (fun b => w.heap.size ≤ b) w' ∧ Mod No w w' := by
  have h1 := name1_ok
  have h2 := addr1_ok
  have h3 := addr2_ok
  have hal := tenAlloc_run w
  have hal2 := tenAlloc_run (w.alloc (.cells zTen 34))
  obtain ⟨CB, hCB⟩ : ∃ CB : Array Value, CB = seatB0.cells (.slice none 0 0) (.slice none 0 0) (.slice none 0 0) := ⟨_, rfl⟩
  have hb7 : ∀ U, (tB7 (.string (str [98])) (.int .u32 101) (.agg #[.int .u8 2, .int .u8 0, .int .u8 0, .int .u8 0, .int .u8 0, .int .u8 0, .int .u8 0, .int .u8 0]) (.int .u32 168361986) (.agg #[.int .u8 2, .int .u8 9, .int .u8 1, .int .u8 0, .int .u8 0, .int .u8 0]) (.agg #[.int .u8 2, .int .u8 7, .int .u8 1, .int .u8 0, .int .u8 0, .int .u8 0]) (.int .i64 0)).run Try.prog U = .ok (.agg CB) U := fun U => by rw [hCB]; exact tB7_run _ _ _ _ _ _ _ _ _ _ _ _ _ _ _ _ _ _ _ _ _ _ _ _ U
  have hst := tenStore_new (w.alloc (.cells zTen 34)) CB (by rw [hCB]; rfl) (by rw [hCB]; exact ten_one _ _ _ _ _ _ _ _ _ _)
  obtain ⟨W, hW⟩ : ∃ W, W = (w.alloc (.cells zTen 34)).alloc (.cells CB 34) := ⟨_, rfl⟩
  have hWs : W.heap.size = w.heap.size + 2 := by rw [hW]; simp
  have hblk : W.heap[w.heap.size + 1]? = some (.cells CB 34 (0, 0)) := by rw [hW]; exact at21 w _ _
  have hblk0 : W.heap[w.heap.size]? = some (.cells zTen 34 (0, 0)) := by rw [hW]; exact at20 w _ _
  have mW : Mod No w W := by rw [hW]; exact ((Mod.refl _ _).alloc _).alloc _
  rw [show (w.alloc (.cells zTen 34)).heap.size = w.heap.size + 1 by simp] at hst hal2
  rw [← hW] at hst
  have HW := Lib.hid (And.intro hW (And.intro hWs (And.intro hblk (And.intro hblk0 (And.intro mW hCB)))))
  clear hW hWs hblk hblk0 mW hCB
  go_enter Try.func19, Try.ntmps19
  go_upto_region 3 with (first
    | (go_at_call 34; refine (h1 _).mono ?_; rintro e w1 ⟨rfl, rfl⟩)
    | (go_at_call 35; refine (h2 _).mono ?_; rintro e w1 ⟨rfl, rfl⟩))
  clear hal hal2 hb7 hst h1 h2
  have hZm : Mod No W (W.alloc (.cells #[.int .u32 84214017] 26)) := (Mod.refl _ _).alloc _
  have hZt := hZm.obj HW.out.2.2.1 (fun f => f)
  have f0 := blk_free hZt
  have z23 := (blk_cell hZt 23).trans (show CB[23]? = some (.slice none 0 0) by rw [HW.out.2.2.2.2.2]; rfl)
  have z24 := (blk_cell hZt 24).trans (show CB[24]? = some (.int .u16 0) by rw [HW.out.2.2.2.2.2]; rfl)
  have z25 := (blk_cell hZt 25).trans (show CB[25]? = some (.int .u16 0) by rw [HW.out.2.2.2.2.2]; rfl)
  have z29 := (blk_cell hZt 29).trans (show CB[29]? = some (.int .i64 0) by rw [HW.out.2.2.2.2.2]; rfl)
  have z30 := (blk_cell hZt 30).trans (show CB[30]? = some (.int .i64 0) by rw [HW.out.2.2.2.2.2]; rfl)
  have z31 := (blk_cell hZt 31).trans (show CB[31]? = some (.int .u32 0) by rw [HW.out.2.2.2.2.2]; rfl)
  have z32 := (blk_cell hZt 32).trans (show CB[32]? = some (.int .u32 0) by rw [HW.out.2.2.2.2.2]; rfl)
  have HZ := Lib.hid (And.intro hZm hZt)
  clear hZm hZt
  go_upto_region 17 with (first
    | (go_at_call 35; refine (h3 _).mono ?_; rintro e w1 ⟨rfl, e9⟩; rw [e9]; clear e9 w1))
  refine grab_w fun Z hZ => ?_
  have hm : Mod (fun j => j = w.heap.size + 1) (W.alloc (.cells #[.int .u32 84214017] 26)) Z := by
    rw [hZ]
    exact Mod.setAt (Mod.setAt (Mod.setAt (Mod.setAt (Mod.setAt (Mod.setAt (Mod.setAt (Mod.refl _ _) _) _) _) _) _) _) _
  have hp : Z.heap[W.heap.size]? = some (.cells #[.int .u32 84214017] 26 (0, 0)) := hm.obj (at10 W _) (by have := HW.out.2.1; omega)
  have h0 : Z.heap[w.heap.size]? = some (.cells zTen 34 (0, 0)) := hm.obj (HZ.out.1.obj HW.out.2.2.2.1 (fun f => f)) (by omega)
  have hMz : Mod No w Z := (HW.out.2.2.2.2.1.trans HZ.out.1).trans' hm (fun i hi f => by omega)
  obtain ⟨x, hx⟩ : ∃ x : TV, x = ⟨seatB, .slice (some ⟨W.heap.size, 0, none⟩) 1 1, .slice none 0 0, .slice none 0 0⟩ := ⟨_, rfl⟩
  have hxc : x.cells.toArray = (((((((CB.setIfInBounds 23 (.slice (some ⟨W.heap.size, 0, none⟩) 1 1)).setIfInBounds 24 (.int .u16 1024)).setIfInBounds 25 (.int .u16 1024)).setIfInBounds 29 (.int .i64 1)).setIfInBounds 30 (.int .i64 1)).setIfInBounds 31 (.int .u32 0)).setIfInBounds 32 (.int .u32 3)) := by
    rw [hx, HW.out.2.2.2.2.2]
    kernel_rfl
  have hb' : Z.heap[w.heap.size + 1]? = some (.cells x.cells.toArray 34 (0, 0)) := by
    rw [hZ, setCell_blk (setCell_blk (setCell_blk (setCell_blk (setCell_blk (setCell_blk (setCell_blk HZ.out.2 _) _) _) _) _) _) _, hxc]
    kernel_rfl
  have hxr : ∀ U, Mod (fun j => j = w.heap.size) Z U → x.Rows (fun b => w.heap.size ≤ b) U := fun U hU => by
    rw [hx]
    refine ⟨_, 1, none, 0, none, 0, rfl, rfl, rfl, .inr ⟨_, 0, rfl, by have := HW.out.2.1; show w.heap.size ≤ W.heap.size; omega, fun j u hj => ?_⟩, .nil _ _ _, .nil _ _ _⟩
    rw [Nat.zero_add, blk_cell (hU.obj hp (by have := HW.out.2.1; omega)) j]
    simpa [numCells, seatB] using hj
  have hld := tenLoad_run hb' (by rfl)
  have hst := tenStore_run h0 rfl (CA := x.cells.toArray) rfl (TV.one (hxr Z (Mod.refl _ _)))
  obtain ⟨CX, hCX⟩ : ∃ CX, CX = x.cells.toArray := ⟨_, rfl⟩
  rw [← hCX] at hld hst
  have HX := Lib.hid (And.intro hCX (And.intro hx (And.intro hxr (And.intro hMz h0))))
  clear hm hp h0 hMz hxc hb' hxr hCX hx hZ z23 z24 z25 z29 z30 z31 z32 f0
  go_wp2
  refine bodyPost_ret (results_cell_row rfl _ _ w.heap.size 34 CX (0, 0) _ rfl (setRow_heap _ _ _ _ _ _ HX.out.2.2.2.2) Try.underlying34 rfl (by rw [tenSize, HX.out.1]; rfl)) rfl ?_
  refine ⟨x, by rw [HX.out.1], by rw [HX.out.2.1], HX.out.2.2.1 _ (Mod.rowAt Z w.heap.size CX), Mod.setRow HX.out.2.2.2.1 (.inl (Nat.le_refl _)) _⟩
end

section
open Go.RowKit
set_option linter.unusedVariables false
attribute [local go_sem ↓] Go.wp_at_zero Go.wp_at_succ
attribute [local go_sem ↓] store_fold alloc_fold load_fold slice_op_fold cg_slice_fold cg_b1_fold
theorem sd_one {α : Type} {nm : α → Nm} (x : α) : Sd nm [x] := by simp [Sd]
theorem dff_one (t : Ten) : dff [] [t] = [⟨true, t.name, t⟩] := by
  unfold dff
  rw [applied_nil_of_sd (sd_one t), applied_nil_of_sd (nm := Ten.name) (l := []) .nil]
  exact (mg_r t []).trans (by simp [mg, mrg])
theorem applied_gone (t : Ten) : applied Ten.name [t] [⟨false, t.name, Ten.zero⟩] = [] := by
  refine sorted_ext (nm := Ten.name) (applied_sd _ _) .nil (fun n => ?_)
  rw [applied_look]
  simp only [List.foldl_cons, List.foldl_nil, lstep, Bool.false_eq_true, if_false]
  by_cases h : t.name = n
  · rw [if_pos h]; rfl
  · rw [if_neg h, look_cons, if_neg h]
/-- A list of one. -/
theorem one_tvl {U : World} {g : Nat} {x : TV} (hg : U.heap[g]? = some (.cells x.cells.toArray 34 (0, 0))) (hr : x.Rows (fun b => b < U.heap.size) U) : TVl (fun b => b < U.heap.size) U (some ⟨g, 0, none⟩) [x] := by
  refine ⟨.inr ⟨g, 0, rfl, lt_of_block hg, fun j u hj => ?_⟩, fun y hy => ?_⟩
  · rw [Nat.zero_add, blk_cell hg j]
    simpa [tvCells] using hj
  · obtain rfl : y = x := by simpa using hy
    exact hr
theorem one_all {x : TV} {p : TV → Prop} (h : p x) : ∀ y ∈ [x], p y := fun y hy => by
  obtain rfl : y = x := by simpa using hy
  exact h
theorem diff_one {U : World} {g : Nat} {x : TV} (hg : U.heap[g]? = some (.cells x.cells.toArray 34 (0, 0))) (hr : x.Rows (fun b => b < U.heap.size) U) (hs : x.Small) :
    Calls Try.prog 17 #[.slice none 0 0, .slice (some ⟨g, 0, none⟩) 1 1] U fun e w' => ∃ A c cg, e = .returned (.slice A 1 c) ∧ CVl (fun b => U.heap.size ≤ b) w' A [cg] ∧ cg.chg = ⟨true, x.nm, x.t⟩ ∧ Mod No U w' := by
  refine (diff_ok (w := U) (A := none) (n := 0) (c := 0) (A2 := some ⟨g, 0, none⟩) (n2 := 1) (c2 := 1) [] [x] (TVl.nil (fun b => b < U.heap.size) U none) rfl (by simp) (by simp) (one_tvl hg hr) rfl (by simp) (one_all hs) (fun b hb f => by have f' : b < U.heap.size := f; omega)).mono ?_
  rintro e w' ⟨v, L, rfl, hol, hLc, _, _, m⟩
  rw [show ([] : List TV).map (·.t) = [] from rfl, show [x].map (·.t) = [x.t] from rfl, dff_one] at hLc
  have hl := congrArg List.length hLc
  rw [List.length_map] at hl
  obtain ⟨cg, rfl⟩ := List.length_eq_one_iff.1 hl
  obtain ⟨A, c, rfl, _, hcv⟩ := hol.cvl
  exact ⟨A, c, cg, rfl, hcv, (List.cons.inj hLc).1, m⟩
theorem find_one {U : World} {g : Nat} {x : TV} (hg : U.heap[g]? = some (.cells x.cells.toArray 34 (0, 0))) (hr : x.Rows (fun b => b < U.heap.size) U) (hs : x.Small) {q : Nm} (hq : x.nm = q) :
    Calls Try.prog 10 #[.slice (some ⟨g, 0, none⟩) 1 1, .string (str q)] U fun e w' => ∃ y : TV, e = .returned (.tuple #[.agg y.cells.toArray, .bool true]) ∧ y.t = x.t ∧ y.Rows (fun b => U.heap.size ≤ b) w' ∧ Mod No U w' := by
  have hlk : look TV.nm [x] q = some x := by rw [look_cons, if_pos hq]
  have htx : tX [x] q = x := by unfold tX; rw [hlk]; rfl
  refine (find_ok (w := U) (A := some ⟨g, 0, none⟩) (n := 1) (c := 1) [x] (one_tvl hg hr) rfl (by simp) (one_all hs) (fun b hb f => by have f' : b < U.heap.size := f; omega) q (by rw [← hq]; exact hs.2.2.2)).mono ?_
  rintro e w' ⟨y, rfl, hy, hyr, m⟩
  rw [htx] at hy
  exact ⟨y, by rw [hlk]; rfl, hy, hyr, m⟩
theorem apply_one {U : World} {g g2 : Nat} {x : TV} (hg : U.heap[g]? = some (.cells x.cells.toArray 34 (0, 0))) (hr : x.Rows (fun b => b < U.heap.size) U) (hs : x.Small)
    (hg2 : U.heap[g2]? = some (.cells (Cg.mk false x.nm zTV).cells.toArray 47 (0, 0))) :
    Calls Try.prog 13 #[.slice (some ⟨g, 0, none⟩) 1 1, .slice (some ⟨g2, 0, none⟩) 1 1] U fun e w' => ∃ A c, e = .returned (.slice A 0 c) ∧ Mod No U w' := by
  have hC : CVl (fun b => b < U.heap.size) U (some ⟨g2, 0, none⟩) [Cg.mk false x.nm zTV] := by
    refine ⟨.inr ⟨g2, 0, rfl, lt_of_block hg2, fun j u hj => ?_⟩, fun y hy => ?_⟩
    · rw [Nat.zero_add, blk_cell hg2 j]
      simpa using hj
    · obtain rfl : y = Cg.mk false x.nm zTV := by simpa using hy
      exact zTV_rows _ _
  refine (apply_ok (w := U) (A := some ⟨g, 0, none⟩) (n := 1) (c := 1) (C := some ⟨g2, 0, none⟩) (m := 1) (d := 1) [x] [Cg.mk false x.nm zTV] (one_tvl hg hr) rfl (by simp) (one_all hs) (fun b hb f => by have f' : b < U.heap.size := f; omega) hC rfl (by simp) (fun y hy => by
    obtain rfl : y = Cg.mk false x.nm zTV := by simpa using hy
    exact ⟨hs.2.2.2, zTV_small⟩)).mono ?_
  rintro e w' ⟨v, L, rfl, hol, hLt, m⟩
  have h1 : applied Ten.name ([x].map (·.t)) ([Cg.mk false x.nm zTV].map Cg.chg) = [] := applied_gone x.t
  rw [h1] at hLt
  obtain rfl := List.map_eq_nil_iff.1 hLt
  obtain ⟨A, c, rfl, _⟩ := hol.tvl
  exact ⟨A, c, rfl, m⟩
set_option maxRecDepth 100000 in
set_option maxHeartbeats 4000000 in
theorem known15 (w : World) : Calls Try.prog 8 #[] w fun e w' => e = .returned (.bool true) ∧ Mod No w w' := by
  have HT := Lib.hid (seatB_ok w)
  have hal := tenAlloc_run
  clear hal
  go_enter Try.func8, Try.ntmps8
  go_upto_region 1 with fail
  go_upto_region 2 with (go_at_call 19; refine HT.out.mono ?_; rintro e w1 ⟨x, rfl, hxt, hxr, m1⟩; have hal := tenAlloc_run w1; have hst := tenStore_new w1 x.cells.toArray rfl (TV.one hxr); obtain ⟨CX, hCX⟩ : ∃ CX, CX = x.cells.toArray := ⟨_, rfl⟩; rw [← hCX] at hst ⊢; have HX := Lib.hid (And.intro hxt (And.intro hxr (And.intro m1 hCX))); clear hxt hxr m1 hCX)
  clear hal hst HT
  -- the tenant in its block
  generalize hV : w1.alloc (.cells CX 34) = V1
  have mV1 : Mod No w1 V1 := by rw [← hV]; exact (Mod.refl _ _).alloc _
  have hb1 : V1.heap[w1.heap.size]? = some (.cells CX 34 (0, 0)) := by rw [← hV]; exact at10 _ _
  clear hV
  obtain ⟨g1, hg1⟩ : ∃ g, g = w1.heap.size := ⟨_, rfl⟩
  rw [← hg1] at hb1 ⊢
  have hCs : CX.size = 33 := by rw [HX.out.2.2.2]; rfl
  have hmw : Mod No w V1 := HX.out.2.2.1.trans mV1
  have hld1 := fun (U : World) (hU : Mod No V1 U) => tenLoad_run (hU.obj hb1 (fun f => f)) hCs
  have hsl : ∀ U : World, (tenSlice (.agg CX)).run Try.prog U = .ok (.slice (some ⟨U.heap.size, 0, none⟩) 1 1) (U.alloc (.cells CX 34)) := ten_build CX hCs
  have hsm : x.Small := by unfold TV.Small; rw [HX.out.1]; simp [seatB]
  have hrx := fun (U : World) (hU : Mod No w1 U) => ((HX.out.2.1.lt (S' := fun b => b < w1.heap.size) (fun b hb _ => hb)).keeps (hU.keeps (fun _ _ _ f => f))).lt (S' := fun b => b < U.heap.size) (fun b hb _ => hb)
  have hnm : x.nm = [98] := by unfold TV.nm; rw [HX.out.1]; rfl
  have hD := fun (U : World) (g : Nat) (hU : Mod No w1 U) (hg : U.heap[g]? = some (.cells CX 34 (0, 0))) => diff_one (U := U) (g := g) (x := x) (by rw [← HX.out.2.2.2]; exact hg) (hrx U hU) hsm
  have hF := fun (U : World) (g : Nat) (hU : Mod No w1 U) (hg : U.heap[g]? = some (.cells CX 34 (0, 0))) => find_one (U := U) (g := g) (x := x) (by rw [← HX.out.2.2.2]; exact hg) (hrx U hU) hsm hnm
  have hA := fun (U : World) (g g2 : Nat) (hU : Mod No w1 U) (hg : U.heap[g]? = some (.cells CX 34 (0, 0))) (hg2 : U.heap[g2]? = some (.cells (Cg.mk false x.nm zTV).cells.toArray 47 (0, 0))) => apply_one (U := U) (g := g) (g2 := g2) (x := x) (by rw [← HX.out.2.2.2]; exact hg) (hrx U hU) hsm hg2
  have HA := Lib.hid hA
  have HD := Lib.hid hD
  have HF := Lib.hid hF
  have HO := Lib.hid (And.intro hrx (And.intro hsm (And.intro hmw (And.intro mV1 (And.intro hb1 (And.intro hld1 (And.intro hsl hnm)))))))
  have k0 := hld1 V1 (Mod.refl _ _)
  clear hrx hsm hD hF hA hmw mV1 hb1 hld1 hnm hg1
  go_upto_region 3 with (go_at_call 17; refine (HD.out _ _ (HO.out.2.2.2.1.trans ((Mod.refl _ _).alloc _)) (at10 _ _)).mono ?_; rintro e w2 ⟨AL, cL, cg, rfl, hcv, hcg, m2⟩; have HL := Lib.hid (And.intro hcv (And.intro hcg (((Mod.refl No V1).alloc _).trans m2))); clear hcv hcg m2)
  have k1 := HO.out.2.2.2.2.2.1 w2 HL.out.2.2
  clear k0
  go_upto_region 4 with (go_at_call 10; refine (HF.out _ _ ((HO.out.2.2.2.1.trans HL.out.2.2).trans ((Mod.refl _ _).alloc _)) (at10 _ _)).mono ?_; rintro e w3 ⟨y, rfl, hyt, hyr, m3⟩; have hal := tenAlloc_run w3; have hst := tenStore_new w3 y.cells.toArray rfl (TV.one hyr); obtain ⟨CY, hCY⟩ : ∃ CY, CY = y.cells.toArray := ⟨_, rfl⟩; rw [← hCY] at hst ⊢; have HY := Lib.hid (And.intro hyt (And.intro hyr (And.intro (((Mod.refl No w2).alloc _).trans m3) hCY))); clear hyt hyr m3 hCY)
  generalize hV : w3.alloc (.cells CY 34) = V
  have mV3 : Mod No w3 V := by rw [← hV]; exact (Mod.refl _ _).alloc _
  have hb3 : V.heap[w3.heap.size]? = some (.cells CY 34 (0, 0)) := by rw [← hV]; exact at10 _ _
  clear hV hal hst k1
  obtain ⟨g3, hg3⟩ : ∃ g, g = w3.heap.size := ⟨_, rfl⟩
  rw [← hg3] at hb3 ⊢
  have mV2 : Mod No w2 V := HY.out.2.2.1.trans mV3
  have mV1 : Mod No V1 V := HL.out.2.2.trans mV2
  have hcvV := HL.out.1.keeps (mV2.keeps (fun _ _ _ f => f))
  obtain ⟨gl, ol, rfl, _, _, hcl⟩ := RowAt.elem Cg.cells 35 cg_len (by decide) hcvV.1 (i := 0) (x := cg) rfl
  rw [Nat.zero_mul, Nat.add_zero] at hcl
  have hlr : cg.x.Rows _ V := hcvV.2 cg (by simp)
  have hput : cg.put = true := congrArg Chg.put HL.out.2.1
  have hcn : cg.name = [98] := (congrArg Chg.name HL.out.2.1).trans HO.out.2.2.2.2.2.2.2
  have hct : cg.x.t = x.t := congrArg Chg.t HL.out.2.1
  obtain ⟨CL, hCL⟩ : ∃ CL, CL = cg.x.cells.toArray := ⟨_, rfl⟩
  obtain ⟨K, hK⟩ : ∃ K, K = str cg.name := ⟨_, rfl⟩
  have q1 : (K.toList == [98]) = true := by
    rw [hK, hcn, ByteArray.toList_eq]
    simp [str]
  have hS : ∀ U, Mod No V U → U.cell? ⟨gl, ol, none⟩ = some (.bool true) ∧ U.cell? ⟨gl, ol + 1, none⟩ = some (.string K) ∧ (tenLoad (.pointer (some ⟨gl, ol + 2, none⟩))).run Try.prog U = .ok (.agg CL) U ∧ (tenLoad (.pointer (some ⟨g1, 0, none⟩))).run Try.prog U = .ok (.agg CX) U ∧ (tenLoad (.pointer (some ⟨g3, 0, none⟩))).run Try.prog U = .ok (.agg CY) U := fun U hU => by
    have k := fun (p : Addr) (u : Value) (h : V.cell? p = some u) => hU.cell h (fun f => f)
    refine ⟨k _ _ ?_, k _ _ ?_, ?_, HO.out.2.2.2.2.2.1 U (mV1.trans hU), tenLoad_run (hU.obj hb3 (fun f => f)) (by rw [HY.out.2.2.2]; rfl)⟩
    · have := hcl 0 (.bool cg.put) (by rw [cg_cells]; rfl)
      rwa [hput] at this
    · rw [hK]; exact hcl 1 (.string (str cg.name)) (by rw [cg_cells]; rfl)
    · rw [hCL]
      exact tenLoad_mid _ gl (ol + 2) cg.x.cells cg.x.len (fun i v hi => k _ _ (by rw [Nat.add_assoc]; exact hcl (2 + i) v (by rw [cg_cells, Nat.add_comm 2 i]; simpa using hi)))
  have hb300 : x.t.pool.length ≤ 300 ∧ x.t.statics.length ≤ 300 ∧ x.t.twices.length ≤ 300 := by rw [HX.out.1]; simp [seatB]
  have hT1 : ∀ U, Mod No V U → Calls Try.prog 15 #[.agg CL, .agg CX] U fun e w' => e = .returned (.bool true) ∧ Mod No U w' := fun U hU => by
    rw [hCL, HX.out.2.2.2]
    exact tenant_same (hlr.keeps (hU.keeps (fun _ _ _ f => f))) (HO.out.1 U (HO.out.2.2.2.1.trans (mV1.trans hU))) hct hb300.1 hb300.2.1 hb300.2.2
  have hT2 : ∀ U, Mod No V U → Calls Try.prog 15 #[.agg CY, .agg CX] U fun e w' => e = .returned (.bool true) ∧ Mod No U w' := fun U hU => by
    rw [HY.out.2.2.2, HX.out.2.2.2]
    exact tenant_same ((HY.out.2.1.keeps (mV3.keeps (fun _ _ _ f => f))).keeps (hU.keeps (fun _ _ _ f => f))) (HO.out.1 U (HO.out.2.2.2.1.trans (mV1.trans hU))) HY.out.1 hb300.1 hb300.2.1 hb300.2.2
  have hAp := fun (U : World) (a b : Nat) (hU : Mod No V U) => HA.out U a b (HO.out.2.2.2.1.trans (mV1.trans hU))
  obtain ⟨CC, hCC⟩ : ∃ CC, CC = (Cg.mk false x.nm zTV).cells.toArray := ⟨_, rfl⟩
  have hb1 : ∀ U, (cgB1 (.string ⟨#[98]⟩)).run Try.prog U = .ok (.agg CC) U := fun U => by rw [hCC, HO.out.2.2.2.2.2.2.2, cg_zero]; exact cgB1_run ⟨#[98]⟩ U
  have hs1 := cgSlice_run CC (by rw [hCC]; simp [cg_len])
  rw [← hCC] at hAp
  have HSS := Lib.hid hS
  have HTT := Lib.hid (And.intro hT1 hT2)
  have HAP := Lib.hid hAp
  have HMM := Lib.hid (HO.out.2.2.1.trans mV1)
  obtain ⟨s1, s2, s3, s4, s5⟩ := hS V (Mod.refl _ _)
  clear hS hT1 hT2 hAp mV1 mV2 mV3 hcvV hcl hlr hput hcn hct hCL hK hb3 hg3 hCC hb300 HA HD HF
  go_region_held3 (fun U => U.cell? ⟨gl, ol, none⟩ = some (.bool true) ∧ U.cell? ⟨gl, ol + 1, none⟩ = some (.string K) ∧ (tenLoad (.pointer (some ⟨gl, ol + 2, none⟩))).run Try.prog U = .ok (.agg CL) U ∧ (tenLoad (.pointer (some ⟨g1, 0, none⟩))).run Try.prog U = .ok (.agg CX) U ∧ (tenLoad (.pointer (some ⟨g3, 0, none⟩))).run Try.prog U = .ok (.agg CY) U)
    (exact HSS.out _ (by (repeat (first | with_reducible exact Mod.refl _ _ | with_reducible exact z3 | with_reducible exact z2 | with_reducible exact z1 | refine Mod.alloc ?_ _ | refine Mod.drew ?_))))
    (first
      | (go_at_call 15; have gd := z2; clear gd; refine (HTT.out.2 _ z2).mono ?_; rintro e w9 ⟨rfl, m9⟩; have z3 : Mod No V w9 := z2.trans m9)
      | (go_at_call 13; refine (HAP.out _ _ _ ?_ ?_ ?_).mono ?_; rotate_left 3; (rintro e w8 ⟨A8, c8, rfl, m8⟩; have z2 : Mod No V w8 := Mod.trans (by (repeat (first | with_reducible exact Mod.refl _ _ | with_reducible exact z1 | refine Mod.alloc ?_ _ | refine Mod.drew ?_))) m8); rotate_left; (repeat (first | with_reducible exact Mod.refl _ _ | with_reducible exact z1 | refine Mod.alloc ?_ _ | refine Mod.drew ?_)); (first | exact at20 _ _ _ | exact at21 _ _ _ | exact at20d _ _ _ | exact at21d _ _ _); (first | exact at20 _ _ _ | exact at21 _ _ _ | exact at20d _ _ _ | exact at21d _ _ _))
      | (go_at_call 15; refine (HTT.out.1 _ ?_).mono ?_; (repeat (first | with_reducible exact Mod.refl _ _ | refine Mod.drew ?_)); rintro e w7 ⟨rfl, m7⟩; have z1 : Mod No V w7 := Mod.trans (by (repeat (first | with_reducible exact Mod.refl _ _ | refine Mod.drew ?_))) m7))
  all_goals
    go_wp2_with fail
    go_ret
    exact ⟨rfl, HMM.out.trans z3⟩
end

section
open Go.RowKit
set_option linter.unusedVariables false
/-! ### plain -/
theorem lsteps_src {C : List (Chg Ten)} {f : Nm → Option Ten} {n : Nm} {y : Ten} (h : C.foldl (lstep Ten.name) f n = some y) : f n = some y ∨ ∃ c ∈ C, y = c.t := by
  induction C generalizing f with
  | nil => exact .inl h
  | cons c C ih =>
    rw [List.foldl_cons] at h
    rcases ih h with h1 | ⟨c', hc, e⟩
    · unfold lstep at h1
      split at h1
      · split at h1
        · exact .inr ⟨c, by simp, (Option.some.inj h1).symm⟩
        · exact .inl h1
      · split at h1
        · cases h1
        · exact .inl h1
    · exact .inr ⟨c', by simp [hc], e⟩
theorem applied_src {l : List Ten} {C : List (Chg Ten)} {y : Ten} (h : y ∈ applied Ten.name l C) : y ∈ l ∨ ∃ c ∈ C, y = c.t := by
  have h1 := look_mem (nm := Ten.name) (applied_sd l C).nodup h
  rw [applied_look] at h1
  rcases lsteps_src h1 with h2 | h2
  · exact .inl (look_name (nm := Ten.name) (l := l) h2).2
  · exact .inr h2
theorem light_zero : light Ten.zero = true := by simp [light, Ten.zero]
theorem dff_light {a b : List Ten} (hb : ∀ x ∈ b, light x = true) {c : Chg Ten} (h : c ∈ dff a b) : light c.t = true := by
  rcases mrg_t _ _ c h with e | e
  · rw [e]; exact light_zero
  · exact hb _ (applied_nil_sub e)
/-! ### the shape -/
structure TVo (w : World) (A : Option Addr) (l : List TV) : Prop where
  tvl : TVl (fun b => b < w.heap.size) w A l
  lt : ∀ x ∈ l, light x.t = true
structure CVo (w : World) (A : Option Addr) (l : List Cg) : Prop where
  cvl : CVl (fun b => b < w.heap.size) w A l
  lt : ∀ c ∈ l, light c.x.t = true ∧ c.name.length ≤ 1000000
theorem TVo.mod {w w' : World} {A : Option Addr} {l : List TV} (h : TVo w A l) (hm : Mod No w w') : TVo w' A l :=
  ⟨(h.tvl.keeps (hm.keeps (fun _ _ _ f => f))).imp (fun b hb _ => hb), h.lt⟩
theorem CVo.mod {w w' : World} {A : Option Addr} {l : List Cg} (h : CVo w A l) (hm : Mod No w w') : CVo w' A l :=
  ⟨(h.cvl.keeps (hm.keeps (fun _ _ _ f => f))).imp (fun b hb _ => hb), h.lt⟩
theorem TVo.nil (w : World) (A : Option Addr) : TVo w A [] := ⟨TVl.nil _ _ _, by simp⟩
theorem CVo.nil (w : World) (A : Option Addr) : CVo w A [] := ⟨CVl.nil _ _ _, by simp⟩
theorem TVo.small {w : World} {A : Option Addr} {l : List TV} (h : TVo w A l) : ∀ x ∈ l, x.Small := fun x hx => small_of (h.lt x hx)
theorem CVo.small {w : World} {A : Option Addr} {l : List Cg} (h : CVo w A l) : ∀ c ∈ l, c.Small := fun c hc => ⟨(h.lt c hc).2, small_of (h.lt c hc).1⟩
theorem here_no (w : World) : ∀ b, w.heap.size ≤ b → ¬ (fun b => b < w.heap.size) b := fun b hb f => by have f' : b < w.heap.size := f; omega
theorem applied_light {l : List TV} {cs : List Cg} (hl : ∀ x ∈ l, light x.t = true) (hc : ∀ c ∈ cs, light c.x.t = true) {L : List TV} (hL : L.map (·.t) = applied Ten.name (l.map (·.t)) (cs.map Cg.chg)) : ∀ x ∈ L, light x.t = true := by
  intro x hx
  have h1 : x.t ∈ L.map (·.t) := List.mem_map.2 ⟨x, hx, rfl⟩
  rw [hL] at h1
  rcases applied_src h1 with h2 | ⟨c, h2, e⟩
  · obtain ⟨y, hy, e⟩ := List.mem_map.1 h2
    rw [← e]; exact hl y hy
  · obtain ⟨y, hy, e2⟩ := List.mem_map.1 h2
    rw [e, ← e2]; exact hc y hy
theorem applied_len {l : List TV} {cs : List Cg} {L : List TV} (hL : L.map (·.t) = applied Ten.name (l.map (·.t)) (cs.map Cg.chg)) : L.length ≤ l.length + cs.length := by
  have h1 := congrArg List.length hL
  rw [← applied_map, List.length_map, List.length_map, ← rapplied_eq] at h1
  have h2 := rsteps_len (cs.map Cg.chv) (rfirsts TV.nm l)
  have h3 := rfirsts_len_from (nm := TV.nm) l []
  unfold rfirsts at h1 h2
  simp only [List.length_map, List.length_nil] at h2 h3
  omega
section
variable {U : World} {A C : Option Addr} {n c m d : Nat} {l : List TV} {cs : List Cg}
theorem apply_o (h : TVo U A l) (hn : n = l.length) (hl : l.length ≤ 10000) (hC : CVo U C cs) (hm : m = cs.length) (hcl : cs.length ≤ 10000) :
    Calls Try.prog 13 #[.slice A n c, .slice C m d] U fun e w' => ∃ A' c' L, e = .returned (.slice A' (List.length L) c') ∧ TVo w' A' L ∧ L.map (·.t) = applied Ten.name (l.map (·.t)) (cs.map Cg.chg) ∧ L.length ≤ l.length + cs.length ∧ Mod No U w' := by
  refine (apply_ok (c := c) (d := d) l cs h.tvl hn (by omega) h.small (here_no U) hC.cvl hm (by omega) hC.small).mono ?_
  rintro e w' ⟨v, L, rfl, hol, hLt, hm⟩
  obtain ⟨A', c', rfl, _, ht⟩ := hol.tvl
  exact ⟨A', c', L, rfl, ⟨ht.imp (fun b hb _ => hb), applied_light h.lt (fun c hc => (hC.lt c hc).1) hLt⟩, hLt, applied_len hLt, hm⟩
theorem rapply_o (h : TVo U A l) (hn : n = l.length) (hl : l.length ≤ 10000) (hC : CVo U C cs) (hm : m = cs.length) (hcl : cs.length ≤ 10000) :
    Calls Try.prog 14 #[.slice A n c, .slice C m d] U fun e w' => ∃ A' c' L, e = .returned (.slice A' (List.length L) c') ∧ TVo w' A' L ∧ L.map (·.t) = applied Ten.name (l.map (·.t)) (cs.map Cg.chg) ∧ L.length ≤ l.length + cs.length ∧ Mod No U w' := by
  refine (ref_apply_ok (c := c) (d := d) l cs h.tvl hn (by omega) (here_no U) hC.cvl hm (by omega)).mono ?_
  rintro e w' ⟨v, L, rfl, hol, hLt, _, hm⟩
  obtain ⟨A', c', rfl, _, ht⟩ := hol.tvl
  exact ⟨A', c', L, rfl, ⟨ht.imp (fun b hb _ => hb), applied_light h.lt (fun c hc => (hC.lt c hc).1) hLt⟩, hLt, applied_len hLt, hm⟩
end
section
variable {U : World} {A B : Option Addr} {n c m d : Nat} {a b : List TV}
theorem diff_o (h : TVo U A a) (hn : n = a.length) (hl : a.length ≤ 10000) (k : TVo U B b) (hm : m = b.length) (hl2 : b.length ≤ 10000) :
    Calls Try.prog 17 #[.slice A n c, .slice B m d] U fun e w' => ∃ A' c' L, e = .returned (.slice A' (List.length L) c') ∧ CVo w' A' L ∧ L.map Cg.chg = dff (a.map (·.t)) (b.map (·.t)) ∧ L.length ≤ a.length + b.length ∧ Mod No U w' := by
  refine (diff_ok (c := c) (c2 := d) a b h.tvl hn (by omega) h.small k.tvl hm (by omega) k.small (here_no U)).mono ?_
  rintro e w' ⟨v, L, rfl, hol, hLc, hLs, hLl, hm⟩
  obtain ⟨A', c', rfl, _, ht⟩ := hol.cvl
  refine ⟨A', c', L, rfl, ⟨ht.imp (fun b hb _ => hb), fun c hc => ⟨?_, (hLs c hc).1⟩⟩, hLc, hLl, hm⟩
  have h1 : c.chg ∈ L.map Cg.chg := List.mem_map.2 ⟨c, hc, rfl⟩
  rw [hLc] at h1
  exact dff_light (fun x hx => by obtain ⟨y, hy, rfl⟩ := List.mem_map.1 hx; exact k.lt y hy) h1
theorem CVl.imp' {S S' : Nat → Prop} {w : World} {A : Option Addr} {l : List Cg} (h : CVl S w A l) (hs : ∀ b, b < w.heap.size → S b → S' b) : CVl S' w A l := h.imp hs
theorem rdiff_o (h : TVo U A a) (hn : n = a.length) (hl : a.length ≤ 10000) (k : TVo U B b) (hm : m = b.length) (hl2 : b.length ≤ 10000) :
    Calls Try.prog 18 #[.slice A n c, .slice B m d] U fun e w' => ∃ A' c' L, e = .returned (.slice A' (List.length L) c') ∧ CVl (fun b => b < w'.heap.size) w' A' L ∧ L.map Cg.chg = dff (a.map (·.t)) (b.map (·.t)) ∧ Mod No U w' := by
  refine (ref_diff_ok (c := c) (c2 := d) a b h.tvl hn (by omega) h.small k.tvl hm (by omega) (here_no U)).mono ?_
  rintro e w' ⟨v, L, rfl, hol, hLc, hm⟩
  obtain ⟨A', c', rfl, _, ht⟩ := hol.cvl
  exact ⟨A', c', L, rfl, ht.imp' (fun b hb _ => hb), hLc, hm⟩
theorem tens_o {l l' : List TV} (h : TVo U A l) (k : TVo U B l') (he : l.map (·.t) = l'.map (·.t)) (hn : n = l.length) (hm : m = l'.length) (hl : l.length ≤ 100000) :
    Calls Try.prog 12 #[.slice A n c, .slice B m d] U fun e w' => e = .returned (.bool true) ∧ Mod No U w' := by
  have hlen : l'.length = l.length := by have := congrArg List.length he; simpa using this.symm
  rw [hm, hlen, hn]
  exact tenants_same h.tvl k.tvl rfl he (fun x hx => lt300_of (k.lt x hx)) (by omega)
theorem chgs_o {L L' : List Cg} (h : CVo U A L) (k : CVl (fun b => b < U.heap.size) U B L') (he : L.map Cg.chg = L'.map Cg.chg) (hn : n = L.length) (hm : m = L'.length) (hl : L.length ≤ 100000) :
    Calls Try.prog 16 #[.slice A n c, .slice B m d] U fun e w' => e = .returned (.bool true) ∧ Mod No U w' := by
  have hlen : L'.length = L.length := by have := congrArg List.length he; simpa using this.symm
  rw [hm, hlen, hn]
  refine chgs_same h.cvl k rfl he (fun x hx => ?_) (by omega)
  have h1 : x.chg ∈ L.map Cg.chg := by rw [he]; exact List.mem_map.2 ⟨x, hx, rfl⟩
  obtain ⟨y, hy, e⟩ := List.mem_map.1 h1
  have e2 : y.x.t = x.x.t := congrArg Chg.t e
  rw [← e2]
  exact lt300_of (h.lt y hy).1
end
/-- Arguments that are light. -/
theorem tvo_of {w : World} {A : Option Addr} {l : List TV} (hr : RowAt (fun _ => True) w A (tvCells l)) (ho : ∀ x ∈ l, x.Open w) (hl : ∀ x ∈ l, light x.t = true) : TVo w A l := ⟨tvl_of hr ho, hl⟩
theorem cvo_of {w : World} {A : Option Addr} {l : List Cg} (hr : RowAt (fun _ => True) w A (l.flatMap Cg.cells)) (ho : ∀ x ∈ l, x.x.Open w) (hl : ∀ c ∈ l, light c.x.t = true ∧ c.name.length ≤ 300) : CVo w A l := ⟨cvl_of hr ho, fun c hc => ⟨(hl c hc).1, by have := (hl c hc).2; omega⟩⟩
end

section
open Go.RowKit
set_option linter.unusedVariables false
attribute [local go_sem ↓] Go.wp_at_zero Go.wp_at_succ
attribute [local go_sem ↓] store_fold alloc_fold load_fold
/-- An argument: its row, its elements, how many. -/
structure ArgT (w : World) (A : Option Addr) (n c : Nat) (l : List TV) : Prop where
  len : n = l.length
  most : n ≤ 9223372036854775807
  cap : n ≤ c
  row : RowAt (fun _ => True) w A (tvCells l)
  op : ∀ x ∈ l, x.Open w
structure ArgC (w : World) (A : Option Addr) (n c : Nat) (l : List Cg) : Prop where
  len : n = l.length
  most : n ≤ 9223372036854775807
  cap : n ≤ c
  row : RowAt (fun _ => True) w A (l.flatMap Cg.cells)
  op : ∀ x ∈ l, x.x.Open w
theorem ArgT.nil (w : World) : ArgT w none 0 0 [] := ⟨rfl, by omega, by omega, .nil _ _ _, by simp⟩
theorem ArgC.nil (w : World) : ArgC w none 0 0 [] := ⟨rfl, by omega, by omega, .nil _ _ _, by simp⟩
theorem open_mod {w W : World} {x : TV} (h : x.Open w) (hm : Mod No w W) : x.Open W := ⟨(h.here.keeps (hm.keeps (fun _ _ _ f => f))).imp (fun _ _ => trivial), h.wf⟩
theorem row_mod {w W : World} {A : Option Addr} {xs : List Value} (h : RowAt (fun _ => True) w A xs) (hm : Mod No w W) : RowAt (fun _ => True) W A xs := ((h.mono (S' := fun b => b < w.heap.size) (fun b hb _ => hb)).keeps (hm.keeps (fun _ _ _ f => f))).mono (fun _ _ _ => trivial)
theorem ArgT.mod {w W : World} {A : Option Addr} {n c : Nat} {l : List TV} (h : ArgT w A n c l) (hm : Mod No w W) : ArgT W A n c l := ⟨h.len, h.most, h.cap, row_mod h.row hm, fun x hx => open_mod (h.op x hx) hm⟩
theorem ArgC.mod {w W : World} {A : Option Addr} {n c : Nat} {l : List Cg} (h : ArgC w A n c l) (hm : Mod No w W) : ArgC W A n c l := ⟨h.len, h.most, h.cap, row_mod h.row hm, fun x hx => open_mod (h.op x hx) hm⟩
theorem light_call {w : World} {A A2 C : Option Addr} {n c n2 c2 m d : Nat} {a b : List TV} {cs : List Cg} (hA : ArgT w A n c a) (hB : ArgT w A2 n2 c2 b) (hC : ArgC w C m d cs) :
    Calls Try.prog 9 #[.slice A n c, .slice A2 n2 c2, .slice C m d] w fun e w' => e = .returned (.bool (light15 a b cs)) ∧ Mod No w w' := by
  have h := light15_ok (c := c) (c2 := c2) (d := d) a b cs hA.row hA.op (by rw [← hA.len]; exact hA.most) hB.row hB.op (by rw [← hB.len]; exact hB.most) hC.row hC.op (by rw [← hC.len]; exact hC.most)
  rw [← hA.len, ← hB.len, ← hC.len] at h
  exact h
set_option maxRecDepth 100000 in
set_option maxHeartbeats 2000000 in
theorem diffTells_walk {w : World} {A A2 : Option Addr} {n c n2 c2 : Nat} {a b : List TV} (hA : ArgT w A n c a) (hB : ArgT w A2 n2 c2 b) :
    Calls Try.prog 4 #[.slice A n c, .slice A2 n2 c2] w fun e w' => e = .returned (.bool true) ∧ Mod No w w' := by
  have hk := known15 w
  have H0 := Lib.hid (And.intro hA hB)
  have hl := fun (W : World) (hm : Mod No w W) => light_call (hA.mod hm) (hB.mod hm) (ArgC.nil W)
  obtain ⟨r, hr⟩ : ∃ r, r = light15 a b [] := ⟨_, rfl⟩
  rw [← hr] at hl
  have HR := Lib.hid hr
  have HK := Lib.hid hk
  have HL := Lib.hid hl
  clear hA hB hk hl hr
  go_enter Try.func4, Try.ntmps4
  go_upto_region 3 with (go_at_call 8; refine HK.out.mono ?_; rintro e w1 ⟨rfl, m1⟩; have M1 := Lib.hid m1; clear m1)
  cases r with
  | false =>
    go_wp2_with (go_at_call 9; refine (HL.out _ M1.out).mono ?_; rintro e w2 ⟨rfl, m2⟩; have M2 := Lib.hid (M1.out.trans m2); clear m2)
    go_ret
    exact ⟨rfl, M2.out⟩
  | true =>
    obtain ⟨h1, h2, _⟩ := light15_of HR.out.symm
    have hta := tvo_of H0.out.1.row H0.out.1.op h1.2
    have htb := tvo_of H0.out.2.row H0.out.2.op h2.2
    have hd := fun (U : World) (hm : Mod No w U) => diff_o (c := c) (d := c2) (hta.mod hm) H0.out.1.len (by omega) (htb.mod hm) H0.out.2.len (by omega)
    have hd2 := fun (U : World) (hm : Mod No w U) => rdiff_o (c := c) (d := c2) (hta.mod hm) H0.out.1.len (by omega) (htb.mod hm) H0.out.2.len (by omega)
    have hlen : a.length + b.length ≤ 100000 := by omega
    have HD := Lib.hid hd
    have HD2 := Lib.hid hd2
    have HN := Lib.hid hlen
    clear hta htb hd hd2 h1 h2 hlen
    go_wp2_with (first
      | (go_at_call 9; refine (HL.out _ M1.out).mono ?_; rintro e w2 ⟨rfl, m2⟩; have M2 := Lib.hid (M1.out.trans m2); clear m2)
      | (go_at_call 17; refine (HD.out _ M2.out).mono ?_; rintro e w3 ⟨A3, c3, L3, rfl, hc3, ht3, hl3, m3⟩; have H3 := Lib.hid (And.intro hc3 (And.intro ht3 (And.intro hl3 (M2.out.trans m3)))); clear hc3 ht3 hl3 m3)
      | (go_at_call 18; refine (HD2.out _ H3.out.2.2.2).mono ?_; rintro e w4 ⟨A4, c4, L4, rfl, hc4, ht4, m4⟩; have H4 := Lib.hid (And.intro hc4 (And.intro ht4 (And.intro m4 (H3.out.2.2.2.trans m4)))); clear hc4 ht4 m4)
      | (go_at_call 16; refine (chgs_o (H3.out.1.mod H4.out.2.2.1) H4.out.1 (H3.out.2.1.trans H4.out.2.1.symm) rfl rfl (by have := H3.out.2.2.1; have := HN.out; omega)).mono ?_; rintro e w5 ⟨rfl, m5⟩; have M5 := Lib.hid (H4.out.2.2.2.trans m5); clear m5))
    go_ret
    exact ⟨rfl, M5.out⟩
end

end Go.Proofs.Ytkiikbajbikdeaa
