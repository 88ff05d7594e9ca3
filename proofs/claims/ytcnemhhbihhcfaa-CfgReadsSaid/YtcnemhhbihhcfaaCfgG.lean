/-
  Package cfg, seventh part: tenants as data; lists held against one another.
-/
import Derived.Test.YtcnemhhbihhcfaaCfgF
namespace Go.Proofs.Ytcnemhhbihhcfaa
open Go.RowKit
set_option linter.unusedVariables false

structure M6 where
  (b0 b1 b2 b3 b4 b5 : UInt8)
  deriving DecidableEq, Inhabited
structure K8 where
  (b0 b1 b2 b3 b4 b5 b6 b7 : UInt8)
  deriving DecidableEq, Inhabited
structure Pr where
  (a b : Nat)
  deriving DecidableEq, Inhabited
structure Ten where
  name : List UInt8
  vni : Nat
  key : K8
  vtep : Nat
  vmac : M6
  host : M6
  pool : List Nat
  lo : Nat
  hi : Nat
  filter : Int
  statics : List Pr
  twices : List Pr
  sess : Int
  queue : Int
  rate : Nat
  burst : Nat
  deriving DecidableEq, Inhabited
def M6.l (m : M6) : List UInt8 := [m.b0, m.b1, m.b2, m.b3, m.b4, m.b5]
def K8.l (m : K8) : List UInt8 := [m.b0, m.b1, m.b2, m.b3, m.b4, m.b5, m.b6, m.b7]
def u8v (b : UInt8) : Value := .int .u8 (b.toNat : Int)
def numCells (l : List Nat) : List Value := l.map fun (n : Nat) => Value.int .u32 (n : Int)
def Pr.cells (p : Pr) : List Value := [.int .u32 (p.a : Int), .int .u32 (p.b : Int)]
def prCells (l : List Pr) : List Value := l.flatMap Pr.cells
theorem Pr.cells_length (p : Pr) : p.cells.length = 2 := rfl
theorem prCells_length (l : List Pr) : (prCells l).length = l.length * 2 := flat_length Pr.cells 2 Pr.cells_length l
theorem numCells_length (l : List Nat) : (numCells l).length = l.length := by simp [numCells]
/-- A tenant's cells, its three lists' values beside. -/
def Ten.cells (t : Ten) (vp vs vt : Value) : Array Value :=
  #[.string (str t.name), .int .u32 (t.vni : Int), .int .u8 (t.key.b0.toNat : Int), .int .u8 (t.key.b1.toNat : Int), .int .u8 (t.key.b2.toNat : Int), .int .u8 (t.key.b3.toNat : Int), .int .u8 (t.key.b4.toNat : Int), .int .u8 (t.key.b5.toNat : Int), .int .u8 (t.key.b6.toNat : Int), .int .u8 (t.key.b7.toNat : Int),
    .int .u32 (t.vtep : Int), .int .u8 (t.vmac.b0.toNat : Int), .int .u8 (t.vmac.b1.toNat : Int), .int .u8 (t.vmac.b2.toNat : Int), .int .u8 (t.vmac.b3.toNat : Int), .int .u8 (t.vmac.b4.toNat : Int), .int .u8 (t.vmac.b5.toNat : Int),
    .int .u8 (t.host.b0.toNat : Int), .int .u8 (t.host.b1.toNat : Int), .int .u8 (t.host.b2.toNat : Int), .int .u8 (t.host.b3.toNat : Int), .int .u8 (t.host.b4.toNat : Int), .int .u8 (t.host.b5.toNat : Int),
    vp, .int .u16 (t.lo : Int), .int .u16 (t.hi : Int), .int .i64 t.filter, vs, vt, .int .i64 t.sess, .int .i64 t.queue, .int .u32 (t.rate : Int), .int .u32 (t.burst : Int)]
def M6.zero : M6 := ⟨0, 0, 0, 0, 0, 0⟩
def K8.zero : K8 := ⟨0, 0, 0, 0, 0, 0, 0, 0⟩
def Ten.zero : Ten := ⟨[], 0, .zero, 0, .zero, .zero, [], 0, 0, 0, [], [], 0, 0, 0, 0⟩
/-- A value that is a tenant: its lists are rows in S. -/
structure TenV (S : Nat → Prop) (w : World) (t : Ten) (v : Value) : Prop where
  val : ∃ P p Q q R r, v = .agg (t.cells (.slice P t.pool.length p) (.slice Q t.statics.length q) (.slice R t.twices.length r)) ∧ RowAt S w P (numCells t.pool) ∧ RowAt S w Q (prCells t.statics) ∧ RowAt S w R (prCells t.twices)
theorem TenV.keeps {S : Nat → Prop} {w w' : World} {t : Ten} {v : Value} (h : TenV S w t v) (hk : Keeps S w w') : TenV S w' t v := by
  obtain ⟨P, p, Q, q, R, r, e, h1, h2, h3⟩ := h.val
  exact ⟨P, p, Q, q, R, r, e, h1.keeps hk, h2.keeps hk, h3.keeps hk⟩
theorem TenV.mono {S S' : Nat → Prop} {w : World} {t : Ten} {v : Value} (h : TenV S w t v) (hs : ∀ b, b < w.heap.size → S b → S' b) : TenV S' w t v := by
  obtain ⟨P, p, Q, q, R, r, e, h1, h2, h3⟩ := h.val
  exact ⟨P, p, Q, q, R, r, e, h1.mono hs, h2.mono hs, h3.mono hs⟩

theorem list_eq_of_get {α : Type} {l m : List α} (hl : l.length = m.length) (h : ∀ j, j < l.length → l[j]? = m[j]?) : l = m := by
  apply List.ext_getElem?
  intro i
  by_cases hi : i < l.length
  · exact h i hi
  · rw [List.getElem?_eq_none (by omega), List.getElem?_eq_none (by omega)]
theorem nums_at {S : Nat → Prop} {w : World} {A : Option Addr} {l : List Nat} (h : RowAt S w A (numCells l)) {i : Nat} {p : Nat} (hi : l[i]? = some p) :
    ∃ b o, A = some ⟨b, o, none⟩ ∧ S b ∧ b < w.heap.size ∧ w.cell? ⟨b, o + i, none⟩ = some (.int .u32 (p : Int)) := by
  have hc : (numCells l)[i]? = some (.int .u32 (p : Int)) := by simp [numCells, hi]
  obtain ⟨b, o, e, hs, hlt, hcc⟩ := h.open (by intro e; rw [e] at hc; simp at hc)
  exact ⟨b, o, e, hs, hlt, hcc i _ hc⟩
theorem prs_at {S : Nat → Prop} {w : World} {A : Option Addr} {l : List Pr} (h : RowAt S w A (prCells l)) {i : Nat} {p : Pr} (hi : l[i]? = some p) :
    ∃ b o, A = some ⟨b, o, none⟩ ∧ S b ∧ b < w.heap.size ∧ w.cell? ⟨b, o + i * 2, none⟩ = some (.int .u32 (p.a : Int)) ∧ w.cell? ⟨b, o + i * 2 + 1, none⟩ = some (.int .u32 (p.b : Int)) := by
  obtain ⟨b, o, e, hs, hlt, hc⟩ := h.elem Pr.cells 2 Pr.cells_length (by omega) hi
  exact ⟨b, o, e, hs, hlt, hc 0 _ rfl, hc 1 _ rfl⟩
@[go_sem] theorem stPair : Try.prog.stoodInHeld 70 = false := by kernel_rfl
@[go_sem] theorem gtPair : Try.prog.eqGuardType Try.prog.depth 70 = false := by kernel_rfl
@[go_sem high] theorem neqPair (a b c d : Int) (w : World) : (binOp .neq 70 (.agg #[.int .u32 a, .int .u32 b]) (.agg #[.int .u32 c, .int .u32 d])).run Try.prog w = .ok (.bool (!(a == c && b == d))) w := by
  go_simp
  by_cases h1 : a = c <;> by_cases h2 : b = d <;> simp [h1, h2]
theorem pr_beq (p q : Pr) : ((p.a : Int) == q.a && (p.b : Int) == q.b) = decide (p = q) := by
  obtain ⟨a, b⟩ := p
  obtain ⟨c, d⟩ := q
  by_cases h1 : a = c <;> by_cases h2 : b = d <;> simp [h1, h2] <;> omega
theorem nat_beq (p q : Nat) : ((p : Int) == q) = decide (p = q) := by
  by_cases h : p = q
  · subst h; simp
  · have h' : ¬ (p : Int) = q := by omega
    simp [h, h']

theorem nums_lens (A B : Option Addr) (n m c d : Nat) (w : World) (h : n ≠ m) :
    Calls Try.prog 33 #[.slice A n c, .slice B m d] w fun e w' => e = .returned (.bool false) ∧ ∃ n, w' = w.drewN n := by
  have hl : ((n : Int) != m) = true := by rw [bne_iff_ne]; omega
  go_enter Try.func33, Try.ntmps33
  go_wp2
  go_ret
  exact ⟨rfl, 0, rfl⟩
set_option maxRecDepth 100000 in
theorem nums_same {S S' : Nat → Prop} (A B : Option Addr) (c d : Nat) (xs ys : List Nat) (w : World) (hx : RowAt S w A (numCells xs)) (hy : RowAt S' w B (numCells ys)) (bx : xs.length ≤ 9223372036854775807) (m : Nat) (hm : m = ys.length) (hxy : xs.length = m) :
    Calls Try.prog 33 #[.slice A m c, .slice B m d] w fun e w' => e = .returned (.bool (decide (xs = ys))) ∧ ∃ n, w' = w.drewN n := by
  have hl : ((m : Int) != m) = false := by simp
  have bm : m ≤ 9223372036854775807 := by omega
  have HM := Lib.hid hm
  have HX := Lib.hid hxy
  clear hm hxy
  go_enter Try.func33, Try.ntmps33
  go_wp2
  go_loopw [5] (fun i wr => ∃ k : Nat, i = .int .i64 k ∧ k ≤ m ∧ (∀ j, j < k → xs[j]? = ys[j]?) ∧ ∃ n, wr = w.drewN n) (fun i _ => m - (intOf i).toNat)
  case atStart => exact ⟨0, rfl, by omega, by omega, 0, rfl⟩
  case round =>
    obtain ⟨k, rfl, hk, hpre, n, rfl⟩ := hrel
    have HP := Lib.hid hpre
    clear hpre
    by_cases hlt : k < m
    · have hkx : k < xs.length := by have := HX.out; omega
      have hky : k < ys.length := by have := HM.out; omega
      obtain ⟨p, hp⟩ : ∃ p, xs[k]? = some p := ⟨_, List.getElem?_eq_getElem hkx⟩
      obtain ⟨q, hq⟩ : ∃ q, ys[k]? = some q := ⟨_, List.getElem?_eq_getElem hky⟩
      obtain ⟨b, o, rfl, _, _, hx0⟩ := nums_at hx hp
      obtain ⟨b', o', rfl, _, _, hy0⟩ := nums_at hy hq
      have HPQ := Lib.hid (And.intro hp hq)
      clear hp hq hx hy
      have p1 : (0:Int) ≤ k := by omega
      have p2 : (k:Int) < m := by omega
      have hpq := nat_beq p q
      by_cases hd : p = q
      · have hb : ((p : Int) == q) = true := by rw [hpq]; simpa using hd
        have hb' : (!((p : Int) == q)) = false := by rw [hb]; rfl
        have hb2 : ((p : Int) != q) = false := by subst hd; simp
        have HD := Lib.hid hd
        clear hpq hd
        go_wp2
        go_quiet (fail)
        go_wp2
        all_goals first
          | (exfalso; have e := HD.out; subst e; simp_all; done)
          | (refine ⟨⟨k + 1, by go_num, by omega, ?_, _, by first | rfl | exact World.drewN_drewN ..⟩, by simp [intOf]; omega⟩
             intro j hj
             rcases Nat.lt_or_ge j k with h | h
             · exact HP.out j h
             · obtain rfl : j = k := by omega
               rw [HPQ.out.1, HPQ.out.2, HD.out])
      · have hb : ((p : Int) == q) = false := by rw [hpq]; simpa using hd
        have hb2 : ((p : Int) != q) = true := by rw [bne_iff_ne]; omega
        have HD := Lib.hid hd
        clear hpq hd
        go_wp2
        go_quiet (fail)
        go_wp2
        all_goals first
          | (exfalso; simp_all; done)
          | (go_ret
             refine ⟨?_, _, by first | rfl | exact World.drewN_drewN ..⟩
             have : ¬ xs = ys := by
               intro e
               have h1 := HPQ.out.1
               rw [e, HPQ.out.2] at h1
               exact HD.out (Option.some.inj h1).symm
             simp [this])
    · have hk' : k = m := by omega
      subst hk'
      have : xs = ys := list_eq_of_get (by rw [HX.out, HM.out]) (fun j hj => HP.out j (by have := HX.out; omega))
      have H := Lib.hid this
      clear this
      go_wp2
      go_ret
      exact ⟨by simp [H.out], n, rfl⟩
theorem nums_ok {S S' : Nat → Prop} (A B : Option Addr) (c d : Nat) (xs ys : List Nat) (w : World) (hx : RowAt S w A (numCells xs)) (hy : RowAt S' w B (numCells ys)) (bx : xs.length ≤ 9223372036854775807) :
    Calls Try.prog 33 #[.slice A xs.length c, .slice B ys.length d] w fun e w' => e = .returned (.bool (decide (xs = ys))) ∧ ∃ n, w' = w.drewN n := by
  by_cases h : xs.length = ys.length
  · have := nums_same A B c d xs ys w hx hy bx ys.length rfl h
    rw [h]
    exact this
  · have hne : ¬ xs = ys := fun e => h (by rw [e])
    simp only [hne, decide_false]
    exact nums_lens A B _ _ c d w h

theorem equalU_lens (A B : Option Addr) (n m c d : Nat) (w : World) (h : n ≠ m) :
    Calls Try.prog 31 #[.slice A n c, .slice B m d] w fun e w' => e = .returned (.bool false) ∧ ∃ n, w' = w.drewN n := by
  have hl : ((n : Int) != m) = true := by rw [bne_iff_ne]; omega
  go_enter Try.func31, Try.ntmps31
  go_wp2
  go_ret
  exact ⟨rfl, 0, rfl⟩
set_option maxRecDepth 100000 in
theorem equalU_same {S S' : Nat → Prop} (A B : Option Addr) (c d : Nat) (xs ys : List Nat) (w : World) (hx : RowAt S w A (numCells xs)) (hy : RowAt S' w B (numCells ys)) (bx : xs.length ≤ 9223372036854775807) (m : Nat) (hm : m = ys.length) (hxy : xs.length = m) :
    Calls Try.prog 31 #[.slice A m c, .slice B m d] w fun e w' => e = .returned (.bool (decide (xs = ys))) ∧ ∃ n, w' = w.drewN n := by
  have hl : ((m : Int) != m) = false := by simp
  have bm : m ≤ 9223372036854775807 := by omega
  have HM := Lib.hid hm
  have HX := Lib.hid hxy
  clear hm hxy
  go_enter Try.func31, Try.ntmps31
  go_wp2
  go_loopw [13] (fun i wr => ∃ k : Nat, i = .int .i64 k ∧ k ≤ m ∧ (∀ j, j < k → xs[j]? = ys[j]?) ∧ ∃ n, wr = w.drewN n) (fun i _ => m - (intOf i).toNat)
  case atStart => exact ⟨0, rfl, by omega, by omega, 0, rfl⟩
  case round =>
    obtain ⟨k, rfl, hk, hpre, n, rfl⟩ := hrel
    have HP := Lib.hid hpre
    clear hpre
    by_cases hlt : k < m
    · have hkx : k < xs.length := by have := HX.out; omega
      have hky : k < ys.length := by have := HM.out; omega
      obtain ⟨p, hp⟩ : ∃ p, xs[k]? = some p := ⟨_, List.getElem?_eq_getElem hkx⟩
      obtain ⟨q, hq⟩ : ∃ q, ys[k]? = some q := ⟨_, List.getElem?_eq_getElem hky⟩
      obtain ⟨b, o, rfl, _, _, hx0⟩ := nums_at hx hp
      obtain ⟨b', o', rfl, _, _, hy0⟩ := nums_at hy hq
      have HPQ := Lib.hid (And.intro hp hq)
      clear hp hq hx hy
      have p1 : (0:Int) ≤ k := by omega
      have p2 : (k:Int) < m := by omega
      have hpq := nat_beq p q
      by_cases hd : p = q
      · have hb : ((p : Int) == q) = true := by rw [hpq]; simpa using hd
        have hb' : (!((p : Int) == q)) = false := by rw [hb]; rfl
        have hb2 : ((p : Int) != q) = false := by subst hd; simp
        have HD := Lib.hid hd
        clear hpq hd
        go_wp2
        go_quiet (fail)
        go_wp2
        all_goals first
          | (exfalso; have e := HD.out; subst e; simp_all; done)
          | (refine ⟨⟨k + 1, by go_num, by omega, ?_, _, by first | rfl | exact World.drewN_drewN ..⟩, by simp [intOf]; omega⟩
             intro j hj
             rcases Nat.lt_or_ge j k with h | h
             · exact HP.out j h
             · obtain rfl : j = k := by omega
               rw [HPQ.out.1, HPQ.out.2, HD.out])
      · have hb : ((p : Int) == q) = false := by rw [hpq]; simpa using hd
        have hb2 : ((p : Int) != q) = true := by rw [bne_iff_ne]; omega
        have HD := Lib.hid hd
        clear hpq hd
        go_wp2
        go_quiet (fail)
        go_wp2
        all_goals first
          | (exfalso; simp_all; done)
          | (go_ret
             refine ⟨?_, _, by first | rfl | exact World.drewN_drewN ..⟩
             have : ¬ xs = ys := by
               intro e
               have h1 := HPQ.out.1
               rw [e, HPQ.out.2] at h1
               exact HD.out (Option.some.inj h1).symm
             simp [this])
    · have hk' : k = m := by omega
      subst hk'
      have : xs = ys := list_eq_of_get (by rw [HX.out, HM.out]) (fun j hj => HP.out j (by have := HX.out; omega))
      have H := Lib.hid this
      clear this
      go_wp2
      go_ret
      exact ⟨by simp [H.out], n, rfl⟩
theorem equalU_ok {S S' : Nat → Prop} (A B : Option Addr) (c d : Nat) (xs ys : List Nat) (w : World) (hx : RowAt S w A (numCells xs)) (hy : RowAt S' w B (numCells ys)) (bx : xs.length ≤ 9223372036854775807) :
    Calls Try.prog 31 #[.slice A xs.length c, .slice B ys.length d] w fun e w' => e = .returned (.bool (decide (xs = ys))) ∧ ∃ n, w' = w.drewN n := by
  by_cases h : xs.length = ys.length
  · have := equalU_same A B c d xs ys w hx hy bx ys.length rfl h
    rw [h]
    exact this
  · have hne : ¬ xs = ys := fun e => h (by rw [e])
    simp only [hne, decide_false]
    exact equalU_lens A B _ _ c d w h

theorem pairs_lens (A B : Option Addr) (n m c d : Nat) (w : World) (h : n ≠ m) :
    Calls Try.prog 34 #[.slice A n c, .slice B m d] w fun e w' => e = .returned (.bool false) ∧ ∃ n, w' = w.drewN n := by
  have hl : ((n : Int) != m) = true := by rw [bne_iff_ne]; omega
  go_enter Try.func34, Try.ntmps34
  go_wp2
  go_ret
  exact ⟨rfl, 0, rfl⟩
set_option maxRecDepth 100000 in
theorem pairs_same {S S' : Nat → Prop} (A B : Option Addr) (c d : Nat) (xs ys : List Pr) (w : World) (hx : RowAt S w A (prCells xs)) (hy : RowAt S' w B (prCells ys)) (bx : xs.length ≤ 9223372036854775807) (m : Nat) (hm : m = ys.length) (hxy : xs.length = m) :
    Calls Try.prog 34 #[.slice A m c, .slice B m d] w fun e w' => e = .returned (.bool (decide (xs = ys))) ∧ ∃ n, w' = w.drewN n := by
  have hl : ((m : Int) != m) = false := by simp
  have bm : m ≤ 9223372036854775807 := by omega
  have HM := Lib.hid hm
  have HX := Lib.hid hxy
  clear hm hxy
  go_enter Try.func34, Try.ntmps34
  go_wp2
  go_loopw [5] (fun i wr => ∃ k : Nat, i = .int .i64 k ∧ k ≤ m ∧ (∀ j, j < k → xs[j]? = ys[j]?) ∧ ∃ n, wr = w.drewN n) (fun i _ => m - (intOf i).toNat)
  case atStart => exact ⟨0, rfl, by omega, by omega, 0, rfl⟩
  case round =>
    obtain ⟨k, rfl, hk, hpre, n, rfl⟩ := hrel
    have HP := Lib.hid hpre
    clear hpre
    by_cases hlt : k < m
    · have hkx : k < xs.length := by have := HX.out; omega
      have hky : k < ys.length := by have := HM.out; omega
      obtain ⟨p, hp⟩ : ∃ p, xs[k]? = some p := ⟨_, List.getElem?_eq_getElem hkx⟩
      obtain ⟨q, hq⟩ : ∃ q, ys[k]? = some q := ⟨_, List.getElem?_eq_getElem hky⟩
      obtain ⟨b, o, rfl, _, _, hx0, hx1⟩ := prs_at hx hp
      obtain ⟨b', o', rfl, _, _, hy0, hy1⟩ := prs_at hy hq
      have HPQ := Lib.hid (And.intro hp hq)
      clear hp hq hx hy
      have p1 : (0:Int) ≤ k := by omega
      have p2 : (k:Int) < m := by omega
      have hpq := pr_beq p q
      by_cases hd : p = q
      · have hb : ((p.a : Int) == q.a && (p.b : Int) == q.b) = true := by rw [hpq]; simpa using hd
        have hb' : (!((p.a : Int) == q.a && (p.b : Int) == q.b)) = false := by rw [hb]; rfl
        have hb2 : (!((p.a : Int) == q.a && (p.b : Int) == q.b)) = false := by rw [hb]; rfl
        have HD := Lib.hid hd
        clear hpq hd
        go_wp2
        go_quiet (fail)
        go_wp2
        all_goals first
          | (exfalso; have e := HD.out; subst e; simp_all; done)
          | (refine ⟨⟨k + 1, by go_num, by omega, ?_, _, by first | rfl | exact World.drewN_drewN ..⟩, by simp [intOf]; omega⟩
             intro j hj
             rcases Nat.lt_or_ge j k with h | h
             · exact HP.out j h
             · obtain rfl : j = k := by omega
               rw [HPQ.out.1, HPQ.out.2, HD.out])
      · have hb : ((p.a : Int) == q.a && (p.b : Int) == q.b) = false := by rw [hpq]; simpa using hd
        have hb2 : (!((p.a : Int) == q.a && (p.b : Int) == q.b)) = true := by rw [hb]; rfl
        have HD := Lib.hid hd
        clear hpq hd
        go_wp2
        go_quiet (fail)
        go_wp2
        all_goals first
          | (exfalso; simp_all; done)
          | (go_ret
             refine ⟨?_, _, by first | rfl | exact World.drewN_drewN ..⟩
             have : ¬ xs = ys := by
               intro e
               have h1 := HPQ.out.1
               rw [e, HPQ.out.2] at h1
               exact HD.out (Option.some.inj h1).symm
             simp [this])
    · have hk' : k = m := by omega
      subst hk'
      have : xs = ys := list_eq_of_get (by rw [HX.out, HM.out]) (fun j hj => HP.out j (by have := HX.out; omega))
      have H := Lib.hid this
      clear this
      go_wp2
      go_ret
      exact ⟨by simp [H.out], n, rfl⟩
theorem pairs_ok {S S' : Nat → Prop} (A B : Option Addr) (c d : Nat) (xs ys : List Pr) (w : World) (hx : RowAt S w A (prCells xs)) (hy : RowAt S' w B (prCells ys)) (bx : xs.length ≤ 9223372036854775807) :
    Calls Try.prog 34 #[.slice A xs.length c, .slice B ys.length d] w fun e w' => e = .returned (.bool (decide (xs = ys))) ∧ ∃ n, w' = w.drewN n := by
  by_cases h : xs.length = ys.length
  · have := pairs_same A B c d xs ys w hx hy bx ys.length rfl h
    rw [h]
    exact this
  · have hne : ¬ xs = ys := fun e => h (by rw [e])
    simp only [hne, decide_false]
    exact pairs_lens A B _ _ c d w h

theorem equalP_lens (A B : Option Addr) (n m c d : Nat) (w : World) (h : n ≠ m) :
    Calls Try.prog 32 #[.slice A n c, .slice B m d] w fun e w' => e = .returned (.bool false) ∧ ∃ n, w' = w.drewN n := by
  have hl : ((n : Int) != m) = true := by rw [bne_iff_ne]; omega
  go_enter Try.func32, Try.ntmps32
  go_wp2
  go_ret
  exact ⟨rfl, 0, rfl⟩
set_option maxRecDepth 100000 in
theorem equalP_same {S S' : Nat → Prop} (A B : Option Addr) (c d : Nat) (xs ys : List Pr) (w : World) (hx : RowAt S w A (prCells xs)) (hy : RowAt S' w B (prCells ys)) (bx : xs.length ≤ 9223372036854775807) (m : Nat) (hm : m = ys.length) (hxy : xs.length = m) :
    Calls Try.prog 32 #[.slice A m c, .slice B m d] w fun e w' => e = .returned (.bool (decide (xs = ys))) ∧ ∃ n, w' = w.drewN n := by
  have hl : ((m : Int) != m) = false := by simp
  have bm : m ≤ 9223372036854775807 := by omega
  have HM := Lib.hid hm
  have HX := Lib.hid hxy
  clear hm hxy
  go_enter Try.func32, Try.ntmps32
  go_wp2
  go_loopw [13] (fun i wr => ∃ k : Nat, i = .int .i64 k ∧ k ≤ m ∧ (∀ j, j < k → xs[j]? = ys[j]?) ∧ ∃ n, wr = w.drewN n) (fun i _ => m - (intOf i).toNat)
  case atStart => exact ⟨0, rfl, by omega, by omega, 0, rfl⟩
  case round =>
    obtain ⟨k, rfl, hk, hpre, n, rfl⟩ := hrel
    have HP := Lib.hid hpre
    clear hpre
    by_cases hlt : k < m
    · have hkx : k < xs.length := by have := HX.out; omega
      have hky : k < ys.length := by have := HM.out; omega
      obtain ⟨p, hp⟩ : ∃ p, xs[k]? = some p := ⟨_, List.getElem?_eq_getElem hkx⟩
      obtain ⟨q, hq⟩ : ∃ q, ys[k]? = some q := ⟨_, List.getElem?_eq_getElem hky⟩
      obtain ⟨b, o, rfl, _, _, hx0, hx1⟩ := prs_at hx hp
      obtain ⟨b', o', rfl, _, _, hy0, hy1⟩ := prs_at hy hq
      have HPQ := Lib.hid (And.intro hp hq)
      clear hp hq hx hy
      have p1 : (0:Int) ≤ k := by omega
      have p2 : (k:Int) < m := by omega
      have hpq := pr_beq p q
      by_cases hd : p = q
      · have hb : ((p.a : Int) == q.a && (p.b : Int) == q.b) = true := by rw [hpq]; simpa using hd
        have hb' : (!((p.a : Int) == q.a && (p.b : Int) == q.b)) = false := by rw [hb]; rfl
        have hb2 : (!((p.a : Int) == q.a && (p.b : Int) == q.b)) = false := by rw [hb]; rfl
        have HD := Lib.hid hd
        clear hpq hd
        go_wp2
        go_quiet (fail)
        go_wp2
        all_goals first
          | (exfalso; have e := HD.out; subst e; simp_all; done)
          | (refine ⟨⟨k + 1, by go_num, by omega, ?_, _, by first | rfl | exact World.drewN_drewN ..⟩, by simp [intOf]; omega⟩
             intro j hj
             rcases Nat.lt_or_ge j k with h | h
             · exact HP.out j h
             · obtain rfl : j = k := by omega
               rw [HPQ.out.1, HPQ.out.2, HD.out])
      · have hb : ((p.a : Int) == q.a && (p.b : Int) == q.b) = false := by rw [hpq]; simpa using hd
        have hb2 : (!((p.a : Int) == q.a && (p.b : Int) == q.b)) = true := by rw [hb]; rfl
        have HD := Lib.hid hd
        clear hpq hd
        go_wp2
        go_quiet (fail)
        go_wp2
        all_goals first
          | (exfalso; simp_all; done)
          | (go_ret
             refine ⟨?_, _, by first | rfl | exact World.drewN_drewN ..⟩
             have : ¬ xs = ys := by
               intro e
               have h1 := HPQ.out.1
               rw [e, HPQ.out.2] at h1
               exact HD.out (Option.some.inj h1).symm
             simp [this])
    · have hk' : k = m := by omega
      subst hk'
      have : xs = ys := list_eq_of_get (by rw [HX.out, HM.out]) (fun j hj => HP.out j (by have := HX.out; omega))
      have H := Lib.hid this
      clear this
      go_wp2
      go_ret
      exact ⟨by simp [H.out], n, rfl⟩
theorem equalP_ok {S S' : Nat → Prop} (A B : Option Addr) (c d : Nat) (xs ys : List Pr) (w : World) (hx : RowAt S w A (prCells xs)) (hy : RowAt S' w B (prCells ys)) (bx : xs.length ≤ 9223372036854775807) :
    Calls Try.prog 32 #[.slice A xs.length c, .slice B ys.length d] w fun e w' => e = .returned (.bool (decide (xs = ys))) ∧ ∃ n, w' = w.drewN n := by
  by_cases h : xs.length = ys.length
  · have := equalP_same A B c d xs ys w hx hy bx ys.length rfl h
    rw [h]
    exact this
  · have hne : ¬ xs = ys := fun e => h (by rw [e])
    simp only [hne, decide_false]
    exact equalP_lens A B _ _ c d w h

end Go.Proofs.Ytcnemhhbihhcfaa
