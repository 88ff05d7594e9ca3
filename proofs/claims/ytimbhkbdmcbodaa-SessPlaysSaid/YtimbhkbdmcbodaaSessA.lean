/-
  Package sess, first part: what its data read as; keys as a map's keys; the small functions: slices.Clone at points, of, copied, lychhelp.Points, lychhelp.Sess.
-/
import Derived.Test.YtimbhkbdmcbodaaRows
import Derived.Test.YtimbhkbdmcbodaaLib
import Derived.DeepKeys4
import Derived.Deep.LoopGhost
import Derived.Deep.QuietTactic
import Derived.BigQuiet
import Derived.WalkSpells
import Derived.Lib.Hide
import Derived.Outline
namespace Go.Proofs.Ytimbhkbdmcbodaa
open Go.RowKit
set_option linter.unusedVariables false

structure Point where
  ip : Int
  port : Int
  deriving DecidableEq, Inhabited
/-- A key of a session; also a protocol and an outside point. -/
structure Key where
  proto : Int
  pt : Point
  deriving DecidableEq, Inhabited
structure Sess where
  key : Key
  out : Point
  gen : Int
  peers : List Point
  state : Int
  til : Int
  deriving DecidableEq, Inhabited

def Point.cells (p : Point) : List Value := [.int .u32 p.ip, .int .u16 p.port]
def ptCells (l : List Point) : List Value := l.flatMap Point.cells
def Point.val (p : Point) : Value := .agg #[.int .u32 p.ip, .int .u16 p.port]
def Key.val (k : Key) : Value := .agg #[.int .u8 k.proto, .int .u32 k.pt.ip, .int .u16 k.pt.port]
def Sess.val (s : Sess) (A : Option Addr) (c : Nat) : Value :=
  .agg #[.int .u8 s.key.proto, .int .u32 s.key.pt.ip, .int .u16 s.key.pt.port, .int .u32 s.out.ip, .int .u16 s.out.port, .int .u32 s.gen, .slice A s.peers.length c, .int .i64 s.state, .int .u32 s.til]
/-- Protocol and outside point of a session. -/
def Sess.of (s : Sess) : Key := ⟨s.key.proto, s.out⟩
def Point.zero : Point := ⟨0, 0⟩
def Key.zero : Key := ⟨0, .zero⟩
def Sess.zero : Sess := ⟨.zero, .zero, 0, [], 0, 0⟩
structure Point.wf (p : Point) : Prop where
  ip : (Lit.int .u32 p.ip).wf = true
  port : (Lit.int .u16 p.port).wf = true
structure Key.wf (k : Key) : Prop where
  proto : (Lit.int .u8 k.proto).wf = true
  pt : k.pt.wf
structure SessV (S : Nat → Prop) (w : World) (s : Sess) (v : Value) : Prop where
  val : ∃ A c, v = s.val A c ∧ RowAt S w A (ptCells s.peers)
theorem SessV.keeps {S : Nat → Prop} {w w' : World} {s : Sess} {v : Value} (h : SessV S w s v) (hk : Keeps S w w') : SessV S w' s v := by
  obtain ⟨A, c, e, hr⟩ := h.val
  exact ⟨A, c, e, hr.keeps hk⟩
theorem SessV.mono {S S' : Nat → Prop} {w : World} {s : Sess} {v : Value} (h : SessV S w s v) (hs : ∀ b, b < w.heap.size → S b → S' b) : SessV S' w s v := by
  obtain ⟨A, c, e, hr⟩ := h.val
  exact ⟨A, c, e, hr.mono hs⟩
theorem Point.cells_length (p : Point) : p.cells.length = 2 := rfl
theorem ptCells_length (l : List Point) : (ptCells l).length = l.length * 2 := flat_length Point.cells 2 Point.cells_length l
theorem Key.val_inj {a b : Key} (h : a.val = b.val) : a = b := by
  obtain ⟨p, ⟨i, q⟩⟩ := a
  obtain ⟨p', ⟨i', q'⟩⟩ := b
  simp [Key.val] at h
  simp [h]
/-- Point i of a row: its address and its two cells. -/
theorem pts_at {S : Nat → Prop} {w : World} {A : Option Addr} {l : List Point} (h : RowAt S w A (ptCells l)) {i : Nat} {p : Point} (hi : l[i]? = some p) :
    ∃ b o, A = some ⟨b, o, none⟩ ∧ S b ∧ b < w.heap.size ∧ w.cell? ⟨b, o + i * 2, none⟩ = some (.int .u32 p.ip) ∧ w.cell? ⟨b, o + i * 2 + 1, none⟩ = some (.int .u16 p.port) := by
  obtain ⟨b, o, e, hs, hlt, hc⟩ := h.elem Point.cells 2 Point.cells_length (by omega) hi
  exact ⟨b, o, e, hs, hlt, hc 0 _ rfl, hc 1 _ rfl⟩

/-! ### types -/
@[go_sem] theorem stPoint : Try.prog.stoodInHeld 26 = false := by kernel_rfl
@[go_sem] theorem gtPoint : Try.prog.eqGuardType Try.prog.depth 26 = false := by kernel_rfl
@[go_sem] theorem stKey : Try.prog.stoodInHeld 31 = false := by kernel_rfl
@[go_sem] theorem gtKey : Try.prog.eqGuardType Try.prog.depth 31 = false := by kernel_rfl
@[go_sem high] theorem neqPoint (a b c d : Int) (w : World) : (binOp .neq 26 (.agg #[.int .u32 a, .int .u16 b]) (.agg #[.int .u32 c, .int .u16 d])).run Try.prog w = .ok (.bool (!(a == c && b == d))) w := by
  go_simp
  by_cases h1 : a = c <;> by_cases h2 : b = d <;> simp [h1, h2]
@[go_sem high] theorem eqPoint (a b c d : Int) (w : World) : (binOp .eql 26 (.agg #[.int .u32 a, .int .u16 b]) (.agg #[.int .u32 c, .int .u16 d])).run Try.prog w = .ok (.bool (a == c && b == d)) w := by
  go_simp
  by_cases h1 : a = c <;> by_cases h2 : b = d <;> simp [h1, h2]
@[go_sem high] theorem eqKey (p q a b c d : Int) (w : World) : (binOp .eql 31 (.agg #[.int .u8 p, .int .u32 a, .int .u16 b]) (.agg #[.int .u8 q, .int .u32 c, .int .u16 d])).run Try.prog w = .ok (.bool (p == q && (a == c && b == d))) w := by
  go_simp
  by_cases h0 : p = q <;> by_cases h1 : a = c <;> by_cases h2 : b = d <;> simp [h0, h1, h2]
theorem point_beq (p q : Point) : (p.ip == q.ip && p.port == q.port) = decide (p = q) := by
  obtain ⟨a, b⟩ := p
  obtain ⟨c, d⟩ := q
  by_cases h1 : a = c <;> by_cases h2 : b = d <;> simp [h1, h2]

theorem laidOut : laidOutB Try.prog = true := by kernel_rfl
theorem keyedKey : Maps.Keyed Try.prog 31 := Maps.Keyed.of_law (deep_law_laid laidOut (m := 5) (by omega) (of_decide_eq_true (by kernel_rfl)) (by kernel_rfl) (by kernel_rfl))
theorem keyedOuter : Maps.Keyed Try.prog 67 := Maps.Keyed.of_law (deep_law_laid laidOut (m := 5) (by omega) (of_decide_eq_true (by kernel_rfl)) (by kernel_rfl) (by kernel_rfl))
theorem tsize : ∃ n, Try.prog.types.size = n + 10 := ⟨Try.prog.types.size - 10, by have : 10 ≤ Try.prog.types.size := of_decide_eq_true (by kernel_rfl); omega⟩
theorem coKey : Try.prog.cellsOf 31 = 3 := by kernel_rfl
theorem coOuter : Try.prog.cellsOf 67 = 3 := by kernel_rfl
theorem coPoint : Try.prog.cellsOf 26 = 2 := by kernel_rfl
theorem coU32 : Try.prog.cellsOf 23 = 1 := by kernel_rfl
theorem coU16 : Try.prog.cellsOf 24 = 1 := by kernel_rfl
theorem coU8 : Try.prog.cellsOf 5 = 1 := by kernel_rfl
theorem ktKey : Try.prog.keyType 31 = true := by kernel_rfl
theorem ktOuter : Try.prog.keyType 67 = true := by kernel_rfl
theorem keyLits_struct {P : Program} {d t : Nat} {cs : List Value} {fs : Array Field} (ht : P.underlying t = some (.struct fs)) (hl : cs.length = P.cellsOf t) (hf : fs.all (fun f => f.name != "_") = true) :
    P.keyLits (d + 1) t cs = (fs.toList.mapM fun f => P.keyLits d f.type ((cs.drop f.offset).take (P.cellsOf f.type))).map List.flatten := by
  simp only [Program.keyLits, ht]
  rw [if_pos ⟨hl, hf⟩]
theorem keyLits_int {P : Program} {d t : Nat} {q : IntKind} {n : Int} (ht : P.underlying t = some (.int q)) (hw : (Lit.int q n).wf = true) : P.keyLits (d + 1) t [.int q n] = some [.int q n] := by
  simp [Program.keyLits, ht, hw]
theorem litsPoint (n : Nat) (p : Point) (h : p.wf) : Try.prog.keyLits (n + 2) 26 p.cells = some [.int .u32 p.ip, .int .u16 p.port] := by
  rw [keyLits_struct Try.underlying26 (by rw [coPoint]; rfl) (by simp)]
  simp [Point.cells, coU32, coU16, keyLits_int Try.underlying23 h.ip, keyLits_int Try.underlying24 h.port]
theorem keyOfKey (k : Key) (h : k.wf) : ∃ l, keyOf Try.prog 31 k.val = some l := by
  obtain ⟨n, hn⟩ := tsize
  have hf : k.val.formed Try.prog 31 = true := by simp only [Key.val, Value.formed, Try.underlying31, coKey]; rfl
  have hp := litsPoint (n + 8) k.pt h.pt
  simp only [keyOf, Try.underlying31, ktKey, hf, hn, Bool.and_self, if_true]
  rw [show k.val.cells.toList = [.int .u8 k.proto, .int .u32 k.pt.ip, .int .u16 k.pt.port] from rfl, show n + 10 + 1 = (n + 8) + 3 from rfl, keyLits_struct Try.underlying31 (by rw [coKey]; rfl) (by simp)]
  simp [coPoint, coU8, keyLits_int Try.underlying5 h.proto]
  simp only [Point.cells] at hp
  simp [hp]
theorem keyOfOuter (k : Key) (h : k.wf) : ∃ l, keyOf Try.prog 67 k.val = some l := by
  obtain ⟨n, hn⟩ := tsize
  have hf : k.val.formed Try.prog 67 = true := by simp only [Key.val, Value.formed, Try.underlying67, coOuter]; rfl
  have hp := litsPoint (n + 8) k.pt h.pt
  simp only [keyOf, Try.underlying67, ktOuter, hf, hn, Bool.and_self, if_true]
  rw [show k.val.cells.toList = [.int .u8 k.proto, .int .u32 k.pt.ip, .int .u16 k.pt.port] from rfl, show n + 10 + 1 = (n + 8) + 3 from rfl, keyLits_struct Try.underlying67 (by rw [coOuter]; rfl) (by simp)]
  simp [coPoint, coU8, keyLits_int Try.underlying5 h.proto]
  simp only [Point.cells] at hp
  simp [hp]

/-! ### lychhelp.Points -/
theorem list_eq_of_get {α : Type} {l m : List α} (hl : l.length = m.length) (h : ∀ j, j < l.length → l[j]? = m[j]?) : l = m := by
  apply List.ext_getElem? 
  intro i
  by_cases hi : i < l.length
  · exact h i hi
  · rw [List.getElem?_eq_none (by omega), List.getElem?_eq_none (by omega)]

theorem points_lens (A B : Option Addr) (n m c d : Nat) (w : World) (h : n ≠ m) :
    Calls Try.prog 9 #[.slice A n c, .slice B m d] w fun e w' => e = .returned (.bool false) ∧ ∃ n, w' = w.drewN n := by
  have hl : ((n : Int) != m) = true := by rw [bne_iff_ne]; omega
  go_enter Try.func9, Try.ntmps9
  go_wp2
  go_ret
  exact ⟨rfl, 0, rfl⟩
theorem points_same {S S' : Nat → Prop} (A B : Option Addr) (c d : Nat) (xs ys : List Point) (w : World) (hx : RowAt S w A (ptCells xs)) (hy : RowAt S' w B (ptCells ys)) (bx : xs.length ≤ 9223372036854775807) (m : Nat) (hm : m = ys.length) (hxy : xs.length = m) :
    Calls Try.prog 9 #[.slice A m c, .slice B m d] w fun e w' => e = .returned (.bool (decide (xs = ys))) ∧ ∃ n, w' = w.drewN n := by
  have hl : ((m : Int) != m) = false := by simp
  have bm : m ≤ 9223372036854775807 := by omega
  have HM := Lib.hid hm
  have HX := Lib.hid hxy
  clear hm hxy
  go_enter Try.func9, Try.ntmps9
  go_wp2
  go_loopw [5] (fun i wr => ∃ k : Nat, i = .int .i64 k ∧ k ≤ m ∧ (∀ j, j < k → xs[j]? = ys[j]?) ∧ ∃ n, wr = w.drewN n) (fun i _ => m - (intOf i).toNat)
  case atStart => exact ⟨0, rfl, by omega, by omega, 0, rfl⟩
  case round =>
    obtain ⟨k, rfl, hk, hpre, n, rfl⟩ := hrel
    have HP := Lib.hid hpre
    clear hpre
    by_cases hlt : k < m
    · have hkx : k < xs.length := by have := HX.out; omega
      have hky : k < ys.length := by have := HM.out; omega
      obtain ⟨p, hp⟩ : ∃ p, xs[k]? = some p := ⟨_, List.getElem?_eq_getElem hkx⟩
      obtain ⟨q, hq⟩ : ∃ q, ys[k]? = some q := ⟨_, List.getElem?_eq_getElem hky⟩
      obtain ⟨b, o, rfl, _, _, hx0, hx1⟩ := pts_at hx hp
      obtain ⟨b', o', rfl, _, _, hy0, hy1⟩ := pts_at hy hq
      have HPQ := Lib.hid (And.intro hp hq)
      clear hp hq hx hy
      have p1 : (0:Int) ≤ k := by omega
      have p2 : (k:Int) < m := by omega
      have hpq := point_beq p q
      by_cases hd : p = q
      · have hb : (p.ip == q.ip && p.port == q.port) = true := by rw [hpq]; simpa using hd
        have hb' : (!(p.ip == q.ip && p.port == q.port)) = false := by rw [hb]; rfl
        have HD := Lib.hid hd
        clear hpq hd
        go_wp2
        go_quiet (fail)
        go_wp2
        all_goals first
          | (exfalso; have e := HD.out; subst e; simp_all; done)
          | (refine ⟨⟨k + 1, by go_num, by omega, ?_, _, by first | rfl | exact World.drewN_drewN ..⟩, by simp [intOf]; omega⟩
             intro j hj
             rcases Nat.lt_or_ge j k with h | h
             · exact HP.out j h
             · obtain rfl : j = k := by omega
               rw [HPQ.out.1, HPQ.out.2, HD.out])
      · have hb : (p.ip == q.ip && p.port == q.port) = false := by rw [hpq]; simpa using hd
        have HD := Lib.hid hd
        clear hpq hd
        go_wp2
        go_quiet (fail)
        go_wp2
        all_goals first
          | (exfalso; simp_all; done)
          | (go_ret
             refine ⟨?_, _, by first | rfl | exact World.drewN_drewN ..⟩
             have : ¬ xs = ys := by
               intro e
               have h1 := HPQ.out.1
               rw [e, HPQ.out.2] at h1
               exact HD.out (Option.some.inj h1).symm
             simp [this])
    · have hk' : k = m := by omega
      subst hk'
      have : xs = ys := list_eq_of_get (by rw [HX.out, HM.out]) (fun j hj => HP.out j (by have := HX.out; omega))
      have H := Lib.hid this
      clear this
      go_wp2
      go_ret
      exact ⟨by simp [H.out], n, rfl⟩
theorem points_ok {S S' : Nat → Prop} (A B : Option Addr) (c d : Nat) (xs ys : List Point) (w : World) (hx : RowAt S w A (ptCells xs)) (hy : RowAt S' w B (ptCells ys)) (bx : xs.length ≤ 9223372036854775807) :
    Calls Try.prog 9 #[.slice A xs.length c, .slice B ys.length d] w fun e w' => e = .returned (.bool (decide (xs = ys))) ∧ ∃ n, w' = w.drewN n := by
  by_cases h : xs.length = ys.length
  · have := points_same A B c d xs ys w hx hy bx ys.length rfl h
    rw [h]
    exact this
  · have hne : ¬ xs = ys := fun e => h (by rw [e])
    simp only [hne, decide_false]
    exact points_lens A B _ _ c d w h

end Go.Proofs.Ytimbhkbdmcbodaa
