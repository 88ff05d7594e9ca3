/-
  Lib, CfgA, CfgB, CfgC, CfgD, CfgE, CfgF, Chain, Open, App, CloneU8, CatU8 in one text (pack.py).
-/
import Derived.WalkKit
import Derived.ProofKit
import Derived.Maps.Keyed
import Derived.Deep.Draws
import Derived.Test.YtpkieilmlnlpkaaGreatRows
import Derived.Test.YtpkieilmlnlpkaaGreatChecked
import Derived.Deep.LoopGhost
import Derived.Deep.QuietTactic
import Derived.Deep.RegionHeld3
import Derived.Deep.AppendLies
import Derived.Deep.RegionLaw
import Derived.Laws.CopyOwn
import Derived.Laws.IdiomStrings
import Derived.Lib.SlBytesRow
import Derived.BigQuiet
import Derived.WalkSpells
import Derived.Lib.Hide
import Derived.Outline
import Derived.Maps.AppendAt
import Derived.Deep.DeepCutAuto
import Derived.StillTailTactics
import Derived.ChangeSame
import Derived.ChangeSlices
import Derived.WideShapes
import Derived.Deep.SlicePairs
import Derived.Lib.AppendZerosOnto
import Derived.Lib.AppendZeros
import Derived.Lib.SliceRun
import Derived.IntWalk
namespace Go.Proofs.YtpkieilmlnlpkaaGreat

section
open Go.RowKit Go.MapKept Go.ChangeMaps
set_option linter.unusedVariables false
/-! ### which blocks may have turned -/
/-- Of the blocks that were there only those of F may have turned; new ones may have come. -/
structure Mod (F : Nat → Prop) (w w' : World) : Prop where
  os : w'.os = w.os
  tape : w'.tape = w.tape
  output : w'.output = w.output
  size : w.heap.size ≤ w'.heap.size
  block : ∀ b, b < w.heap.size → ¬ F b → w'.heap[b]? = w.heap[b]?
def No : Nat → Prop := fun _ => False
theorem Mod.refl (F : Nat → Prop) (w : World) : Mod F w w := ⟨rfl, rfl, rfl, Nat.le_refl _, fun _ _ _ => rfl⟩
theorem Mod.trans {F : Nat → Prop} {a b c : World} (h : Mod F a b) (k : Mod F b c) : Mod F a c :=
  ⟨k.os.trans h.os, k.tape.trans h.tape, k.output.trans h.output, Nat.le_trans h.size k.size, fun i hi hf => (k.block i (Nat.lt_of_lt_of_le hi h.size) hf).trans (h.block i hi hf)⟩
/-- What is turned later, if it was there before, is F's. -/
theorem Mod.trans' {F G : Nat → Prop} {a b c : World} (h : Mod F a b) (k : Mod G b c) (hg : ∀ i, i < a.heap.size → G i → F i) : Mod F a c :=
  ⟨k.os.trans h.os, k.tape.trans h.tape, k.output.trans h.output, Nat.le_trans h.size k.size, fun i hi hf => (k.block i (Nat.lt_of_lt_of_le hi h.size) (fun g => hf (hg i hi g))).trans (h.block i hi hf)⟩
theorem Mod.mono {F G : Nat → Prop} {a b : World} (h : Mod F a b) (hg : ∀ i, F i → G i) : Mod G a b := ⟨h.os, h.tape, h.output, h.size, fun i hi hf => h.block i hi (fun g => hf (hg i g))⟩
theorem Mod.drew {F : Nat → Prop} {a w : World} (h : Mod F a w) : Mod F a w.drew := ⟨h.os, h.tape, h.output, h.size, h.block⟩
theorem Mod.drewN {F : Nat → Prop} {a w : World} (h : Mod F a w) (n : Nat) : Mod F a (w.drewN n) := ⟨h.os, h.tape, h.output, h.size, h.block⟩
theorem Mod.alloc {F : Nat → Prop} {a w : World} (h : Mod F a w) (o : Obj) : Mod F a (w.alloc o) :=
  h.trans ⟨rfl, rfl, rfl, by simp, fun k hk _ => Below.heap_alloc _ _ _ (by omega)⟩
theorem Mod.setCell {F : Nat → Prop} {a w : World} (h : Mod F a w) {p : Addr} (hp : a.heap.size ≤ p.block ∨ F p.block) (u : Value) : Mod F a (w.setCell p u) :=
  h.trans' (G := fun b => b = p.block) ⟨rfl, rfl, rfl, by simp [World.setCell], fun k hk hf => Below.heap_setCell _ _ _ _ hf⟩ (fun i hi hg => by subst hg; rcases hp with hp | hp; omega; exact hp)
theorem Mod.grown {F : Nat → Prop} {a w w' : World} {row : Option Nat} (h : Mod F a w) (hg : w.grownBy w' row) (hr : ∀ k, row = some k → a.heap.size ≤ k ∨ F k) : Mod F a w' :=
  h.trans' (G := fun k => row = some k) ⟨hg.os, hg.tape, hg.output, hg.size, fun k hk hf => hg.block k hk (fun e => hf e.symm)⟩ (fun i hi hgi => by rcases hr i hgi with h1 | h1; omega; exact h1)
theorem Mod.below {w w' : World} (h : Mod No w w') : Below w.heap.size w w' := ⟨h.os, h.tape, h.output, h.size, fun k hk => h.block k hk id⟩
theorem Mod.cell {F : Nat → Prop} {w w' : World} (h : Mod F w w') {p : Addr} {v : Value} (hc : w.cell? p = some v) (hf : ¬ F p.block) : w'.cell? p = some v :=
  (World.cell?_of_block (w := w) (h.block p.block (World.block_lt_of_cell? _ _ hc) hf)).trans hc
theorem Mod.obj {F : Nat → Prop} {w w' : World} (h : Mod F w w') {b : Nat} {o : Obj} (hc : w.heap[b]? = some o) (hf : ¬ F b) : w'.heap[b]? = some o :=
  (h.block b (lt_of_block hc) hf).trans hc
/-! the blocks that a call has just laid -/
theorem at10 (w : World) (a : Obj) : (w.alloc a).heap[w.heap.size]? = some a := by show (w.heap.push a)[w.heap.size]? = some a; simp
theorem at20 (w : World) (a b : Obj) : ((w.alloc a).alloc b).heap[w.heap.size]? = some a := (Below.heap_alloc _ _ _ (by simp)).trans (at10 w a)
theorem at21 (w : World) (a b : Obj) : ((w.alloc a).alloc b).heap[w.heap.size + 1]? = some b := by show ((w.heap.push a).push b)[w.heap.size + 1]? = some b; rw [Array.getElem?_push, if_pos (by simp)]
theorem at30 (w : World) (a b c : Obj) : (((w.alloc a).alloc b).alloc c).heap[w.heap.size]? = some a := (Below.heap_alloc _ _ _ (by simp; omega)).trans (at20 w a b)
theorem at31 (w : World) (a b c : Obj) : (((w.alloc a).alloc b).alloc c).heap[w.heap.size + 1]? = some b := (Below.heap_alloc _ _ _ (by simp)).trans (at21 w a b)
theorem at32 (w : World) (a b c : Obj) : (((w.alloc a).alloc b).alloc c).heap[w.heap.size + 1 + 1]? = some c := by show (((w.heap.push a).push b).push c)[w.heap.size + 2]? = some c; rw [Array.getElem?_push, if_pos (by simp)]
/-- A block that is known whole: its cells; none is frozen. -/
theorem blk_cell {w : World} {b : Nat} {cs : Array Value} {t : TypeId} (h : w.heap[b]? = some (.cells cs t (0, 0))) (j : Nat) : w.cell? ⟨b, j, none⟩ = cs[j]? := by simp [World.cell?, h]
theorem blk_free {w : World} {b : Nat} {cs : Array Value} {t : TypeId} (h : w.heap[b]? = some (.cells cs t (0, 0))) (j : Nat) : w.frozen? ⟨b, j, none⟩ = false := by simp [World.frozen?, h]
/-- The blocks of S are as they were. -/
def Keeps (S : Nat → Prop) (w w' : World) : Prop := ∀ b o, S b → w.heap[b]? = some o → w'.heap[b]? = some o
theorem Keeps.refl (S : Nat → Prop) (w : World) : Keeps S w w := fun _ _ _ h => h
theorem Keeps.trans {S : Nat → Prop} {a b c : World} (h : Keeps S a b) (k : Keeps S b c) : Keeps S a c := fun i o hs ho => k i o hs (h i o hs ho)
theorem Mod.keeps {F S : Nat → Prop} {w w' : World} (h : Mod F w w') (hd : ∀ b, b < w.heap.size → S b → ¬ F b) : Keeps S w w' := fun b o hs ho => h.obj ho (hd b (lt_of_block ho) hs)
theorem Keeps.below {B : Nat} {w w' : World} (h : Below B w w') : Keeps (· < B) w w' := fun b o hs ho => (h.block b hs).trans ho
/-! ### rows of cells that are read -/
/-- The cells 'cs' stand at the address A, in a block of S. (Of no cells nothing is asked.) -/
def RowAt (S : Nat → Prop) (w : World) (A : Option Addr) (cs : List Value) : Prop :=
  cs = [] ∨ ∃ b o, A = some ⟨b, o, none⟩ ∧ S b ∧ ∀ j v, cs[j]? = some v → w.cell? ⟨b, o + j, none⟩ = some v
theorem RowAt.nil (S : Nat → Prop) (w : World) (A : Option Addr) : RowAt S w A [] := .inl rfl
theorem RowAt.keeps {S : Nat → Prop} {w w' : World} {A : Option Addr} {cs : List Value} (h : RowAt S w A cs) (hk : Keeps S w w') : RowAt S w' A cs := by
  rcases h with h | ⟨b, o, e, hs, hc⟩
  · exact .inl h
  · refine .inr ⟨b, o, e, hs, fun j v hj => ?_⟩
    have h1 := hc j v hj
    have hlt := World.block_lt_of_cell? _ _ h1
    simp only [World.cell?] at h1 ⊢
    cases ho : w.heap[b]? with
    | none => simp [ho] at h1
    | some x => rw [hk b x hs ho]; rw [ho] at h1; exact h1
theorem RowAt.mono {S S' : Nat → Prop} {w : World} {A : Option Addr} {cs : List Value} (h : RowAt S w A cs) (hs : ∀ b, b < w.heap.size → S b → S' b) : RowAt S' w A cs := by
  rcases h with h | ⟨b, o, e, h1, hc⟩
  · exact .inl h
  · cases cs with
    | nil => exact .inl rfl
    | cons c cs => exact .inr ⟨b, o, e, hs b (World.block_lt_of_cell? _ _ (hc 0 c rfl)) h1, hc⟩
/-- Where there is a cell, there is an address. -/
theorem RowAt.open {S : Nat → Prop} {w : World} {A : Option Addr} {cs : List Value} (h : RowAt S w A cs) (hne : cs ≠ []) : ∃ b o, A = some ⟨b, o, none⟩ ∧ S b ∧ b < w.heap.size ∧ ∀ j v, cs[j]? = some v → w.cell? ⟨b, o + j, none⟩ = some v := by
  rcases h with h | ⟨b, o, e, h1, hc⟩
  · exact absurd h hne
  · cases cs with
    | nil => exact absurd rfl hne
    | cons c cs => exact ⟨b, o, e, h1, World.block_lt_of_cell? _ _ (hc 0 c rfl), hc⟩
/-- Elements of k cells each, laid one behind the other: cell j of element i. -/
theorem flat_at {α : Type} (f : α → List Value) (k : Nat) (hk : ∀ x, (f x).length = k) : ∀ (l : List α) (i j : Nat) (x : α), l[i]? = some x → j < k → (l.flatMap f)[i * k + j]? = (f x)[j]?
  | [], i, j, x, h, _ => by simp at h
  | y :: r, 0, j, x, h, hj => by
    obtain rfl : y = x := by simpa using h
    simp only [List.flatMap_cons, Nat.zero_mul, Nat.zero_add]
    rw [List.getElem?_append_left (by rw [hk]; exact hj)]
  | y :: r, i + 1, j, x, h, hj => by
    have h' : r[i]? = some x := by simpa using h
    simp only [List.flatMap_cons]
    rw [List.getElem?_append_right (by rw [hk]; have : (i + 1) * k = i * k + k := Nat.succ_mul i k; omega), hk]
    have e : (i + 1) * k + j - k = i * k + j := by have : (i + 1) * k = i * k + k := Nat.succ_mul i k; omega
    rw [e]
    exact flat_at f k hk r i j x h' hj
theorem flat_length {α : Type} (f : α → List Value) (k : Nat) (hk : ∀ x, (f x).length = k) : ∀ (l : List α), (l.flatMap f).length = l.length * k
  | [] => by simp
  | y :: r => by rw [List.flatMap_cons, List.length_append, hk, flat_length f k hk r, List.length_cons, Nat.succ_mul]; omega
/-- Element i of a row: its address, its cells. -/
theorem RowAt.elem {α : Type} (f : α → List Value) (k : Nat) (hk : ∀ x, (f x).length = k) (hk0 : 0 < k) {S : Nat → Prop} {w : World} {A : Option Addr} {l : List α} (h : RowAt S w A (l.flatMap f)) {i : Nat} {x : α} (hi : l[i]? = some x) :
    ∃ b o, A = some ⟨b, o, none⟩ ∧ S b ∧ b < w.heap.size ∧ ∀ j v, (f x)[j]? = some v → w.cell? ⟨b, o + i * k + j, none⟩ = some v := by
  have hne : l.flatMap f ≠ [] := by
    intro e
    have := flat_length f k hk l
    rw [e] at this
    have hlt := (List.getElem?_eq_some_iff.1 hi).1
    have : 0 < l.length * k := Nat.mul_pos (by omega) hk0
    simp at *
    omega
  obtain ⟨b, o, e, hs, hlt, hc⟩ := h.open hne
  refine ⟨b, o, e, hs, hlt, fun j v hj => ?_⟩
  have hjk : j < k := by rw [← hk x]; exact (List.getElem?_eq_some_iff.1 hj).1
  rw [Nat.add_assoc]
  exact hc _ _ ((flat_at f k hk l i j x hi hjk).trans hj)
/-- What the call owns is a row. -/
theorem RowAt.of_owns {w : World} {base : Nat} {e : TypeId} {size : Nat} {v : Value} {n : Nat} {xs : List Value} (h : w.ownsRow base e size v n xs) : ∃ A c, v = .slice A n c ∧ n ≤ c ∧ RowAt (fun b => base ≤ b) w A xs := by
  have hl := h.1
  rcases h.2 with ⟨rfl, rfl⟩ | ⟨g, cap, cur, rfl, hb, hg, hn, _⟩
  · exact ⟨none, 0, rfl, Nat.le_refl _, .inl (List.eq_nil_of_length_eq_zero (by simpa using hl))⟩
  · refine ⟨_, cap, rfl, hn, .inr ⟨g, 0, rfl, hb, fun j u hj => ?_⟩⟩
    have := h.cells (g := g) rfl j u hj
    rwa [Addr.add_lit] at this
/-- Two lists, element by element. -/
def All2 {α β : Type} (R : α → β → Prop) : List α → List β → Prop
  | [], [] => True
  | x :: l, y :: m => R x y ∧ All2 R l m
  | _, _ => False
theorem All2.length {α β : Type} {R : α → β → Prop} : ∀ {l : List α} {m : List β}, All2 R l m → l.length = m.length
  | [], [], _ => rfl
  | _ :: _, _ :: _, h => by simp [All2.length h.2]
theorem All2.imp {α β : Type} {R R' : α → β → Prop} (hr : ∀ x y, R x y → R' x y) : ∀ {l : List α} {m : List β}, All2 R l m → All2 R' l m
  | [], [], _ => trivial
  | _ :: _, _ :: _, h => ⟨hr _ _ h.1, All2.imp hr h.2⟩
theorem All2.append {α β : Type} {R : α → β → Prop} : ∀ {l l' : List α} {m m' : List β}, All2 R l m → All2 R l' m' → All2 R (l ++ l') (m ++ m')
  | [], _, [], _, _, h => h
  | _ :: _, _, _ :: _, _, h, h' => ⟨h.1, All2.append h.2 h'⟩
theorem All2.set {α β : Type} {R : α → β → Prop} {x : α} {y : β} (hxy : R x y) : ∀ {l : List α} {m : List β} (_ : All2 R l m) (i : Nat), All2 R (l.set i x) (m.set i y)
  | [], [], _, _ => by simp [All2]
  | _ :: _, _ :: _, h, 0 => ⟨hxy, h.2⟩
  | _ :: l, _ :: m, h, i + 1 => ⟨h.1, All2.set hxy h.2 i⟩
/-! ### a map's block -/
section
variable {P : Program} {t k e : TypeId} {w : World} {b : Nat} {es : Array MapEntry} {clock : Nat}
end
end

section
open Go.RowKit
set_option linter.unusedVariables false
/-- Bytes as cells. -/
def bcells (l : List UInt8) : List Value := l.map fun b => .int .u8 (b.toNat : Int)
theorem bcells_length (l : List UInt8) : (bcells l).length = l.length := by simp [bcells]
theorem bcells_append (l m : List UInt8) : bcells (l ++ m) = bcells l ++ bcells m := by simp [bcells]
theorem bcells_one (l : List UInt8) : ∀ u ∈ bcells l, u.oneCell' = true := by
  intro u hu
  simp only [bcells, List.mem_map] at hu
  obtain ⟨b, _, rfl⟩ := hu
  rfl
/-- A number's bytes, the highest first. -/
def be : Nat → Nat → List UInt8
  | 0, _ => []
  | k + 1, n => UInt8.ofNat (n / 256 ^ k) :: be k n
theorem be_length : ∀ k n, (be k n).length = k
  | 0, _ => rfl
  | k + 1, n => by simp [be, be_length k n]
/-- A coder that writes: its row is its own, and holds L. -/
structure Wr (w : World) (C base : Nat) (L : List UInt8) (v : Value) : Prop where
  blk : w.heap[C]? = some (.cells #[v, .bool false, .int .i64 0, .bool false] 102 (0, 0))
  own : w.ownsRow base 5 1 v L.length (bcells L)
/-- What a step of writing turns: the coder's block, its row; the row behind it is that row, or a new one. -/
structure WMod (C : Nat) (v : Value) (w : World) (v' : Value) (w' : World) : Prop where
  mod : Mod (fun b => b = C ∨ v.ownBlock = some b) w w'
  row : ∀ g, v'.ownBlock = some g → v.ownBlock = some g ∨ w.heap.size ≤ g
theorem WMod.refl (C : Nat) (v : Value) (w : World) : WMod C v w v w := ⟨Mod.refl _ _, fun _ h => .inl h⟩
theorem WMod.trans {C : Nat} {v v1 v2 : Value} {w w1 w2 : World} (h : WMod C v w v1 w1) (k : WMod C v1 w1 v2 w2) : WMod C v w v2 w2 :=
  ⟨h.mod.trans' k.mod (fun i hi hg => by
    rcases hg with hg | hg
    · exact .inl hg
    · rcases h.row i hg with h1 | h1
      · exact .inr h1
      · omega), fun g hg => by
    rcases k.row g hg with h1 | h1
    · exact h.row g h1
    · exact .inr (Nat.le_trans h.mod.size h1)⟩
theorem Wr.ne {w : World} {C base : Nat} {L : List UInt8} {v : Value} (h : Wr w C base L v) {b : Nat} {cs : Array Value} {t : TypeId} {fr : Nat × Nat} (hb : w.heap[b]? = some (.cells cs t fr)) (ht : t ≠ 5) : v.ownBlock ≠ some b := by
  intro e
  rcases h.own.2 with ⟨rfl, _⟩ | ⟨g, cap, cur, rfl, _, hg, _⟩
  · simp [Value.ownBlock] at e
  · obtain rfl : g = b := by simpa [Value.ownBlock] using e
    rw [hb] at hg
    simp at hg
    exact ht hg.2.1
theorem Wr.lt {w : World} {C base : Nat} {L : List UInt8} {v : Value} (h : Wr w C base L v) {g : Nat} (hg : v.ownBlock = some g) : base ≤ g ∧ g < w.heap.size := by
  rcases h.own.2 with ⟨rfl, _⟩ | ⟨g', cap, cur, rfl, hb, hh, _⟩
  · simp [Value.ownBlock] at hg
  · obtain rfl : g' = g := by simpa [Value.ownBlock] using hg
    exact ⟨hb, lt_of_block hh⟩
/-- What is neither the coder's block nor its row is as it was. -/
theorem WMod.obj {C : Nat} {v v' : Value} {w w' : World} (h : WMod C v w v' w') {b : Nat} {o : Obj} (hb : w.heap[b]? = some o) (h1 : b ≠ C) (h2 : v.ownBlock ≠ some b) : w'.heap[b]? = some o :=
  h.mod.obj hb (fun f => f.elim h1 h2)
/-- What a closure does that tells a number: it writes nothing that is there. -/
structure Gets (F : Nat → Prop) (fn : Nat) (cp : Value) (n : Nat) (w : World) : Prop where
  enters : ∀ (a : Array Value) (W : World), (callFunc fn a).run Tryz.prog W = .ok (.enter fn a) W
  says : ∀ (W : World), Mod F w W → Calls Tryz.prog fn #[cp] W fun e W' => e = .returned (.int .u64 n) ∧ Mod No W W'
theorem infoU8 : (Tryz.prog.info? 5).map (fun i => (i.zero, i.size, i.bytes)) = some (some (.int .u8 0), 1, 1) := by kernel_rfl
theorem own_mod {w w' : World} {base : Nat} {e : TypeId} {size : Nat} {v : Value} {n : Nat} {xs : List Value} {F : Nat → Prop} (h : w.ownsRow base e size v n xs) (hm : Mod F w w') (hF : ∀ k, v.ownBlock = some k → ¬ F k) : w'.ownsRow base e size v n xs := by
  refine ⟨h.1, ?_⟩
  rcases h.2 with hn | ⟨g, cap, cur, rfl, hb, hgg, rest⟩
  · exact .inl hn
  · exact .inr ⟨g, cap, cur, rfl, hb, hm.obj hgg (hF g rfl), rest⟩
/-- Bytes more on a row that the call owns: at a step of a region that draws. -/
theorem step_append_bytes {w : World} {ops : Array Oper} {o : Oper} {a : Act} {K : Act → World → Prop} {Q : Exit → Act → World → Prop} {E : Prop} (hgd : o.guard = none) (s x : Operand)
    (ho : o.op = .call { callee := .builtin .append, args := #[s, x], argTypes := #[40, 40] }) (v : Value) (l : List UInt8) (base : Nat) (hs : a.eval s = v) (hown : w.ownsRow base 5 1 v l.length (bcells l))
    (ad : Addr) (c : Nat) (m : List UInt8) (hx : a.eval x = .slice (some ad) m.length c) (hc : ∀ j u, (bcells m)[j]? = some u → w.cell? (ad.add j) = some u) (hl : l.length + m.length ≤ 100000000) (hm : 0 < m.length) (hbase : base ≤ w.heap.size)
    (h : ∀ g cap w', w'.ownsRow base 5 1 (.slice (some ⟨g, 0, none⟩) (l ++ m).length cap) (l ++ m).length (bcells (l ++ m)) → w.grownBy w' v.ownBlock → (v.ownBlock = some g ∨ g = w.heap.size) → K (a.put o.dst (.slice (some ⟨g, 0, none⟩) (l ++ m).length cap)) w') :
    if Region.wanted o (yielded ops a.tmps) = true then Oper.wp Tryz.prog o a w K Q else E := by
  obtain ⟨i0, hi, hz0, hz1, hz2⟩ := info_parts infoU8
  refine step_append_lies w hgd s x _ ho base 5 i0 _ 1 1 Tryz.underlying40 hi hz0 hz1 hz2 rfl (by decide) v l.length (bcells l) hs hown ad m.length c (bcells m) hx (by rw [bcells_length]; omega) hc (bcells_one m) hm ?_ ?_ hbase _ rfl ?_
  · unfold maxLen; omega
  · omega
  · intro g cap w' h1 h2 h3 _
    rw [← bcells_append, ← List.length_append] at h1
    have := h g cap w' h1 h2 h3
    rwa [List.length_append] at this
theorem heap_setCell_row {w : World} {g i : Nat} {cur : Array Value} {t : TypeId} (hg : w.heap[g]? = some (.cells cur t (0, 0))) (v : Value) : (w.setCell ⟨g, i, none⟩ v).heap[g]? = some (.cells (cur.setIfInBounds i v) t (0, 0)) := by
  have hlt := lt_of_block hg
  have h' : w.heap[g] = .cells cur t (0, 0) := by simpa [Array.getElem?_eq_getElem hlt] using hg
  show (w.heap.modify g _)[g]? = _
  rw [Array.getElem?_eq_getElem (by simpa using hlt), Array.getElem_modify_self, h']
  rfl
/-- The row behind an append, stored into the coder: whatever the new value looks like. -/
theorem wr_step_any {w w2 : World} {C base : Nat} {L L2 : List UInt8} {v v' : Value} {n : Nat} (h : Wr w C base L v) (hm : Mod (fun b => v.ownBlock = some b) w w2)
    (own : w2.ownsRow base 5 1 v' n (bcells L2)) (hrow : v'.ownBlock = v.ownBlock ∨ v'.ownBlock = some w.heap.size) (hn : n = L2.length) :
    Wr (w2.setCell ⟨C, 0, none⟩ v') C base L2 v' ∧ WMod C v w v' (w2.setCell ⟨C, 0, none⟩ v') := by
  subst hn
  have hne := h.ne h.blk (by decide)
  have hb := hm.obj h.blk hne
  have hlt := lt_of_block h.blk
  refine ⟨⟨by rw [heap_setCell_row hb]; simp, own_mod own (Mod.setCell (p := ⟨C, 0, none⟩) (Mod.refl (fun b => b = C) w2) (.inr rfl) _) ?_⟩, ⟨Mod.setCell (hm.mono (fun _ h => .inr h)) (.inr (.inl rfl)) _, ?_⟩⟩
  · intro k hk e
    subst e
    rcases hrow with e | e
    · exact hne (by rw [← e]; exact hk)
    · rw [hk] at e; simp at e; omega
  · intro k hk
    rcases hrow with e | e
    · exact .inl (by rw [← e]; exact hk)
    · rw [hk] at e; simp at e; exact .inr (by omega)
/-- The row behind an append, stored into the coder. -/
theorem wr_step {w w2 : World} {C base : Nat} {L L2 : List UInt8} {v : Value} {g n cap : Nat} (h : Wr w C base L v) (hm : Mod (fun b => v.ownBlock = some b) w w2)
    (own : w2.ownsRow base 5 1 (.slice (some ⟨g, 0, none⟩) L2.length cap) L2.length (bcells L2)) (hrow : v.ownBlock = some g ∨ w.heap.size ≤ g) (hn : n = L2.length) :
    Wr (w2.setCell ⟨C, 0, none⟩ (.slice (some ⟨g, 0, none⟩) n cap)) C base L2 (.slice (some ⟨g, 0, none⟩) n cap) ∧ WMod C v w (.slice (some ⟨g, 0, none⟩) n cap) (w2.setCell ⟨C, 0, none⟩ (.slice (some ⟨g, 0, none⟩) n cap)) := by
  subst hn
  have hne := h.ne h.blk (by decide)
  have hb := hm.obj h.blk hne
  have hlt := lt_of_block h.blk
  have hCg : g ≠ C := by
    rcases hrow with e | e
    · intro e'; subst e'; exact hne e
    · omega
  refine ⟨⟨by rw [heap_setCell_row hb]; simp, own_mod own (Mod.setCell (p := ⟨C, 0, none⟩) (Mod.refl (fun b => b = C) w2) (.inr rfl) _) ?_⟩, ⟨Mod.setCell (hm.mono (fun _ h => .inr h)) (.inr (.inl rfl)) _, ?_⟩⟩
  · intro k hk
    obtain rfl : g = k := by simpa [Value.ownBlock] using hk
    exact hCg
  · intro k hk
    obtain rfl : g = k := by simpa [Value.ownBlock] using hk
    exact hrow
theorem u8_shift (n j : Nat) : ((n / 2 ^ (8 * j) : Nat) : Int) % 256 = ((UInt8.ofNat (n / 256 ^ j)).toNat : Int) := by
  have : (2:Nat) ^ (8 * j) = 256 ^ j := by rw [show (256:Nat) = 2 ^ 8 from rfl, ← Nat.pow_mul]
  rw [this]
  simp
theorem num_byte (n j : Nat) (hj : j < 8) : IntKind.u8.wrap ((n:Int) / 2 ^ min (IntKind.u64.wrap (IntKind.i64.wrap (8 * (j:Int)))).toNat 64) = ((UInt8.ofNat (n / 256 ^ j)).toNat : Int) := by
  have h1 : IntKind.i64.wrap (8 * (j:Int)) = 8 * j := by simp [IntKind.wrap, IntKind.bits, IntKind.signed]; omega
  have h2 : IntKind.u64.wrap (8 * (j:Int)) = 8 * j := by simp [IntKind.wrap, IntKind.bits, IntKind.signed]; omega
  rw [h1, h2, show (8 * (j:Int)).toNat = 8 * j by omega, Nat.min_eq_left (by omega), ← u8_shift n j]
  simp [IntKind.wrap, IntKind.bits, IntKind.signed]
set_option maxRecDepth 100000 in
set_option maxHeartbeats 1600000 in
theorem number_wr {w : World} {C base : Nat} {L : List UInt8} {v : Value} (h : Wr w C base L v) (hb : base ≤ w.heap.size) (size n : Nat) (hs : size ≤ 8) (hL : L.length ≤ 90000000) (fn : Nat) (cp sv : Value)
    (hg : Gets (fun b => b = C ∨ v.ownBlock = some b ∨ w.heap.size ≤ b) fn cp n w) :
    Calls Tryz.prog 99 #[.pointer (some ⟨C, 0, none⟩), .int .i64 size, .func (.func fn) #[] #[cp], sv] w fun e w' => e = .returned (.tuple #[]) ∧ ∃ v', Wr w' C base (L ++ be size n) v' ∧ WMod C v w v' w' := by
  have HG := Lib.hid hg.says
  have hen := hg.enters
  have c1 := blk_cell h.blk 1
  have f1 := blk_free h.blk 1
  simp at c1
  have H0 := Lib.hid h
  have HL := Lib.hid hL
  have HB := Lib.hid hb
  clear h hg hL hb
  go_enter Tryz.func99, Tryz.ntmps99
  go_wp2
  go_loopw [8] (fun i wr => ∃ (k : Nat) (L' : List UInt8) (v' : Value), i = .int .i64 ((k : Int) - 1) ∧ k ≤ size ∧ L' ++ be k n = L ++ be size n ∧ Wr wr C base L' v' ∧ WMod C v w v' wr) (fun i _ => ((intOf i) + 1).toNat)
  case atStart => exact ⟨size, L, v, rfl, by omega, rfl, H0.out, .refl _ _ _⟩
  case round =>
    obtain ⟨k, L', v', rfl, hk, hLL, hw, hm⟩ := hrel
    cases k with
    | zero =>
      have HR := Lib.hid (And.intro hLL (And.intro hw hm))
      clear hLL hw hm
      have p1 : ¬ (0 : Int) ≤ 0 - 1 := by omega
      go_wp2
      (first | go_end0 | (simp only [Exit.inBlock, Exit.then]; refine bodyPost_ret (results_none rfl _ _ _) rfl ?_) | refine bodyPost_ret (results_none rfl _ _ _) rfl ?_)
      obtain ⟨h1, h2, h3⟩ := HR.out
      simp only [be, List.append_nil] at h1
      subst h1
      exact ⟨rfl, v', h2, h3⟩
    | succ j =>
      have HR := Lib.hid (And.intro hLL (And.intro hw hm))
      have c0 := blk_cell hw.blk 0
      have f0 := blk_free hw.blk 0
      simp at c0
      clear hLL hw hm
      have p1 : (0 : Int) ≤ j := by omega
      have hu := u8_shift n j
      have hG : ∀ W, Mod No wr W → Calls Tryz.prog fn #[cp] W fun e W' => e = .returned (.int .u64 n) ∧ Mod No W W' := fun W hW => HG.out W ((HR.out.2.2.mod.mono (fun i hi => by rcases hi with h | h; exact .inl h; exact .inr (.inl h))).trans (hW.mono (fun _ f => f.elim)))
      have hne := HR.out.2.1.ne HR.out.2.1.blk (by decide)
      have hold : ∀ w', Mod (fun b => v'.ownBlock = some b) wr w' → w'.frozen? ⟨C, 0, none⟩ = false := fun w' hm => blk_free (hm.obj HR.out.2.1.blk hne) 0
      have hold0 : ∀ w', Mod No wr w' → w'.cell? ⟨C, 0, none⟩ = some v' ∧ C < w'.heap.size := fun w' hm => ⟨hm.cell c0 id, Nat.lt_of_lt_of_le (lt_of_block HR.out.2.1.blk) hm.size⟩
      have hF : ∀ w', Mod No wr w' → Mod (fun b => v'.ownBlock = some b) wr w' := fun w' hm => hm.mono (fun _ f => f.elim)
      have hG2 : ∀ (w1 w2 : World) (o : Obj), Mod No wr w1 → (w1.alloc o).grownBy w2 v'.ownBlock → Mod (fun b => v'.ownBlock = some b) wr w2 := fun w1 w2 o hm hg => Mod.grown ((hF _ hm).alloc o) hg (fun k hk => .inr hk)
      have hown : ∀ w', Mod No wr w' → w'.ownsRow base 5 1 v' L'.length (bcells L') := fun w' hm => own_mod HR.out.2.1.own hm (fun _ _ f => f)
      have hnb := num_byte n j (by omega)
      have hnew : ∀ W : World, ∀ (i : Nat) (u : Value), (bcells [UInt8.ofNat (n / 256 ^ j)])[i]? = some u → (W.alloc (.cells #[.int .u8 (IntKind.u8.wrap ((n:Int) / 2 ^ min (IntKind.u64.wrap (IntKind.i64.wrap (8 * (j:Int)))).toNat 64))] 5)).cell? ((⟨W.heap.size, 0, none⟩ : Addr).add i) = some u := by
        intro W i u hu
        rw [hnb]
        exact World.news_of_block (at10 W _) i u hu
      have hle : L'.length + [UInt8.ofNat (n / 256 ^ j)].length ≤ 100000000 := by
        have h1 := congrArg List.length HR.out.1
        simp only [List.length_append, be_length] at h1
        have := HL.out
        simp
        omega
      have HN := Lib.hid hnew
      have HLE := Lib.hid hle
      clear hnb hnew hle hu
      have HW := Lib.hid hG
      have hold3 : ∀ w', Mod (fun b => v'.ownBlock = some b) wr w' → w'.cell? ⟨C, 0, none⟩ = some v' := fun w' hm => by simpa using blk_cell (hm.obj HR.out.2.1.blk hne) 0
      have HO3 := Lib.hid hold3
      have HO := Lib.hid hold
      have HF := Lib.hid hF
      have HC := Lib.hid hold0
      have HG2 := Lib.hid hG2
      have HB2 := Lib.hid hown
      clear hG hold hown hF hold0 hG2 hold3
      go_wp2_with fail
      go_region_law (first
        | (have gd := hz1; clear gd; refine step_append_bytes (by rfl) _ _ (by rfl) v' L' base (by rfl) (HB2.out _ ?_) _ _ [UInt8.ofNat (n / 256 ^ j)] (by rfl) ?_ ?_ (Nat.zero_lt_succ _) ?_ ?_; (repeat (first | with_reducible exact Mod.refl _ _ | with_reducible exact hz1 | refine Mod.alloc ?_ _ | refine Mod.drew ?_)); (exact HN.out _); (exact HLE.out); (have := hz1.size; have := HB.out; have := HR.out.2.2.mod.size; simp; omega); intro g cap w2 own2 hgrow hrow; have hz2 := HG2.out _ _ _ hz1 hgrow; have f2 := HO.out _ hz2; have b2 := HO3.out _ hz2)
        | (go_simp; guard_target = Calls _ _ _ _ _; refine (HW.out _ ?_).mono ?_; (repeat (first | with_reducible exact Mod.refl _ _ | refine Mod.alloc ?_ _ | refine Mod.drew ?_)); rintro e w1 ⟨rfl, hm1⟩; have hz1 : Mod No wr w1 := Mod.trans (by repeat (first | with_reducible exact Mod.refl _ _ | refine Mod.alloc ?_ _ | refine Mod.drew ?_)) hm1; have hz1' := HF.out _ hz1; obtain ⟨c0', hC1⟩ := HC.out _ hz1; have f1' := HO.out _ hz1'))
      all_goals
        have hst := wr_step (n := L'.length + 1) HR.out.2.1 hz2 own2 (by have := hz1.size; rcases hrow with e | e; exact .inl e; right; first | omega | (simp at e; omega)) (by simp)
        have HS := Lib.hid hst
        clear hst
        go_wp2
        refine ⟨⟨j, L' ++ [UInt8.ofNat (n / 256 ^ j)], _, rfl, by omega, ?_, HS.out.1, HR.out.2.2.trans HS.out.2⟩, by simp [intOf]⟩
        · have := HR.out.1
          simp only [be] at this
          rw [List.append_assoc]
          exact this
end

section
open Go.RowKit
set_option linter.unusedVariables false
/-- A coder that reads. -/
def rdObj (A : Option Addr) (n c at_ : Nat) (sh : Bool) : Obj := .cells #[.slice A n c, .bool true, .int .i64 at_, .bool sh] 102 (0, 0)
/-- What 'take' hands back: bytes; the place, whether they ended too early. -/
def rtake (B : List UInt8) (s : Nat × Bool) (k : Nat) : List UInt8 × (Nat × Bool) :=
  if s.2 = true ∨ B.length - s.1 < k then (List.replicate k 0, (s.1, true)) else ((B.drop s.1).take k, (s.1 + k, false))
theorem rtake_length (B : List UInt8) (s : Nat × Bool) (k : Nat) : (rtake B s k).1.length = k := by
  unfold rtake
  split
  · simp
  · simp; omega
theorem rtake_le (B : List UInt8) (s : Nat × Bool) (k : Nat) (h : s.1 ≤ B.length) : (rtake B s k).2.1 ≤ B.length := by
  unfold rtake
  split
  · exact h
  · simp; omega
theorem own_row_bytes (n c at_ k : Nat) (A : Option Addr) (h1 : at_ + k ≤ n) (h2 : n ≤ c) :
    ∃ A', (∀ W, (Instr.slice 40 (.slice A n c) (some (.int .i64 (at_ : Int))) (some (.int .i64 ((at_ : Int) + k))) none).run Tryz.prog W = .ok (.slice A' k (c - at_)) W) ∧ ∀ (S : Nat → Prop) (w : World) (cs : List Value), RowAt S w A cs → RowAt S w A' ((cs.drop at_).take k) := by
  have hz : ∀ W, (sizeOf 5).run Tryz.prog W = .ok 1 W := fun W => by kernel_rfl
  have he : Tryz.prog.elem 40 = 5 := by kernel_rfl
  have hr := fun W => run_slice_lh (P := Tryz.prog) W 40 A n c (by rw [he]; exact Tryz.underlying40) .i64 .i64 (at_ : Int) ((at_ : Int) + k) (by omega) (by omega) (by omega)
  refine ⟨if c = at_ then A else A.map (·.add at_), fun W => ?_, fun S w cs hrow => ?_⟩
  · rw [hr W, he, hz]
    simp only [Result.andThen, sliced, Int.toNat_natCast, Nat.mul_one]
    rw [show ((at_ : Int) + k).toNat = at_ + k by omega, Nat.add_sub_cancel_left]
  · rcases hrow with h | ⟨b, o, e, hs, hc⟩
    · subst h; simp; exact .nil _ _ _
    · by_cases hc0 : c = at_
      · have : k = 0 := by omega
        subst this
        simp
        exact .nil _ _ _
      · subst e
        refine .inr ⟨b, o + at_, ?_, hs, fun j v hj => ?_⟩
        · rw [if_neg hc0]
          unfold Addr.add
          by_cases h0 : at_ = 0
          · subst h0; rfl
          · simp [h0]
        · rw [Nat.add_assoc]
          refine hc _ v ?_
          have hjk : j < k := by
            have := (List.getElem?_eq_some_iff.1 hj).1
            simp at this
            omega
          rw [List.getElem?_take_of_lt hjk, List.getElem?_drop] at hj
          exact hj
set_option maxRecDepth 100000 in
theorem make_bytes (k : Nat) (hk : k ≤ 100000000) : ∀ W : World, (Instr.makeSlice 40 (.int .i64 k) (.int .i64 k)).run Tryz.prog W = .ok (.slice (some ⟨W.heap.size, 0, none⟩) k k) (W.alloc (.cells (bcells (List.replicate k 0)).toArray 5)) := by
  intro W
  obtain ⟨i0, hi, hz0, hz1, hz2⟩ := info_parts infoU8
  have := run_make (P := Tryz.prog) W 40 5 i0 _ Tryz.underlying40 hi hz0 .i64 .i64 k k (by omega) (by omega) (by rw [hz2]; omega) (by omega)
  rw [this]
  simp only [Int.toNat_natCast]
  congr 3
  rw [hz1]
  apply Array.ext
  · simp [madeCells, bcells]
  · intro i h1 h2
    simp [madeCells, bcells, Value.cells, Nat.mod_one]
theorem row_new (S : Nat → Prop) (W : World) (L : List UInt8) : RowAt (fun b => S b ∨ W.heap.size ≤ b) (W.alloc (.cells (bcells L).toArray 5)) (some ⟨W.heap.size, 0, none⟩) (bcells L) :=
  .inr ⟨_, 0, rfl, .inr (Nat.le_refl _), fun j v hj => by rw [Nat.zero_add, blk_cell (at10 W _) j]; simpa using hj⟩
theorem rd_set2 (A : Option Addr) (n c at_ : Nat) (sh : Bool) {w : World} {C : Nat} (h : w.heap[C]? = some (rdObj A n c at_ sh)) (k : Nat) (x : Int) (hx : x = (k : Int)) : (w.setCell ⟨C, 2, none⟩ (.int .i64 x)).heap[C]? = some (rdObj A n c k sh) := by
  subst hx; rw [rdObj] at h; rw [heap_setCell_row h]; simp [rdObj]
theorem rd_set3 (A : Option Addr) (n c at_ : Nat) (sh : Bool) {w : World} {C : Nat} (h : w.heap[C]? = some (rdObj A n c at_ sh)) (b : Bool) : (w.setCell ⟨C, 3, none⟩ (.bool b)).heap[C]? = some (rdObj A n c at_ b) := by
  rw [rdObj] at h; rw [heap_setCell_row h]; simp [rdObj]
theorem rtake_short {B : List UInt8} {s : Nat × Bool} {k : Nat} (h : s.2 = true ∨ B.length - s.1 < k) : rtake B s k = (List.replicate k 0, (s.1, true)) := if_pos h
theorem rtake_full {B : List UInt8} {s : Nat × Bool} {k : Nat} (h : ¬ (s.2 = true ∨ B.length - s.1 < k)) : rtake B s k = ((B.drop s.1).take k, (s.1 + k, false)) := if_neg h
set_option maxRecDepth 100000 in
theorem take_ok {S : Nat → Prop} {w : World} {C : Nat} {A : Option Addr} {c at_ : Nat} {sh : Bool} (B : List UInt8) (hb : w.heap[C]? = some (rdObj A B.length c at_ sh)) (hrow : RowAt S w A (bcells B)) (hat : at_ ≤ B.length) (hc : B.length ≤ c) (hB : B.length ≤ 100000000) (k : Nat) (hk : k ≤ 100000000) (hS : ¬ S C) :
    Calls Tryz.prog 102 #[.pointer (some ⟨C, 0, none⟩), .int .i64 k] w fun e w' => ∃ A' c', e = .returned (.slice A' k c') ∧ k ≤ c' ∧ RowAt (fun b => S b ∨ w.heap.size ≤ b) w' A' (bcells (rtake B (at_, sh) k).1) ∧
      w'.heap[C]? = some (rdObj A B.length c (rtake B (at_, sh) k).2.1 (rtake B (at_, sh) k).2.2) ∧ Mod (fun b => b = C) w w' := by
  obtain ⟨n, hn⟩ : ∃ n, n = B.length := ⟨_, rfl⟩
  rw [← hn] at hb hat hc hB
  rw [← hn]
  have hlt := lt_of_block hb
  have c0 := blk_cell hb 0
  have c2 := blk_cell hb 2
  have c3 := blk_cell hb 3
  have f2 := blk_free hb 2
  have f3 := blk_free hb 3
  simp at c0 c2 c3
  have HB := Lib.hid hb
  have HR := Lib.hid hrow
  have HN := Lib.hid hn
  have HAT := Lib.hid hat
  have hmk := make_bytes k hk
  have HS := Lib.hid hS
  have HSH := Lib.hid (rtake_short (B := B) (s := (at_, sh)) (k := k))
  have HFU := Lib.hid (rtake_full (B := B) (s := (at_, sh)) (k := k))
  clear hb hrow hn hS
  by_cases hsh : sh = true
  · have HE := Lib.hid (HSH.out (.inl hsh))
    subst hsh
    go_enter Tryz.func102, Tryz.ntmps102
    go_wp2
    go_quiet (fail)
    go_wp2
    go_ret
    rw [HE.out]
    refine ⟨_, _, rfl, Nat.le_refl _, ?_, ?_, ?_⟩
    · have := row_new S ((w.drewN nq).setCell ⟨C, 3, none⟩ (.bool true)) (List.replicate k 0)
      simpa using this
    · exact (Below.heap_alloc _ _ _ (by simpa using hlt)).trans (rd_set3 A n c at_ true (w := w.drewN nq) HB.out true)
    · repeat (first | with_reducible exact Mod.refl _ _ | refine Mod.alloc ?_ _ | refine Mod.drewN ?_ _ | refine Mod.setCell ?_ (.inr (by rfl)) _)
  · have hshf : sh = false := by simpa using hsh
    subst hshf
    by_cases hlen : n - at_ < k
    · have HE := Lib.hid (HSH.out (.inr (by rw [← HN.out]; exact hlen)))
      have p1 : (n : Int) - at_ < k := by omega
      have p2 : decide ((n : Int) - at_ < k) = true := by simpa using p1
      clear hlen hsh
      go_enter Tryz.func102, Tryz.ntmps102
      go_wp2
      go_quiet (fail)
      go_wp2
      go_ret
      rw [HE.out]
      refine ⟨_, _, rfl, Nat.le_refl _, ?_, ?_, ?_⟩
      · have := row_new S ((w.drewN nq).setCell ⟨C, 3, none⟩ (.bool true)) (List.replicate k 0)
        simpa using this
      · exact (Below.heap_alloc _ _ _ (by simpa using hlt)).trans (rd_set3 A n c at_ false (w := w.drewN nq) HB.out true)
      · repeat (first | with_reducible exact Mod.refl _ _ | refine Mod.alloc ?_ _ | refine Mod.drewN ?_ _ | refine Mod.setCell ?_ (.inr (by rfl)) _)
    · have HE := Lib.hid (HFU.out (by rw [← HN.out]; simp; omega))
      have p1 : ¬ ((n : Int) - at_ < k) := by omega
      have p2 : decide ((n : Int) - at_ < k) = false := by simpa using p1
      have p3 : (at_ : Int) + k ≤ n := by omega
      have p4 : (at_ : Int) + k - k = at_ := by omega
      obtain ⟨A', hsl, hA'⟩ := own_row_bytes n c at_ k A (by omega) hc
      have HA := Lib.hid hA'
      clear hlen hsh hA'
      go_enter Tryz.func102, Tryz.ntmps102
      go_wp2
      go_quiet (fail)
      go_wp2
      obtain ⟨q1, hq1⟩ : ∃ q1, q1 = nq := ⟨_, rfl⟩
      rw [← hq1]
      clear hq1
      clear nq
      go_quiet (fail)
      go_wp2
      go_ret
      rw [HE.out]
      have hm : Mod (fun b => b = C) w (((w.drewN q1).setCell ⟨C, 2, none⟩ (.int .i64 ((at_ : Int) + k))).drewN nq) := by
        repeat (first | with_reducible exact Mod.refl _ _ | refine Mod.alloc ?_ _ | refine Mod.drewN ?_ _ | refine Mod.setCell ?_ (.inr (by rfl)) _)
      refine ⟨A', _, rfl, by have := HAT.out; omega, ?_, ?_, hm⟩
      · have h1 := HA.out S _ _ (HR.out.keeps (hm.keeps (fun b _ hb e => HS.out (by subst e; exact hb))))
        have e : bcells ((B.drop at_).take k) = ((bcells B).drop at_).take k := by simp [bcells]
        rw [e]
        exact h1.mono (fun _ _ h => .inl h)
      · exact rd_set2 A n c at_ false (w := w.drewN q1) HB.out (at_ + k) _ (by omega)
/-! ### a number read -/
/-- The number that bytes are, the highest first. -/
def beval (l : List UInt8) : Nat := l.foldl (fun n x => n * 256 + x.toNat) 0
theorem beval_snoc (l : List UInt8) (x : UInt8) : beval (l ++ [x]) = beval l * 256 + x.toNat := by simp [beval]
theorem foldl_lt : ∀ (l : List UInt8) (n : Nat), l.foldl (fun n x => n * 256 + x.toNat) n < (n + 1) * 256 ^ l.length
  | [], n => by simp
  | x :: l, n => by
    rw [List.foldl_cons, List.length_cons, Nat.pow_succ]
    refine Nat.lt_of_lt_of_le (foldl_lt l _) ?_
    have hx := x.toNat_lt
    rw [Nat.mul_comm (256 ^ l.length) 256, ← Nat.mul_assoc]
    exact Nat.mul_le_mul_right _ (by omega)
theorem beval_lt (l : List UInt8) : beval l < 256 ^ l.length := by simpa [beval] using foldl_lt l 0
theorem or_low (n x : Nat) (hn : n < 2 ^ 56) (hx : x < 256) : bits .or .u64 ((n : Int) * 256) (x : Int) = (n : Int) * 256 + x := by
  have h1 : (BitVec.ofInt 64 ((n : Int) * 256)) = BitVec.ofNat 64 (n <<< 8) := by
    have e : ((n : Int) * (256 : Int)) = ((n <<< 8 : Nat) : Int) := by rw [Nat.shiftLeft_eq]; omega
    rw [e]
    exact BitVec.ofInt_natCast ..
  have h2 : (BitVec.ofInt 64 (x : Int)) = BitVec.ofNat 64 x := BitVec.ofInt_natCast ..
  have h3 : n <<< 8 ||| x = n * 256 + x := by rw [← Nat.shiftLeft_add_eq_or_of_lt (by simpa using hx), Nat.shiftLeft_eq]
  have h4 : (BitVec.ofNat 64 (n <<< 8) ||| BitVec.ofNat 64 x).toNat = n * 256 + x := by
    rw [BitVec.toNat_or, BitVec.toNat_ofNat, BitVec.toNat_ofNat, Nat.mod_eq_of_lt (by rw [Nat.shiftLeft_eq]; omega), Nat.mod_eq_of_lt (by omega), h3]
  have h5 : bits .or .u64 ((n : Int) * 256) (x : Int) = IntKind.u64.wrap ((BitVec.ofInt 64 ((n : Int) * 256) ||| BitVec.ofInt 64 (x : Int)).toNat) := rfl
  rw [h5, h1, h2, h4]
  simp [IntKind.wrap, IntKind.bits, IntKind.signed]
  omega
set_option maxRecDepth 100000 in
theorem number_rd {S : Nat → Prop} {w : World} {C : Nat} {A : Option Addr} {c at_ : Nat} {sh : Bool} (B : List UInt8) (hb : w.heap[C]? = some (rdObj A B.length c at_ sh)) (hrow : RowAt S w A (bcells B)) (hat : at_ ≤ B.length) (hc : B.length ≤ c) (hB : B.length ≤ 100000000) (size : Nat) (hk : size ≤ 7) (hS : ¬ S C)
    (gv : Value) (fn : Nat) (cp : Value) (hen : ∀ (a : Array Value) (W : World), (callFunc fn a).run Tryz.prog W = .ok (.enter fn a) W) (R : World → Prop)
    (hset : ∀ w1, w1.heap[C]? = some (rdObj A B.length c (rtake B (at_, sh) size).2.1 (rtake B (at_, sh) size).2.2) → Mod (fun b => b = C) w w1 → Calls Tryz.prog fn #[.int .u64 (beval (rtake B (at_, sh) size).1), cp] w1 fun e w' => e = .returned (.tuple #[]) ∧ R w') :
    Calls Tryz.prog 99 #[.pointer (some ⟨C, 0, none⟩), .int .i64 size, gv, .func (.func fn) #[] #[cp]] w fun e w' => e = .returned (.tuple #[]) ∧ R w' := by
  have HT := Lib.hid (take_ok B hb hrow hat hc hB size (by omega) hS)
  have hxl := rtake_length B (at_, sh) size
  obtain ⟨xs, hxs⟩ : ∃ xs, xs = (rtake B (at_, sh) size).1 := ⟨_, rfl⟩
  obtain ⟨st, hst⟩ : ∃ st, st = (rtake B (at_, sh) size).2 := ⟨_, rfl⟩
  rw [← hxs] at hset hxl
  rw [← hst] at hset
  rw [← hxs, ← hst] at HT
  have HSET := Lib.hid hset
  have HXL := Lib.hid hxl
  have c1 := blk_cell hb 1
  simp at c1
  clear hset hxl hb hrow hS hxs hst
  go_enter Tryz.func99, Tryz.ntmps99
  go_wp2_with (first | (go_at_call 102; refine HT.out.mono ?_; rintro e w1 ⟨A', c', rfl, hcc, hr1, hb1, hm1⟩; have HR1 := Lib.hid (And.intro hr1 (And.intro hb1 hm1)); clear hr1 hb1 hm1) | fail)
  go_loopw [43, 9] (fun i v wr => ∃ (k m : Nat), i = .int .i64 k ∧ v = .int .u64 m ∧ k ≤ size ∧ m = beval (xs.take k) ∧ wr = w1) (fun i _ _ => size - (intOf i).toNat)
  case atStart => exact ⟨0, 0, rfl, rfl, by omega, by simp [beval], rfl⟩
  case round =>
    obtain ⟨k, m, rfl, rfl, hk1, hm, rfl⟩ := hrel
    have HM := Lib.hid hm
    clear hm
    by_cases hlt : k < size
    · obtain ⟨x, hx⟩ : ∃ x, xs[k]? = some x := ⟨_, List.getElem?_eq_getElem (by have := HXL.out; omega)⟩
      have hxc : (bcells xs)[k]? = some (.int .u8 (x.toNat : Int)) := by simp [bcells, hx]
      obtain ⟨b, o, rfl, _, _, hcell⟩ := HR1.out.1.open (by intro e; rw [e] at hxc; simp at hxc)
      have hc0 := hcell k _ hxc
      have hml : m < 256 ^ k := by
        have := beval_lt (xs.take k)
        rw [← HM.out, List.length_take, Nat.min_eq_left (by have := HXL.out; omega)] at this
        exact this
      have hm6 : m < 2 ^ 48 := Nat.lt_of_lt_of_le hml (by rw [show (2:Nat) ^ 48 = 256 ^ 6 from rfl]; exact Nat.pow_le_pow_right (by omega) (by omega))
      have hx8 := x.toNat_lt
      have e1 : IntKind.u64.wrap ((m : Int) * 256) = (m : Int) * 256 := by simp [IntKind.wrap, IntKind.bits, IntKind.signed]; omega
      have e2 : IntKind.u64.wrap (x.toNat : Int) = (x.toNat : Int) := by simp [IntKind.wrap, IntKind.bits, IntKind.signed]; omega
      have e3 := or_low m x.toNat (by omega) hx8
      have HX := Lib.hid hx
      have p1 : (0:Int) ≤ k := by omega
      have p2 : (k:Int) < size := by omega
      clear hx hxc hcell hml hm6 hx8
      go_wp2
      refine ⟨⟨k + 1, m * 256 + x.toNat, by go_num, by simp, by omega, ?_, by simp⟩, by simp [intOf]; omega⟩
      obtain ⟨hlx, ex⟩ := List.getElem?_eq_some_iff.1 HX.out
      rw [List.take_succ_eq_append_getElem hlx, ex, beval_snoc, ← HM.out]
    · have hk' : k = size := by omega
      subst hk'
      have hmx : m = beval xs := by rw [HM.out, List.take_of_length_le (by rw [HXL.out]; exact Nat.le_refl _)]
      have HF := Lib.hid (HSET.out _ HR1.out.2.1 HR1.out.2.2)
      rw [← hmx] at HF
      clear hmx
      go_wp2_with fail
      refine HF.out.mono ?_
      rintro e w2 ⟨rfl, hR⟩
      go_wp2
      go_end0
      exact ⟨rfl, hR⟩
end

section
open Go.RowKit
set_option linter.unusedVariables false
theorem heap_setCell_ne {w : World} {b : Nat} (p : Addr) (v : Value) (h : b ≠ p.block) : (w.setCell p v).heap[b]? = w.heap[b]? := Below.heap_setCell _ _ _ _ h
/-! ### u32 -/
theorem get_u32 {F : Nat → Prop} {w : World} {bx T o : Nat} {n : Nat} {z : Int} (hbx : w.heap[bx]? = some (.cells #[.pointer (some ⟨T, o, none⟩)] 117 (0, 0))) (hT : w.cell? ⟨T, o, none⟩ = some (.int .u32 z)) (hz : IntKind.u64.wrap z = n) (h1 : ¬ F bx) (h2 : ¬ F T) :
    Gets F 100 (.pointer (some ⟨bx, 0, none⟩)) n w := by
  refine ⟨fun a W => by go_simp, fun W hm => ?_⟩
  have c1 := blk_cell (hm.obj hbx h1) 0
  have c2 := hm.cell hT h2
  simp at c1
  clear hbx hT hm
  go_enter Tryz.func100, Tryz.ntmps100
  go_wp2
  go_ret
  exact ⟨by simp, Mod.refl _ _⟩
theorem set_u32 {w : World} {bx T o : Nat} {cs : Array Value} {t : TypeId} {n : Nat} (hbx : w.heap[bx]? = some (.cells #[.pointer (some ⟨T, o, none⟩)] 117 (0, 0))) (hT : w.heap[T]? = some (.cells cs t (0, 0))) (ho : o < cs.size) (hn : n < 4294967296) :
    Calls Tryz.prog 101 #[.int .u64 n, .pointer (some ⟨bx, 0, none⟩)] w fun e w' => e = .returned (.tuple #[]) ∧ w' = w.setCell ⟨T, o, none⟩ (.int .u32 n) := by
  have c1 := blk_cell hbx 0
  have c2 := blk_cell hT o
  have f2 := blk_free hT o
  rw [Array.getElem?_eq_getElem ho] at c2
  simp at c1
  have hw : IntKind.u32.wrap (n : Int) = n := by simp [IntKind.wrap, IntKind.bits, IntKind.signed]; omega
  clear hbx hT
  go_enter Tryz.func101, Tryz.ntmps101
  go_wp2
  go_end0
  exact ⟨rfl, rfl⟩
theorem num_u32_wr {w : World} {C base : Nat} {L : List UInt8} {v : Value} (h : Wr w C base L v) (hb : base ≤ w.heap.size) (size n : Nat) (hs : size ≤ 8) (hL : L.length ≤ 90000000) {T o : Nat} {z : Int} (hT : w.cell? ⟨T, o, none⟩ = some (.int .u32 z)) (hz : IntKind.u64.wrap z = n) (h1 : T ≠ C) (h2 : v.ownBlock ≠ some T) :
    Calls Tryz.prog 63 #[.pointer (some ⟨C, 0, none⟩), .int .i64 size, .pointer (some ⟨T, o, none⟩)] w fun e w' => e = .returned (.tuple #[]) ∧ ∃ v', Wr w' C base (L ++ be size n) v' ∧ WMod C v w v' w' := by
  have hlt := lt_of_block h.blk
  have hTl : T < w.heap.size := World.block_lt_of_cell? _ _ hT
  have hm : Mod No w (w.alloc (.cells #[.pointer (some ⟨T, o, none⟩)] 117)) := (Mod.refl _ _).alloc _
  have hw : Wr (w.alloc (.cells #[.pointer (some ⟨T, o, none⟩)] 117)) C base L v := ⟨hm.obj h.blk id, own_mod h.own hm (fun _ _ f => f)⟩
  have H := Lib.hid (number_wr hw (by simp; omega) size n hs hL 100 (.pointer (some ⟨w.heap.size, 0, none⟩)) (.func (.func 101) #[] #[.pointer (some ⟨w.heap.size, 0, none⟩)])
    (get_u32 (T := T) (o := o) (at10 w _) (hm.cell hT id) hz (by intro f; rcases f with f | f | f; omega; have := (h.lt f).2; omega; simp at f; omega) (by intro f; rcases f with f | f | f; exact h1 f; exact h2 f; simp at f; omega)))
  have HM := Lib.hid hm
  clear h hm hw hT
  go_enter Tryz.func63, Tryz.ntmps63
  go_wp2_with (first | (go_at_call 99; refine H.out.mono ?_; rintro e w1 ⟨rfl, v', hw1, hm1⟩; have HW := Lib.hid (And.intro hw1 hm1); clear hw1 hm1) | fail)
  go_end0
  obtain ⟨hw1, hm1⟩ := HW.out
  exact ⟨rfl, v', hw1, ⟨(HM.out.mono (fun _ f => f.elim)).trans hm1.mod, fun g hg => by
    rcases hm1.row g hg with h | h
    · exact .inl h
    · right; simp at h; omega⟩⟩
theorem num_u32_rd {S : Nat → Prop} {w : World} {C : Nat} {A : Option Addr} {c at_ : Nat} {sh : Bool} (B : List UInt8) (hb : w.heap[C]? = some (rdObj A B.length c at_ sh)) (hrow : RowAt S w A (bcells B)) (hat : at_ ≤ B.length) (hc : B.length ≤ c) (hB : B.length ≤ 100000000) (size : Nat) (hk : size ≤ 4) (hS : ¬ S C)
    {T o : Nat} {cs : Array Value} {t : TypeId} (hT : w.heap[T]? = some (.cells cs t (0, 0))) (ho : o < cs.size) (h1 : T ≠ C) :
    Calls Tryz.prog 63 #[.pointer (some ⟨C, 0, none⟩), .int .i64 size, .pointer (some ⟨T, o, none⟩)] w fun e w' => e = .returned (.tuple #[]) ∧ w'.heap[C]? = some (rdObj A B.length c (rtake B (at_, sh) size).2.1 (rtake B (at_, sh) size).2.2) ∧
      w'.heap[T]? = some (.cells (cs.setIfInBounds o (.int .u32 (beval (rtake B (at_, sh) size).1))) t (0, 0)) ∧ Mod (fun b => b = C ∨ b = T) w w' := by
  have hlt := lt_of_block hb
  have hTl := lt_of_block hT
  have hm : Mod No w (w.alloc (.cells #[.pointer (some ⟨T, o, none⟩)] 117)) := (Mod.refl _ _).alloc _
  have hnl : beval (rtake B (at_, sh) size).1 < 4294967296 := by
    have h1 := beval_lt (rtake B (at_, sh) size).1
    rw [rtake_length] at h1
    exact Nat.lt_of_lt_of_le h1 (by rw [show (4294967296 : Nat) = 256 ^ 4 * 1 from by decide]; exact Nat.le_trans (Nat.pow_le_pow_right (by omega) hk) (Nat.le_mul_of_pos_right _ (by decide)))
  have H := Lib.hid (number_rd B (hm.obj hb id) (S := fun b => S b ∧ b < w.heap.size) ((hrow.mono (fun b hb hs => ⟨hs, hb⟩)).keeps (hm.keeps (fun _ _ _ f => f))) hat hc hB size (by omega) (fun f => hS f.1) (.func (.func 100) #[] #[.pointer (some ⟨w.heap.size, 0, none⟩)]) 101 (.pointer (some ⟨w.heap.size, 0, none⟩)) (fun a W => by go_simp)
    (fun w' => w'.heap[C]? = some (rdObj A B.length c (rtake B (at_, sh) size).2.1 (rtake B (at_, sh) size).2.2) ∧ w'.heap[T]? = some (.cells (cs.setIfInBounds o (.int .u32 (beval (rtake B (at_, sh) size).1))) t (0, 0)) ∧ Mod (fun b => b = C ∨ b = T) w w')
    (fun w1 hC hm1 => (set_u32 (hm1.obj (at10 w _) (by omega)) (hm1.obj (hm.obj hT id) h1) ho hnl).mono (fun e w2 ⟨h2, h3⟩ => by
      subst h3
      refine ⟨h2, ?_, heap_setCell_row (hm1.obj (hm.obj hT id) h1) _, ?_⟩
      · rw [heap_setCell_ne _ _ (by simpa using fun e => h1 e.symm)]; exact hC
      · exact Mod.setCell ((hm.mono (fun _ f => f.elim)).trans (hm1.mono (fun _ h => .inl h))) (.inr (.inr rfl)) _)))
  clear hb hrow hT hm hnl
  go_enter Tryz.func63, Tryz.ntmps63
  go_wp2_with (first | (go_at_call 99; refine H.out.mono ?_; rintro e w1 ⟨rfl, hr⟩; have HW := Lib.hid hr; clear hr) | fail)
  go_end0
  exact ⟨rfl, HW.out⟩
/-! ### u16 -/
theorem get_u16 {F : Nat → Prop} {w : World} {bx T o : Nat} {n : Nat} {z : Int} (hbx : w.heap[bx]? = some (.cells #[.pointer (some ⟨T, o, none⟩)] 123 (0, 0))) (hT : w.cell? ⟨T, o, none⟩ = some (.int .u16 z)) (hz : IntKind.u64.wrap z = n) (h1 : ¬ F bx) (h2 : ¬ F T) :
    Gets F 103 (.pointer (some ⟨bx, 0, none⟩)) n w := by
  refine ⟨fun a W => by go_simp, fun W hm => ?_⟩
  have c1 := blk_cell (hm.obj hbx h1) 0
  have c2 := hm.cell hT h2
  simp at c1
  clear hbx hT hm
  go_enter Tryz.func103, Tryz.ntmps103
  go_wp2
  go_ret
  exact ⟨by simp, Mod.refl _ _⟩
theorem set_u16 {w : World} {bx T o : Nat} {cs : Array Value} {t : TypeId} {n : Nat} (hbx : w.heap[bx]? = some (.cells #[.pointer (some ⟨T, o, none⟩)] 123 (0, 0))) (hT : w.heap[T]? = some (.cells cs t (0, 0))) (ho : o < cs.size) (hn : n < 65536) :
    Calls Tryz.prog 104 #[.int .u64 n, .pointer (some ⟨bx, 0, none⟩)] w fun e w' => e = .returned (.tuple #[]) ∧ w' = w.setCell ⟨T, o, none⟩ (.int .u16 n) := by
  have c1 := blk_cell hbx 0
  have c2 := blk_cell hT o
  have f2 := blk_free hT o
  rw [Array.getElem?_eq_getElem ho] at c2
  simp at c1
  have hw : IntKind.u16.wrap (n : Int) = n := by simp [IntKind.wrap, IntKind.bits, IntKind.signed]; omega
  clear hbx hT
  go_enter Tryz.func104, Tryz.ntmps104
  go_wp2
  go_end0
  exact ⟨rfl, rfl⟩
theorem num_u16_wr {w : World} {C base : Nat} {L : List UInt8} {v : Value} (h : Wr w C base L v) (hb : base ≤ w.heap.size) (size n : Nat) (hs : size ≤ 8) (hL : L.length ≤ 90000000) {T o : Nat} {z : Int} (hT : w.cell? ⟨T, o, none⟩ = some (.int .u16 z)) (hz : IntKind.u64.wrap z = n) (h1 : T ≠ C) (h2 : v.ownBlock ≠ some T) :
    Calls Tryz.prog 72 #[.pointer (some ⟨C, 0, none⟩), .int .i64 size, .pointer (some ⟨T, o, none⟩)] w fun e w' => e = .returned (.tuple #[]) ∧ ∃ v', Wr w' C base (L ++ be size n) v' ∧ WMod C v w v' w' := by
  have hlt := lt_of_block h.blk
  have hTl : T < w.heap.size := World.block_lt_of_cell? _ _ hT
  have hm : Mod No w (w.alloc (.cells #[.pointer (some ⟨T, o, none⟩)] 123)) := (Mod.refl _ _).alloc _
  have hw : Wr (w.alloc (.cells #[.pointer (some ⟨T, o, none⟩)] 123)) C base L v := ⟨hm.obj h.blk id, own_mod h.own hm (fun _ _ f => f)⟩
  have H := Lib.hid (number_wr hw (by simp; omega) size n hs hL 103 (.pointer (some ⟨w.heap.size, 0, none⟩)) (.func (.func 104) #[] #[.pointer (some ⟨w.heap.size, 0, none⟩)])
    (get_u16 (T := T) (o := o) (at10 w _) (hm.cell hT id) hz (by intro f; rcases f with f | f | f; omega; have := (h.lt f).2; omega; simp at f; omega) (by intro f; rcases f with f | f | f; exact h1 f; exact h2 f; simp at f; omega)))
  have HM := Lib.hid hm
  clear h hm hw hT
  go_enter Tryz.func72, Tryz.ntmps72
  go_wp2_with (first | (go_at_call 99; refine H.out.mono ?_; rintro e w1 ⟨rfl, v', hw1, hm1⟩; have HW := Lib.hid (And.intro hw1 hm1); clear hw1 hm1) | fail)
  go_end0
  obtain ⟨hw1, hm1⟩ := HW.out
  exact ⟨rfl, v', hw1, ⟨(HM.out.mono (fun _ f => f.elim)).trans hm1.mod, fun g hg => by
    rcases hm1.row g hg with h | h
    · exact .inl h
    · right; simp at h; omega⟩⟩
theorem num_u16_rd {S : Nat → Prop} {w : World} {C : Nat} {A : Option Addr} {c at_ : Nat} {sh : Bool} (B : List UInt8) (hb : w.heap[C]? = some (rdObj A B.length c at_ sh)) (hrow : RowAt S w A (bcells B)) (hat : at_ ≤ B.length) (hc : B.length ≤ c) (hB : B.length ≤ 100000000) (size : Nat) (hk : size ≤ 2) (hS : ¬ S C)
    {T o : Nat} {cs : Array Value} {t : TypeId} (hT : w.heap[T]? = some (.cells cs t (0, 0))) (ho : o < cs.size) (h1 : T ≠ C) :
    Calls Tryz.prog 72 #[.pointer (some ⟨C, 0, none⟩), .int .i64 size, .pointer (some ⟨T, o, none⟩)] w fun e w' => e = .returned (.tuple #[]) ∧ w'.heap[C]? = some (rdObj A B.length c (rtake B (at_, sh) size).2.1 (rtake B (at_, sh) size).2.2) ∧
      w'.heap[T]? = some (.cells (cs.setIfInBounds o (.int .u16 (beval (rtake B (at_, sh) size).1))) t (0, 0)) ∧ Mod (fun b => b = C ∨ b = T) w w' := by
  have hlt := lt_of_block hb
  have hTl := lt_of_block hT
  have hm : Mod No w (w.alloc (.cells #[.pointer (some ⟨T, o, none⟩)] 123)) := (Mod.refl _ _).alloc _
  have hnl : beval (rtake B (at_, sh) size).1 < 65536 := by
    have h1 := beval_lt (rtake B (at_, sh) size).1
    rw [rtake_length] at h1
    exact Nat.lt_of_lt_of_le h1 (by rw [show (65536 : Nat) = 256 ^ 2 * 1 from by decide]; exact Nat.le_trans (Nat.pow_le_pow_right (by omega) hk) (Nat.le_mul_of_pos_right _ (by decide)))
  have H := Lib.hid (number_rd B (hm.obj hb id) (S := fun b => S b ∧ b < w.heap.size) ((hrow.mono (fun b hb hs => ⟨hs, hb⟩)).keeps (hm.keeps (fun _ _ _ f => f))) hat hc hB size (by omega) (fun f => hS f.1) (.func (.func 103) #[] #[.pointer (some ⟨w.heap.size, 0, none⟩)]) 104 (.pointer (some ⟨w.heap.size, 0, none⟩)) (fun a W => by go_simp)
    (fun w' => w'.heap[C]? = some (rdObj A B.length c (rtake B (at_, sh) size).2.1 (rtake B (at_, sh) size).2.2) ∧ w'.heap[T]? = some (.cells (cs.setIfInBounds o (.int .u16 (beval (rtake B (at_, sh) size).1))) t (0, 0)) ∧ Mod (fun b => b = C ∨ b = T) w w')
    (fun w1 hC hm1 => (set_u16 (hm1.obj (at10 w _) (by omega)) (hm1.obj (hm.obj hT id) h1) ho hnl).mono (fun e w2 ⟨h2, h3⟩ => by
      subst h3
      refine ⟨h2, ?_, heap_setCell_row (hm1.obj (hm.obj hT id) h1) _, ?_⟩
      · rw [heap_setCell_ne _ _ (by simpa using fun e => h1 e.symm)]; exact hC
      · exact Mod.setCell ((hm.mono (fun _ f => f.elim)).trans (hm1.mono (fun _ h => .inl h))) (.inr (.inr rfl)) _)))
  clear hb hrow hT hm hnl
  go_enter Tryz.func72, Tryz.ntmps72
  go_wp2_with (first | (go_at_call 99; refine H.out.mono ?_; rintro e w1 ⟨rfl, hr⟩; have HW := Lib.hid hr; clear hr) | fail)
  go_end0
  exact ⟨rfl, HW.out⟩
/-! ### i64 -/
theorem get_i64 {F : Nat → Prop} {w : World} {bx T o : Nat} {n : Nat} {z : Int} (hbx : w.heap[bx]? = some (.cells #[.pointer (some ⟨T, o, none⟩)] 125 (0, 0))) (hT : w.cell? ⟨T, o, none⟩ = some (.int .i64 z)) (hz : IntKind.u64.wrap z = n) (h1 : ¬ F bx) (h2 : ¬ F T) :
    Gets F 105 (.pointer (some ⟨bx, 0, none⟩)) n w := by
  refine ⟨fun a W => by go_simp, fun W hm => ?_⟩
  have c1 := blk_cell (hm.obj hbx h1) 0
  have c2 := hm.cell hT h2
  simp at c1
  clear hbx hT hm
  go_enter Tryz.func105, Tryz.ntmps105
  go_wp2
  go_ret
  exact ⟨by simp, Mod.refl _ _⟩
theorem set_i64 {w : World} {bx T o : Nat} {cs : Array Value} {t : TypeId} {n : Nat} (hbx : w.heap[bx]? = some (.cells #[.pointer (some ⟨T, o, none⟩)] 125 (0, 0))) (hT : w.heap[T]? = some (.cells cs t (0, 0))) (ho : o < cs.size) (hn : n < 9223372036854775808) :
    Calls Tryz.prog 106 #[.int .u64 n, .pointer (some ⟨bx, 0, none⟩)] w fun e w' => e = .returned (.tuple #[]) ∧ w' = w.setCell ⟨T, o, none⟩ (.int .i64 n) := by
  have c1 := blk_cell hbx 0
  have c2 := blk_cell hT o
  have f2 := blk_free hT o
  rw [Array.getElem?_eq_getElem ho] at c2
  simp at c1
  have hw : IntKind.i64.wrap (n : Int) = n := by simp [IntKind.wrap, IntKind.bits, IntKind.signed]; omega
  clear hbx hT
  go_enter Tryz.func106, Tryz.ntmps106
  go_wp2
  go_end0
  exact ⟨rfl, rfl⟩
theorem num_i64_wr {w : World} {C base : Nat} {L : List UInt8} {v : Value} (h : Wr w C base L v) (hb : base ≤ w.heap.size) (size n : Nat) (hs : size ≤ 8) (hL : L.length ≤ 90000000) {T o : Nat} {z : Int} (hT : w.cell? ⟨T, o, none⟩ = some (.int .i64 z)) (hz : IntKind.u64.wrap z = n) (h1 : T ≠ C) (h2 : v.ownBlock ≠ some T) :
    Calls Tryz.prog 75 #[.pointer (some ⟨C, 0, none⟩), .int .i64 size, .pointer (some ⟨T, o, none⟩)] w fun e w' => e = .returned (.tuple #[]) ∧ ∃ v', Wr w' C base (L ++ be size n) v' ∧ WMod C v w v' w' := by
  have hlt := lt_of_block h.blk
  have hTl : T < w.heap.size := World.block_lt_of_cell? _ _ hT
  have hm : Mod No w (w.alloc (.cells #[.pointer (some ⟨T, o, none⟩)] 125)) := (Mod.refl _ _).alloc _
  have hw : Wr (w.alloc (.cells #[.pointer (some ⟨T, o, none⟩)] 125)) C base L v := ⟨hm.obj h.blk id, own_mod h.own hm (fun _ _ f => f)⟩
  have H := Lib.hid (number_wr hw (by simp; omega) size n hs hL 105 (.pointer (some ⟨w.heap.size, 0, none⟩)) (.func (.func 106) #[] #[.pointer (some ⟨w.heap.size, 0, none⟩)])
    (get_i64 (T := T) (o := o) (at10 w _) (hm.cell hT id) hz (by intro f; rcases f with f | f | f; omega; have := (h.lt f).2; omega; simp at f; omega) (by intro f; rcases f with f | f | f; exact h1 f; exact h2 f; simp at f; omega)))
  have HM := Lib.hid hm
  clear h hm hw hT
  go_enter Tryz.func75, Tryz.ntmps75
  go_wp2_with (first | (go_at_call 99; refine H.out.mono ?_; rintro e w1 ⟨rfl, v', hw1, hm1⟩; have HW := Lib.hid (And.intro hw1 hm1); clear hw1 hm1) | fail)
  go_end0
  obtain ⟨hw1, hm1⟩ := HW.out
  exact ⟨rfl, v', hw1, ⟨(HM.out.mono (fun _ f => f.elim)).trans hm1.mod, fun g hg => by
    rcases hm1.row g hg with h | h
    · exact .inl h
    · right; simp at h; omega⟩⟩
theorem num_i64_rd {S : Nat → Prop} {w : World} {C : Nat} {A : Option Addr} {c at_ : Nat} {sh : Bool} (B : List UInt8) (hb : w.heap[C]? = some (rdObj A B.length c at_ sh)) (hrow : RowAt S w A (bcells B)) (hat : at_ ≤ B.length) (hc : B.length ≤ c) (hB : B.length ≤ 100000000) (size : Nat) (hk : size ≤ 7) (hS : ¬ S C)
    {T o : Nat} {cs : Array Value} {t : TypeId} (hT : w.heap[T]? = some (.cells cs t (0, 0))) (ho : o < cs.size) (h1 : T ≠ C) :
    Calls Tryz.prog 75 #[.pointer (some ⟨C, 0, none⟩), .int .i64 size, .pointer (some ⟨T, o, none⟩)] w fun e w' => e = .returned (.tuple #[]) ∧ w'.heap[C]? = some (rdObj A B.length c (rtake B (at_, sh) size).2.1 (rtake B (at_, sh) size).2.2) ∧
      w'.heap[T]? = some (.cells (cs.setIfInBounds o (.int .i64 (beval (rtake B (at_, sh) size).1))) t (0, 0)) ∧ Mod (fun b => b = C ∨ b = T) w w' := by
  have hlt := lt_of_block hb
  have hTl := lt_of_block hT
  have hm : Mod No w (w.alloc (.cells #[.pointer (some ⟨T, o, none⟩)] 125)) := (Mod.refl _ _).alloc _
  have hnl : beval (rtake B (at_, sh) size).1 < 9223372036854775808 := by
    have h1 := beval_lt (rtake B (at_, sh) size).1
    rw [rtake_length] at h1
    exact Nat.lt_of_lt_of_le h1 (by rw [show (9223372036854775808 : Nat) = 256 ^ 7 * 128 from by decide]; exact Nat.le_trans (Nat.pow_le_pow_right (by omega) hk) (Nat.le_mul_of_pos_right _ (by decide)))
  have H := Lib.hid (number_rd B (hm.obj hb id) (S := fun b => S b ∧ b < w.heap.size) ((hrow.mono (fun b hb hs => ⟨hs, hb⟩)).keeps (hm.keeps (fun _ _ _ f => f))) hat hc hB size (by omega) (fun f => hS f.1) (.func (.func 105) #[] #[.pointer (some ⟨w.heap.size, 0, none⟩)]) 106 (.pointer (some ⟨w.heap.size, 0, none⟩)) (fun a W => by go_simp)
    (fun w' => w'.heap[C]? = some (rdObj A B.length c (rtake B (at_, sh) size).2.1 (rtake B (at_, sh) size).2.2) ∧ w'.heap[T]? = some (.cells (cs.setIfInBounds o (.int .i64 (beval (rtake B (at_, sh) size).1))) t (0, 0)) ∧ Mod (fun b => b = C ∨ b = T) w w')
    (fun w1 hC hm1 => (set_i64 (hm1.obj (at10 w _) (by omega)) (hm1.obj (hm.obj hT id) h1) ho hnl).mono (fun e w2 ⟨h2, h3⟩ => by
      subst h3
      refine ⟨h2, ?_, heap_setCell_row (hm1.obj (hm.obj hT id) h1) _, ?_⟩
      · rw [heap_setCell_ne _ _ (by simpa using fun e => h1 e.symm)]; exact hC
      · exact Mod.setCell ((hm.mono (fun _ f => f.elim)).trans (hm1.mono (fun _ h => .inl h))) (.inr (.inr rfl)) _)))
  clear hb hrow hT hm hnl
  go_enter Tryz.func75, Tryz.ntmps75
  go_wp2_with (first | (go_at_call 99; refine H.out.mono ?_; rintro e w1 ⟨rfl, hr⟩; have HW := Lib.hid hr; clear hr) | fail)
  go_end0
  exact ⟨rfl, HW.out⟩
end

section
open Go.RowKit
set_option linter.unusedVariables false
theorem own_slice {w : World} {base : Nat} {e : TypeId} {size : Nat} {v : Value} {n : Nat} {xs : List Value} (h : w.ownsRow base e size v n xs) : ∃ a l c, v = .slice a l c := by
  rcases h.2 with ⟨rfl, _⟩ | ⟨g, cap, cur, rfl, _⟩
  · exact ⟨_, _, _, rfl⟩
  · exact ⟨_, _, _, rfl⟩
set_option maxRecDepth 100000 in
theorem bytes_wr {w : World} {C base : Nat} {L : List UInt8} {v : Value} (h : Wr w C base L v) (hb : base ≤ w.heap.size) (X : List UInt8) (hL : L.length + X.length ≤ 100000000) (ad : Addr) (c : Nat) (hX : ∀ j u, (bcells X)[j]? = some u → w.cell? (ad.add j) = some u) :
    Calls Tryz.prog 67 #[.pointer (some ⟨C, 0, none⟩), .slice (some ad) X.length c] w fun e w' => e = .returned (.tuple #[]) ∧ ∃ v', Wr w' C base (L ++ X) v' ∧ WMod C v w v' w' := by
  have c0 := blk_cell h.blk 0
  have c1 := blk_cell h.blk 1
  have f0 := blk_free h.blk 0
  simp at c0 c1
  obtain ⟨i0, hi, hz0, hz1, hz2⟩ := info_parts infoU8
  obtain ⟨n, hn⟩ : ∃ n, n = X.length := ⟨_, rfl⟩
  have hne := h.ne h.blk (by decide)
  have hst : ∀ v' w', w'.ownsRow base 5 1 v' (L.length + n) (bcells L ++ bcells X) → w.grownBy w' v.ownBlock → (v'.ownBlock = v.ownBlock ∨ v'.ownBlock = some w.heap.size) → w'.frozen? ⟨C, 0, none⟩ = false ∧ (∃ u, w'.cell? ⟨C, 0, none⟩ = some u) ∧ Wr (w'.setCell ⟨C, 0, none⟩ v') C base (L ++ X) v' ∧ WMod C v w v' (w'.setCell ⟨C, 0, none⟩ v') := by
    intro v' w' h1 h2 h3
    have hm : Mod (fun b => v.ownBlock = some b) w w' := Mod.grown (Mod.refl _ _) h2 (fun k hk => .inr hk)
    rw [← bcells_append] at h1
    have hbk := hm.obj h.blk hne
    exact ⟨blk_free hbk 0, ⟨_, by simpa using blk_cell hbk 0⟩, wr_step_any h hm h1 h3 (by rw [List.length_append, hn])⟩
  rw [← hn]
  have HST := Lib.hid hst
  have HOW := Lib.hid h.own
  have HX := Lib.hid hX
  have HN := Lib.hid hn
  have HL := Lib.hid hL
  have HB := Lib.hid hb
  clear hst h hX hn hL hb
  go_enter Tryz.func67, Tryz.ntmps67
  go_wp2_with (first | (at_builtin; refine wpList_append_own_at _ (by rfl) _ _ 40 (by rfl) base 5 i0 _ 1 1 Tryz.underlying40 hi hz0 hz1 hz2 rfl (by decide) v L.length (bcells L) (by rfl) HOW.out ad n c (bcells X) (by rfl) ?_ HX.out (bcells_one X) ?_ ?_ HB.out ?_; (rw [bcells_length, HN.out, Nat.mul_one]); (have := HL.out; have := HN.out; unfold maxLen; omega); (have := HL.out; have := HN.out; omega); intro v' w1 own1 hg1 _ hrow1; obtain ⟨a1, l1, k1, rfl⟩ := own_slice own1; obtain ⟨f2, ⟨u2, c2⟩, hW2⟩ := HST.out _ w1 own1 hg1 hrow1; have HW := Lib.hid hW2; clear hW2 own1 hg1 hrow1) | fail)
  first | go_end0 | (simp only [Exit.inBlock, Exit.then]; refine bodyPost_ret (results_none rfl _ _ _) rfl ?_) | refine bodyPost_ret (results_none rfl _ _ _) rfl ?_
  exact ⟨rfl, _, HW.out.1, HW.out.2⟩
theorem setRow_mod {w : World} {g : Nat} (cs : Array Value) : Mod (fun b => b = g) w (w.setRow g cs) :=
  ⟨rfl, rfl, rfl, by simp [World.setRow], fun k hk hf => setRow_other w g k cs hf⟩
set_option maxRecDepth 100000 in
theorem bytes_rd {S : Nat → Prop} {w : World} {C : Nat} {A : Option Addr} {c at_ : Nat} {sh : Bool} (B : List UInt8) (hb : w.heap[C]? = some (rdObj A B.length c at_ sh)) (hrow : RowAt S w A (bcells B)) (hat : at_ ≤ B.length) (hc : B.length ≤ c) (hB : B.length ≤ 100000000) (k : Nat) (hk : k ≤ 100000000) (hS : ¬ S C)
    {T o kc : Nat} {cs : List Value} {t : TypeId} (hT : w.heap[T]? = some (.cells cs.toArray t (0, 0))) (ho : o + k ≤ cs.length) (h1 : T ≠ C) :
    Calls Tryz.prog 67 #[.pointer (some ⟨C, 0, none⟩), .slice (some ⟨T, o, none⟩) k kc] w fun e w' => e = .returned (.tuple #[]) ∧ w'.heap[C]? = some (rdObj A B.length c (rtake B (at_, sh) k).2.1 (rtake B (at_, sh) k).2.2) ∧
      w'.heap[T]? = some (.cells (splice cs o (bcells (rtake B (at_, sh) k).1)).toArray t (0, 0)) ∧ Mod (fun b => b = C ∨ b = T) w w' := by
  have HT := Lib.hid (take_ok B hb hrow hat hc hB k hk hS)
  have hxl := rtake_length B (at_, sh) k
  obtain ⟨xs, hxs⟩ : ∃ xs, xs = (rtake B (at_, sh) k).1 := ⟨_, rfl⟩
  obtain ⟨st, hst⟩ : ∃ st, st = (rtake B (at_, sh) k).2 := ⟨_, rfl⟩
  rw [← hxs, ← hst] at HT
  rw [← hxs] at hxl
  rw [← hxs, ← hst]
  have HXL := Lib.hid hxl
  have c1 := blk_cell hb 1
  simp at c1
  have HTB := Lib.hid hT
  have hsz : (Tryz.prog.info? 5).map (·.size) = some 1 := by kernel_rfl
  clear hxl hb hrow hS hxs hst hT
  rcases Nat.eq_zero_or_pos k with h0 | h0
  · subst h0
    go_enter Tryz.func67, Tryz.ntmps67
    go_wp2_with (first | (go_at_call 102; refine HT.out.mono ?_; rintro e w1 ⟨A', c', rfl, hcc, hr1, hb1, hm1⟩; have HR1 := Lib.hid (And.intro hr1 (And.intro hb1 hm1)); have hcp := run_copy_none (P := Tryz.prog) w1 40 40 3 5 (some ⟨T, o, none⟩) A' 0 kc 0 c' Tryz.underlying40 hsz (Nat.min_self 0); clear hr1 hb1 hm1) | fail)
    go_end0
    have e : xs = [] := List.eq_nil_of_length_eq_zero HXL.out
    subst e
    refine ⟨rfl, HR1.out.2.1, ?_, HR1.out.2.2.mono (fun _ h => .inl h)⟩
    rw [HR1.out.2.2.obj HTB.out h1]
    simp [splice, bcells]
  · have hpos : ∀ A' w1, RowAt (fun b => S b ∨ w.heap.size ≤ b) w1 A' (bcells xs) → ∃ b o, A' = some ⟨b, o, none⟩ ∧ ∀ j v, (bcells xs)[j]? = some v → w1.cell? ((⟨b, o, none⟩ : Addr).add j) = some v := by
      intro A' w1 h
      obtain ⟨b, o, e, _, _, hc⟩ := h.open (by intro e; have := congrArg List.length e; rw [bcells_length, HXL.out] at this; simp at this; omega)
      exact ⟨b, o, e, fun j v hj => by rw [Addr.add_lit]; exact hc j v hj⟩
    have HP := Lib.hid hpos
    clear hpos
    go_enter Tryz.func67, Tryz.ntmps67
    go_wp2_with (first | (go_at_call 102; refine HT.out.mono ?_; rintro e w1 ⟨A', c', rfl, hcc, hr1, hb1, hm1⟩; obtain ⟨b1, o1, rfl, hc1⟩ := HP.out _ _ hr1; have hcp := run_copy_row (P := Tryz.prog) w1 40 40 3 5 T o k kc ⟨b1, o1, none⟩ k c' cs.toArray t (bcells xs) Tryz.underlying40 hsz (hm1.obj HTB.out h1) (by rw [bcells_length, HXL.out]; exact (Nat.min_self _).symm) hc1 (by rw [bcells_length, HXL.out]; simpa using ho) (bcells_one xs); have HR1 := Lib.hid (And.intro hr1 (And.intro hb1 hm1)); clear hr1 hb1 hm1 hc1) | fail)
    go_end0
    have hmm := HR1.out.2.2
    refine ⟨rfl, ?_, ?_, (hmm.mono (fun _ h => .inl h)).trans ((setRow_mod _).mono (fun _ h => .inr h))⟩
    · exact (setRow_mod _).obj HR1.out.2.1 (fun e => h1 e.symm)
    · exact setRow_heap _ T _ _ t _ (hmm.obj HTB.out h1)
end

section
open Go.RowKit
set_option linter.unusedVariables false
theorem wrap_u64 (n : Nat) (h : n < 18446744073709551616) : IntKind.u64.wrap (n : Int) = n := by simp [IntKind.wrap, IntKind.bits, IntKind.signed]; omega
set_option maxRecDepth 100000 in
theorem count_wr {w : World} {C base : Nat} {L : List UInt8} {v : Value} (h : Wr w C base L v) (hb : base ≤ w.heap.size) (hL : L.length ≤ 90000000) (n : Nat) :
    Calls Tryz.prog 81 #[.pointer (some ⟨C, 0, none⟩), .int .i64 n] w fun e w' => e = .returned (.int .i64 (min n 255 : Nat)) ∧ ∃ v', Wr w' C base (L ++ be 1 (min n 255)) v' ∧ WMod C v w v' w' := by
  obtain ⟨m, hm⟩ : ∃ m, m = min n 255 := ⟨_, rfl⟩
  rw [← hm]
  have hmin : min (n : Int) 255 = m := by omega
  have hlt := lt_of_block h.blk
  obtain ⟨w1, hw1⟩ : ∃ w1, w1 = w.alloc (.cells #[.int .i64 m] 3) := ⟨_, rfl⟩
  have hm1 : Mod No w w1 := by rw [hw1]; exact (Mod.refl _ _).alloc _
  have hbox : w1.heap[w.heap.size]? = some (.cells #[.int .i64 m] 3 (0, 0)) := by rw [hw1]; exact at10 w _
  have hwr : Wr w1 C base L v := ⟨hm1.obj h.blk id, own_mod h.own hm1 (fun _ _ f => f)⟩
  have hz : IntKind.u64.wrap (m : Int) = m := wrap_u64 m (by omega)
  have hne := (fun e => Nat.lt_irrefl _ (h.lt (g := w.heap.size) e).2 : v.ownBlock ≠ some w.heap.size)
  have H := num_i64_wr hwr (Nat.le_trans hb hm1.size) 1 m (by omega) hL (T := w.heap.size) (o := 0) (z := m) (by simpa using blk_cell hbox 0) hz (by omega) hne
  have HB := Lib.hid (And.intro hm1 (And.intro hbox hne))
  rw [hw1] at H HB
  have H := Lib.hid H
  clear hm h hb hm1 hbox hwr hz hw1 hne w1
  go_enter Tryz.func81, Tryz.ntmps81
  go_wp2_with (first | (go_at_call 75; refine H.out.mono ?_; rintro e w2 ⟨rfl, v', hw2, hm2⟩; have c9 := (blk_cell (hm2.obj HB.out.2.1 (by omega) HB.out.2.2) 0).trans rfl; have HW := Lib.hid (And.intro hw2 hm2); clear hw2 hm2) | fail)
  go_ret
  obtain ⟨hw2, hm2⟩ := HW.out
  exact ⟨rfl, v', hw2, ⟨(HB.out.1.mono (fun _ f => f.elim)).trans hm2.mod, fun g hg => by
    rcases hm2.row g hg with h | h
    · exact .inl h
    · right; simp at h; omega⟩⟩
set_option maxRecDepth 100000 in
theorem count_rd {S : Nat → Prop} {w : World} {C : Nat} {A : Option Addr} {c at_ : Nat} {sh : Bool} (B : List UInt8) (hb : w.heap[C]? = some (rdObj A B.length c at_ sh)) (hrow : RowAt S w A (bcells B)) (hat : at_ ≤ B.length) (hc : B.length ≤ c) (hB : B.length ≤ 100000000) (hS : ¬ S C) (n : Nat) :
    Calls Tryz.prog 81 #[.pointer (some ⟨C, 0, none⟩), .int .i64 n] w fun e w' => e = .returned (.int .i64 (beval (rtake B (at_, sh) 1).1)) ∧ w'.heap[C]? = some (rdObj A B.length c (rtake B (at_, sh) 1).2.1 (rtake B (at_, sh) 1).2.2) ∧ Mod (fun b => b = C) w w' := by
  obtain ⟨m, hm⟩ : ∃ m, m = min n 255 := ⟨_, rfl⟩
  have hmin : min (n : Int) 255 = m := by omega
  have hlt := lt_of_block hb
  have hm1 : Mod No w (w.alloc (.cells #[.int .i64 m] 3)) := (Mod.refl _ _).alloc _
  have hbox := at10 w (.cells #[.int .i64 m] 3)
  have H := Lib.hid (num_i64_rd B (hm1.obj hb id) (S := fun b => S b ∧ b < w.heap.size) ((hrow.mono (fun b hb hs => ⟨hs, hb⟩)).keeps (hm1.keeps (fun _ _ _ f => f))) hat hc hB 1 (by omega) (fun f => hS f.1) (T := w.heap.size) (o := 0) (cs := #[.int .i64 m]) hbox (by simp) (by omega))
  obtain ⟨r, hr⟩ : ∃ r, r = beval (rtake B (at_, sh) 1).1 := ⟨_, rfl⟩
  rw [← hr] at H
  rw [← hr]
  have HM := Lib.hid hm1
  clear hm hb hrow hm1 hbox hr hS
  go_enter Tryz.func81, Tryz.ntmps81
  go_wp2_with (first | (go_at_call 75; refine H.out.mono ?_; rintro e w2 ⟨rfl, hw2, hw3, hm2⟩; have c9 : w2.cell? ⟨w.heap.size, 0, none⟩ = some (.int .i64 r) := (blk_cell hw3 0).trans (by simp); have HW := Lib.hid (And.intro hw2 hm2); clear hw2 hm2 hw3) | fail)
  go_ret
  exact ⟨rfl, HW.out.1, (HM.out.mono (fun _ f => f.elim)).trans' HW.out.2 (fun i hi hg => by rcases hg with h | h; exact h; omega)⟩
/-! ### names -/
/-- Bytes as a string. -/
def str (l : List UInt8) : ByteArray := ⟨l.toArray⟩
theorem str_list (s : ByteArray) : str s.data.toList = s := rfl
theorem conv_bytes (l : List UInt8) (hl : l.length ≤ 100000000) (w : World) : ∃ cap w1, (convert 9 40 (.string (str l))).run Tryz.prog w = .ok (.slice (some ⟨w.heap.size, 0, none⟩) l.length cap) w1 ∧ l.length ≤ cap ∧ Mod No w w1 ∧ w1.heap.size = w.heap.size + 1 ∧
    ∀ j u, (bcells l)[j]? = some u → w1.cell? ⟨w.heap.size, j, none⟩ = some u := by
  have hs : (str l).size = l.length := by simp [str, ByteArray.size]
  refine ⟨grownCap w (str l).size 0 5, _, ?_, ?_, (Mod.refl No w).drew.alloc (.cells (bytesRow (str l) (grownCap w (str l).size 0 5)) 5 ((bytesRow (str l) (grownCap w (str l).size 0 5)).size, (bytesRow (str l) (grownCap w (str l).size 0 5)).size + 1)), ?_, ?_⟩
  · rw [run_bytes_of_string w 9 40 5 (str l) Tryz.underlying9 Tryz.underlying40 Tryz.underlying5, hs]
  · rw [← hs]; exact grownCap_ge w _ _ _
  · simp
  · intro j u hj
    have := World.cell?_alloc_mark w.drew (bytesRow (str l) (grownCap w (str l).size 0 5)) 5 ((bytesRow (str l) (grownCap w (str l).size 0 5)).size, (bytesRow (str l) (grownCap w (str l).size 0 5)).size + 1) j
    rw [show w.drew.heap.size = w.heap.size from rfl] at this
    rw [this]
    have hjl : j < l.length := by have := (List.getElem?_eq_some_iff.1 hj).1; rwa [bcells_length] at this
    simp only [bytesRow, str, bcells] at hj ⊢
    rw [Array.getElem?_append_left (by simpa using hjl)]
    simpa using hj
theorem slice_head (g len cap k : Nat) (hk : k ≤ cap) : ∀ W, (Instr.slice 40 (.slice (some ⟨g, 0, none⟩) len cap) none (some (.int .i64 (k : Int))) none).run Tryz.prog W = .ok (.slice (some ⟨g, 0, none⟩) k cap) W := by
  have he : Tryz.prog.elem 40 = 5 := by kernel_rfl
  have hz : ∀ W, (sizeOf 5).run Tryz.prog W = .ok 1 W := fun W => by kernel_rfl
  intro W
  rw [run_slice_h W 40 _ _ _ (by rw [he]; exact Tryz.underlying40) .i64 (k : Int) (by omega) (by omega), he, hz]
  simp only [Result.andThen, sliced, Int.toNat_natCast, Nat.zero_mul, Nat.sub_zero]
  split <;> rfl
theorem conv_back (g cap : Nat) (l : List UInt8) {w : World} (hc : ∀ j u, (bcells l)[j]? = some u → w.cell? ⟨g, j, none⟩ = some u) : (convert 40 9 (.slice (some ⟨g, 0, none⟩) l.length cap)).run Tryz.prog w = .ok (.string (str l)) w := by
  refine run_convert_bytes_back w 40 9 5 ⟨g, 0, none⟩ cap l Tryz.underlying40 Tryz.underlying5 Tryz.underlying9 (fun j hj => ?_)
  rw [Addr.add_lit, Nat.zero_add]
  exact hc j _ (by simp [bcells, List.getElem?_eq_getElem hj])
theorem WMod.ext {C : Nat} {v v' : Value} {w0 w w' : World} (h0 : Mod No w0 w) (h : WMod C v w v' w') : WMod C v w0 v' w' :=
  ⟨(h0.mono (fun _ f => f.elim)).trans h.mod, fun g hg => by
    rcases h.row g hg with h | h
    · exact .inl h
    · exact .inr (Nat.le_trans h0.size h)⟩
theorem Wr.ext {w w' : World} {C base : Nat} {L : List UInt8} {v : Value} (h : Wr w C base L v) (hm : Mod No w w') : Wr w' C base L v := ⟨hm.obj h.blk id, own_mod h.own hm (fun _ _ f => f)⟩
set_option maxRecDepth 100000 in
theorem name_wr {w : World} {C base : Nat} {L : List UInt8} {v : Value} (h : Wr w C base L v) (hb : base ≤ w.heap.size) (hL : L.length ≤ 80000000) (l : List UInt8) (hl : l.length ≤ 100000000) {T o : Nat} {cs : Array Value} {t : TypeId} (hT : w.heap[T]? = some (.cells cs t (0, 0))) (ho : cs[o]? = some (.string (str l))) (h1 : T ≠ C) (h2 : v.ownBlock ≠ some T) :
    Calls Tryz.prog 52 #[.pointer (some ⟨C, 0, none⟩), .pointer (some ⟨T, o, none⟩)] w fun e w' => e = .returned (.tuple #[]) ∧ ∃ v', Wr w' C base (L ++ be 1 (min l.length 255) ++ l.take 255) v' ∧
      w'.heap[T]? = some (.cells (cs.setIfInBounds o (.string (str (l.take 255)))) t (0, 0)) ∧ Mod (fun b => b = C ∨ v.ownBlock = some b ∨ b = T) w w' ∧ (∀ g, v'.ownBlock = some g → v.ownBlock = some g ∨ w.heap.size ≤ g) := by
  obtain ⟨cap, w1, hcv, hcap, hm1, hs1, hc1⟩ := conv_bytes l hl w
  obtain ⟨k, hk⟩ : ∃ k, k = min l.length 255 := ⟨_, rfl⟩
  obtain ⟨X, hX⟩ : ∃ X, X = l.take 255 := ⟨_, rfl⟩
  have hXl : X.length = k := by rw [hX, hk, List.length_take]; omega
  have hXc : ∀ (j : Nat) (u : Value), (bcells X)[j]? = some u → (bcells l)[j]? = some u := by
    intro j u hj
    have hjl := (List.getElem?_eq_some_iff.1 hj).1
    rw [bcells_length, hXl] at hjl
    rw [hX] at hj
    simp only [bcells, List.map_take] at hj ⊢
    rwa [List.getElem?_take_of_lt (by omega)] at hj
  have hlt := lt_of_block h.blk
  have hTl := lt_of_block hT
  have hw1 := h.ext hm1
  have hbb1 : w.heap.size ≠ C := by omega
  have hbb2 : v.ownBlock ≠ some w.heap.size := fun e => Nat.lt_irrefl _ (h.lt e).2
  have HC := Lib.hid (count_wr hw1 (Nat.le_trans hb hm1.size) (by omega) l.length)
  rw [← hk] at HC
  have hcell : ∀ (w2 : World) v2, WMod C v w1 v2 w2 → ∀ (j : Nat) (u : Value), (bcells X)[j]? = some u → w2.cell? ((⟨w.heap.size, 0, none⟩ : Addr).add j) = some u := by
    intro w2 v2 hm2 j u hj
    rw [Addr.add_lit, Nat.zero_add]
    refine hm2.mod.cell (hc1 j u (hXc j u hj)) ?_
    rintro (f | f)
    · exact hbb1 f
    · exact hbb2 f
  have hbyt : ∀ v2 w2, Wr w2 C base (L ++ be 1 k) v2 → WMod C v w1 v2 w2 → Calls Tryz.prog 67 #[.pointer (some ⟨C, 0, none⟩), .slice (some ⟨w.heap.size, 0, none⟩) k cap] w2 fun e w' => e = .returned (.tuple #[]) ∧ ∃ v', Wr w' C base (L ++ be 1 k ++ X) v' ∧ WMod C v w1 v' w' := by
    intro v2 w2 hw2 hm2
    have hby := bytes_wr hw2 (Nat.le_trans hb (Nat.le_trans hm1.size hm2.mod.size)) X (by rw [List.length_append, be_length]; omega) ⟨w.heap.size, 0, none⟩ cap (hcell w2 v2 hm2)
    rw [hXl] at hby
    refine hby.mono fun e w' ⟨he, v', a1, a2⟩ => ⟨he, v', a1, hm2.trans a2⟩
  have hcbt : ∀ w3 v3, WMod C v w1 v3 w3 → (convert 40 9 (.slice (some ⟨w.heap.size, 0, none⟩) k cap)).run Tryz.prog w3 = .ok (.string (str X)) w3 := by
    intro w3 v3 hm3
    rw [← hXl]
    refine conv_back _ cap X (fun j u hj => hm3.mod.cell (hc1 j u (hXc j u hj)) ?_)
    rintro (f | f)
    · exact hbb1 f
    · exact hbb2 f
  have hsl := slice_head w.heap.size l.length cap k (by omega)
  have hkc : k ≤ cap := by omega
  have hkc' : (k : Int) ≤ cap := by omega
  have hk0 : (0 : Int) ≤ k := by omega
  have c0 := (blk_cell hT o).trans ho
  have hTT : ∀ w3 v3, WMod C v w1 v3 w3 → w3.heap[T]? = some (.cells cs t (0, 0)) ∧ w3.cell? ⟨T, o, none⟩ = some (.string (str l)) ∧ w3.frozen? ⟨T, o, none⟩ = false := by
    intro w3 v3 hm3
    have := hm3.obj (hm1.obj hT id) h1 h2
    exact ⟨this, (blk_cell this o).trans ho, blk_free this o⟩
  have HBY := Lib.hid hbyt
  have HCB := Lib.hid hcbt
  have HTT := Lib.hid hTT
  have H1 := Lib.hid hm1
  have HK := Lib.hid hk
  have HLL := Lib.hid hL
  have HXX := Lib.hid hX
  clear hk hL hcap h hb hT ho hw1 hc1 hXc hTT hX hXl hm1 hcell hbyt hcbt
  go_enter Tryz.func52, Tryz.ntmps52
  go_upto_region 5 with (first | (go_at_call 81; refine HC.out.mono ?_; rintro e w2 ⟨rfl, v2, hw2, hm2⟩; have c2 : w2.cell? ⟨C, 1, none⟩ = some (.bool false) := (blk_cell hw2.blk 1).trans rfl; have HW2 := Lib.hid (And.intro hw2 hm2); clear hw2 hm2) | (go_at_call 67; refine (HBY.out v2 w2 HW2.out.1 HW2.out.2).mono ?_; rintro e w3 ⟨rfl, v3, hw3, hm3⟩; have hcb := HCB.out _ _ hm3; obtain ⟨hT3, c3, f3⟩ := HTT.out _ _ hm3; have HT3 := Lib.hid hT3; clear hT3; have HW3 := Lib.hid (And.intro hw3 hm3); clear hw3 hm3) | fail)
  clear HBY HC HTT hcv HCB c0
  go_wp2
  go_end0
  obtain ⟨hw3, hm3⟩ := HW3.out
  have hne3 : v3.ownBlock ≠ some T := by
    intro e
    rcases hm3.row T e with h | h
    · exact h2 h
    · omega
  rw [← HK.out, ← HXX.out]
  refine ⟨rfl, v3, ⟨?_, own_mod hw3.own (Mod.setCell (p := ⟨T, o, none⟩) (Mod.refl (fun b => b = T) w3) (.inr rfl) _) (fun g hg e => hne3 (by rw [← e]; exact hg))⟩, heap_setCell_row HT3.out _, ?_, ?_⟩
  · rw [heap_setCell_ne _ _ (fun e => h1 e.symm)]
    exact hw3.blk
  · refine Mod.setCell ((H1.out.mono (fun _ f => f.elim)).trans (hm3.mod.mono (fun i hi => ?_))) (.inr (.inr (.inr rfl))) _
    rcases hi with h | h
    · exact .inl h
    · exact .inr (.inl h)
  · intro g hg
    rcases hm3.row g hg with h | h
    · exact .inl h
    · right; omega
end

section
open Go.RowKit
set_option linter.unusedVariables false
/-- A name read: its bytes; the place behind it, whether the bytes ended too early. -/
def rname (B : List UInt8) (s : Nat × Bool) : List UInt8 × (Nat × Bool) := rtake B (rtake B s 1).2 (beval (rtake B s 1).1)
theorem rname_le (B : List UInt8) (s : Nat × Bool) (h : s.1 ≤ B.length) : (rname B s).2.1 ≤ B.length := rtake_le B _ _ (rtake_le B s 1 h)
theorem splice_all (k : Nat) (xs : List UInt8) (h : xs.length = k) : splice (bcells (List.replicate k 0)) 0 (bcells xs) = bcells xs := by
  simp [splice, bcells, h]
set_option maxRecDepth 100000 in
theorem name_rd {S : Nat → Prop} {w : World} {C : Nat} {A : Option Addr} {c at_ : Nat} {sh : Bool} (B : List UInt8) (hb : w.heap[C]? = some (rdObj A B.length c at_ sh)) (hrow : RowAt S w A (bcells B)) (hat : at_ ≤ B.length) (hc : B.length ≤ c) (hB : B.length ≤ 100000000) (hS : ¬ S C)
    (l0 : List UInt8) (hl : l0.length ≤ 100000000) {T o : Nat} {cs : Array Value} {t : TypeId} (hT : w.heap[T]? = some (.cells cs t (0, 0))) (ho : cs[o]? = some (.string (str l0))) (h1 : T ≠ C) :
    Calls Tryz.prog 52 #[.pointer (some ⟨C, 0, none⟩), .pointer (some ⟨T, o, none⟩)] w fun e w' => e = .returned (.tuple #[]) ∧ w'.heap[C]? = some (rdObj A B.length c (rname B (at_, sh)).2.1 (rname B (at_, sh)).2.2) ∧
      w'.heap[T]? = some (.cells (cs.setIfInBounds o (.string (str (rname B (at_, sh)).1))) t (0, 0)) ∧ Mod (fun b => b = C ∨ b = T) w w' := by
  obtain ⟨cap, w1, hcv, hcap, hm1, hs1, hc1⟩ := conv_bytes l0 hl w
  have hlt := lt_of_block hb
  have hTl := lt_of_block hT
  have hrow' := hrow.mono (S' := fun b => S b ∧ b < w.heap.size) (fun b hb hs => ⟨hs, hb⟩)
  have hr1 := hrow'.keeps (hm1.keeps (fun _ _ _ f => f))
  have hSC : ¬ (S C ∧ C < w.heap.size) := fun f => hS f.1
  have HC := count_rd B (hm1.obj hb id) hr1 hat hc hB hSC l0.length
  obtain ⟨s1, hs1e⟩ : ∃ s1, s1 = (rtake B (at_, sh) 1).2 := ⟨_, rfl⟩
  obtain ⟨n, hn⟩ : ∃ n, n = beval (rtake B (at_, sh) 1).1 := ⟨_, rfl⟩
  have hat1 : s1.1 ≤ B.length := by rw [hs1e]; exact rtake_le B _ 1 hat
  have hn8 : n < 256 := by
    have := beval_lt (rtake B (at_, sh) 1).1
    rwa [rtake_length, ← hn] at this
  have hne : rname B (at_, sh) = rtake B s1 n := by rw [rname, hs1e, hn]
  rw [← hs1e, ← hn] at HC
  rw [hne]
  obtain ⟨xs, hxs⟩ : ∃ xs, xs = (rtake B s1 n).1 := ⟨_, rfl⟩
  obtain ⟨s2, hs2⟩ : ∃ s2, s2 = (rtake B s1 n).2 := ⟨_, rfl⟩
  have hxl : xs.length = n := by rw [hxs]; exact rtake_length _ _ _
  rw [← hxs, ← hs2]
  have hmk := make_bytes n (by omega)
  have hby : ∀ w2, w2.heap[C]? = some (rdObj A B.length c s1.1 s1.2) → Mod (fun b => b = C) w1 w2 → Calls Tryz.prog 67 #[.pointer (some ⟨C, 0, none⟩), .slice (some ⟨w2.heap.size, 0, none⟩) n n] (w2.alloc (.cells (bcells (List.replicate n 0)).toArray 5)) fun e w' => e = .returned (.tuple #[]) ∧ w'.heap[C]? = some (rdObj A B.length c s2.1 s2.2) ∧
      w'.heap[w2.heap.size]? = some (.cells (bcells xs).toArray 5 (0, 0)) ∧ Mod (fun b => b = C) w1 w' := by
    intro w2 hb2 hm2
    have hm3 : Mod (fun b => b = C) w1 (w2.alloc (.cells (bcells (List.replicate n 0)).toArray 5)) := hm2.alloc _
    have h := bytes_rd B (((Mod.refl No w2).alloc (.cells (bcells (List.replicate n 0)).toArray 5)).obj hb2 id) (hr1.keeps (hm3.keeps (fun b _ hs e => hSC (by subst e; exact hs)))) hat1 hc hB n (by omega) hSC (T := w2.heap.size) (o := 0) (kc := n) (cs := bcells (List.replicate n 0)) (at10 w2 _) (by rw [bcells_length]; simp) (by have := hm2.size; omega)
    rw [← hxs, splice_all n xs hxl, ← hs2] at h
    exact h.mono fun e w' ⟨e1, e2, e3, e4⟩ => ⟨e1, e2, e3, hm3.trans' e4 (fun i hi hg => by rcases hg with h | h; exact h; have := hm2.size; omega)⟩
  have hsl := fun g => slice_head g n n n (Nat.le_refl _)
  have hcbt : ∀ g w3, w3.heap[g]? = some (.cells (bcells xs).toArray 5 (0, 0)) → (convert 40 9 (.slice (some ⟨g, 0, none⟩) n n)).run Tryz.prog w3 = .ok (.string (str xs)) w3 := by
    intro g w3 h
    rw [← hxl]
    exact conv_back _ _ xs (fun j u hj => by rw [blk_cell h]; simpa using hj)
  have c0 := (blk_cell hT o).trans ho
  have hTT : ∀ w3, Mod (fun b => b = C) w1 w3 → w3.heap[T]? = some (.cells cs t (0, 0)) ∧ w3.cell? ⟨T, o, none⟩ = some (.string (str l0)) ∧ w3.frozen? ⟨T, o, none⟩ = false := by
    intro w3 hm3
    have := hm3.obj (hm1.obj hT id) h1
    exact ⟨this, (blk_cell this o).trans ho, blk_free this o⟩
  have hkc : (n : Int) ≤ n := Int.le_refl _
  have hk0 : (0 : Int) ≤ n := by omega
  have HC := Lib.hid HC
  have HBY := Lib.hid hby
  have HCB := Lib.hid hcbt
  have HTT := Lib.hid hTT
  have H1 := Lib.hid hm1
  have HAT := Lib.hid hat
  have HN8 := Lib.hid hn8
  clear hcap hb hrow hrow' hr1 hat hc hB hS hl hT ho hm1 hc1 hSC hs1e hn hat1 hn8 hne hxs hs2 hxl hby hcbt hTT hs1
  go_enter Tryz.func52, Tryz.ntmps52
  go_upto_region 5 with (first | (go_at_call 81; refine HC.out.mono ?_; rintro e w2 ⟨rfl, hw2, hm2⟩; have c2 : w2.cell? ⟨C, 1, none⟩ = some (.bool true) := (blk_cell hw2 1).trans rfl; have HW2 := Lib.hid (And.intro hw2 hm2); clear hw2 hm2) | (go_at_call 67; refine (HBY.out w2 HW2.out.1 HW2.out.2).mono ?_; rintro e w3 ⟨rfl, hw3, hx3, hm3⟩; have hcb := HCB.out _ _ hx3; obtain ⟨hT3, c3, f3⟩ := HTT.out _ hm3; have HT3 := Lib.hid hT3; clear hT3; have HW3 := Lib.hid (And.intro hw3 hm3); clear hw3 hm3 hx3) | fail)
  clear HBY HC HTT hcv HCB c0
  go_wp2
  go_end0
  obtain ⟨hw3, hm3⟩ := HW3.out
  refine ⟨rfl, ?_, heap_setCell_row HT3.out _, Mod.setCell ((H1.out.mono (fun _ f => f.elim)).trans (hm3.mono (fun i hi => .inl hi))) (.inr (.inr rfl)) _⟩
  rw [heap_setCell_ne _ _ (fun e => h1 e.symm)]
  exact hw3
/-! ### was all read -/
theorem ended_ok {w : World} {C : Nat} {A : Option Addr} {n c at_ : Nat} {sh : Bool} (hb : w.heap[C]? = some (rdObj A n c at_ sh)) :
    Calls Tryz.prog 53 #[.pointer (some ⟨C, 0, none⟩)] w fun e w' => e = .returned (.bool (!sh && decide (at_ = n))) ∧ ∃ q, w' = w.drewN q := by
  have c0 := blk_cell hb 0
  have c2 := blk_cell hb 2
  have c3 := blk_cell hb 3
  simp at c0 c2 c3
  clear hb
  cases sh
  · have p : ((at_ : Int) == n) = decide (at_ = n) := by
      rw [Bool.eq_iff_iff]; simp; omega
    go_enter Tryz.func53, Tryz.ntmps53
    go_wp2
    go_quiet (fail)
    go_wp2
    go_ret
    exact ⟨by simp, _, rfl⟩
  · go_enter Tryz.func53, Tryz.ntmps53
    go_wp2
    go_quiet (fail)
    go_wp2
    go_ret
    exact ⟨by simp, _, rfl⟩
end

section
set_option linter.unusedVariables false
variable {P : Program} {ops : Array Oper} {Q : Exit → Act → World → Prop}
/-- What is known of the frame between two tests: the two operands' addresses, and the slot d that holds what the tests so far came to. -/
structure CInv (n : Nat) (pA pB : Value) (a : Act) (d : Nat) (b : Bool) : Prop where
  size : a.tmps.size = n
  defers : a.defers = []
  t2 : a.tmps[2]? = some pA
  t3 : a.tmps[3]? = some pB
  tb : a.tmps[d]? = some (.bool b)
theorem put_size (a : Act) (d : Nat) (v : Value) : (a.put (some d) v).tmps.size = a.tmps.size := by simp [Act.put]
theorem put_get {a : Act} {d s : Nat} {v u : Value} (h : d ≠ s) (hs : a.tmps[s]? = some u) : (a.put (some d) v).tmps[s]? = some u := by
  simp only [Act.put, Array.getElem?_setIfInBounds, if_neg h]
  exact hs
theorem put_same {a : Act} {d : Nat} {v : Value} (h : d < a.tmps.size) : (a.put (some d) v).tmps[d]? = some v := by
  simp [Act.put, h]
theorem eval_get {a : Act} {s : Nat} {v : Value} (h : a.tmps[s]? = some v) : a.eval (.tmp s) = v := by
  simp [Act.eval, Array.getD_eq_getD_getElem?, h]
theorem want_of {o : Oper} {i d : Nat} {a : Act} {e : Bool} (hg : o.guard = some (i, true)) (hi : (ops[i]?).bind (·.dst) = some d) (ha : a.tmps[d]? = some (.bool e)) : Region.wanted o (yielded ops a.tmps) = e := by
  have hy : yielded ops a.tmps i = some e := by
    unfold yielded
    rw [hi]
    simp only [Option.bind_some, ha]
  unfold Region.wanted
  rw [hg]
  simp only [hy]
  cases e <;> rfl
theorem step_skip {o : Oper} {rest : List Oper} {a : Act} {w : World} (hw : Region.wanted o (yielded ops a.tmps) = false) (h : wpList P ops Q rest (a.put o.dst undef) w) : wpList P ops Q (o :: rest) a w := by
  unfold wpList
  rw [if_neg (by rw [hw]; decide)]
  exact h
theorem step_val {o : Oper} {rest : List Oper} {a : Act} {w w' : World} {v : Value} (hw : Region.wanted o (yielded ops a.tmps) = true) (hr : (execOp a.eval o).run P w = .ok (.value v) w') (h : wpList P ops Q rest (a.put o.dst v) w') : wpList P ops Q (o :: rest) a w := by
  refine wpList_step fun K hK => ?_
  rw [if_pos hw]
  unfold Oper.wp
  rw [hr]
  exact hK _ _ h
theorem step_calls {o : Oper} {rest : List Oper} {a : Act} {w : World} {f : Nat} {args : Array Value} {R : Value → World → Prop} (hw : Region.wanted o (yielded ops a.tmps) = true) (hr : (execOp a.eval o).run P w = .ok (.enter f args) w)
    (hc : Calls P f args w fun e w' => ∃ v, e = .returned v ∧ R v w') (h : ∀ v w', R v w' → wpList P ops Q rest (a.put o.dst v) w') : wpList P ops Q (o :: rest) a w := by
  refine wpList_step fun K hK => ?_
  rw [if_pos hw]
  unfold Oper.wp
  rw [hr]
  show Calls P f args w _
  refine hc.mono ?_
  rintro e w' ⟨v, rfl, hR⟩
  exact hK _ _ (h v w' hR)
theorem want_none {o : Oper} {a : Act} (h : o.guard = none) : Region.wanted o (yielded ops a.tmps) = true := by simp [Region.wanted, h]
theorem CInv.put {n : Nat} {pA pB : Value} {a : Act} {d : Nat} {b : Bool} (h : CInv n pA pB a d b) {s : Nat} (v : Value) (m : ¬ s = 2) (k : ¬ s = 3) (c : ¬ s = d) : CInv n pA pB (a.put (some s) v) d b :=
  ⟨by rw [put_size, h.size], h.defers, put_get m h.t2, put_get k h.t3, put_get c h.tb⟩
theorem CInv.at {n : Nat} {pA pB : Value} {a : Act} {d : Nat} {b : Bool} (h : CInv n pA pB a d b) {s : Nat} (v : Value) (l : s < n) : (a.put (some s) v).tmps[s]? = some v := put_same (by rw [h.size]; exact l)
/-- The five slots of a test, all apart. -/
def apart5 (n d s1 s2 s3 s4 s5 s6 d' : Nat) : Bool :=
  [s1, s2, s3, s4, s5, s6, d'].all (fun s => decide (s < n) && s != 2 && s != 3) && [s1, s2, s3, s4, s5].all (fun s => s != d) && s2 != s3 && s2 != s4
/-- What a test's five operations come to: the Boolean e' in slot s5, in a world of which R holds. -/
def Test5 (P : Program) (pA pB : Value) (o1 o2 o3 o4 o5 : Oper) (s1 s2 s3 s4 : Nat) (e' : Bool) (w : World) (R : World → Prop) : Prop :=
  ∃ q1 v1 q2 v2, (∀ ρ : Operand → Value, ρ (.tmp 2) = pA → (execOp ρ o1).run P w = .ok (.value q1) w) ∧ (∀ ρ : Operand → Value, ρ (.tmp s1) = q1 → (execOp ρ o2).run P w = .ok (.value v1) w) ∧
    (∀ ρ : Operand → Value, ρ (.tmp 3) = pB → (execOp ρ o3).run P w = .ok (.value q2) w) ∧ (∀ ρ : Operand → Value, ρ (.tmp s3) = q2 → (execOp ρ o4).run P w = .ok (.value v2) w) ∧
    ((∀ ρ : Operand → Value, ρ (.tmp s2) = v1 → ρ (.tmp s4) = v2 → (execOp ρ o5).run P w = .ok (.value (.bool e')) w) ∧ R w ∨
      ∃ f, (∀ ρ : Operand → Value, (∀ k, ρ (.func k) = .func (.func k) #[] #[]) → ρ (.tmp s2) = v1 → ρ (.tmp s4) = v2 → (execOp ρ o5).run P w = .ok (.enter f #[v1, v2]) w) ∧ Calls P f #[v1, v2] w fun e w' => e = .returned (.bool e') ∧ R w')
/-- One test more, behind a chain that came to e. -/
theorem chain_test {n i d s1 s2 s3 s4 s5 s6 d' : Nat} {pA pB : Value} {e e' : Bool} {a : Act} {w : World} {o1 o2 o3 o4 o5 o6 o7 : Oper} {rest : List Oper} {R : World → Prop}
    (ha : CInv n pA pB a d e) (hi : (ops[i]?).bind (·.dst) = some d) (hap : apart5 n d s1 s2 s3 s4 s5 s6 d' = true)
    (g1 : o1.guard = some (i, true)) (g2 : o2.guard = some (i, true)) (g3 : o3.guard = some (i, true)) (g4 : o4.guard = some (i, true)) (g5 : o5.guard = some (i, true)) (g6 : o6.guard = none) (g7 : o7.guard = none)
    (d1 : o1.dst = some s1) (d2 : o2.dst = some s2) (d3 : o3.dst = some s3) (d4 : o4.dst = some s4) (d5 : o5.dst = some s5) (d6 : o6.dst = some s6) (d7 : o7.dst = some d')
    (h6 : o6.op = .pick (.tmp d) (.tmp s5) (.const (.bool false))) (h7 : o7.op = .move (.tmp s6) ∨ o7.op = .assign (.tmp s6)) (ht : Test5 P pA pB o1 o2 o3 o4 o5 s1 s2 s3 s4 e' w R) (hR : R w)
    (h : ∀ a' w', CInv n pA pB a' d' (e && e') → R w' → wpList P ops Q rest a' w') : wpList P ops Q (o1 :: o2 :: o3 :: o4 :: o5 :: o6 :: o7 :: rest) a w := by
  simp only [apart5, List.all_cons, List.all_nil, Bool.and_true, Bool.and_eq_true, bne_iff_ne, ne_eq, decide_eq_true_eq] at hap
  obtain ⟨⟨⟨⟨⟨⟨l1, m1⟩, k1⟩, ⟨⟨l2, m2⟩, k2⟩, ⟨⟨l3, m3⟩, k3⟩, ⟨⟨l4, m4⟩, k4⟩, ⟨⟨l5, m5⟩, k5⟩, ⟨⟨l6, m6⟩, k6⟩, ⟨l7, m7⟩, k7⟩, c1, c2, c3, c4, c5⟩, x23⟩, x24⟩ := hap
  -- the last two operations, whatever the five left
  have tail : ∀ (b : Act) (w' : World) (u : Value), CInv n pA pB b d e → b.tmps[s5]? = some u → (e = true → u = .bool e') → R w' → wpList P ops Q (o6 :: o7 :: rest) b w' := by
    intro b w' u hb b5 hu hRw
    have r6 : (execOp b.eval o6).run P w' = .ok (.value (.bool (e && e'))) w' := by
      cases e with
      | true =>
        have hu' := hu rfl
        subst hu'
        simp only [execOp, h6, eval_get hb.tb, eval_get b5]
        simp [asBool]
      | false =>
        simp only [execOp, h6, eval_get hb.tb]
        simp [asBool, Act.eval]
    refine step_val (want_none g6) r6 ?_
    rw [d6]
    have e6 := hb.at (.bool (e && e')) l6
    have z6 : (b.put (some s6) (.bool (e && e'))).tmps.size = n ∧ (b.put (some s6) (.bool (e && e'))).defers = [] ∧ (b.put (some s6) (.bool (e && e'))).tmps[2]? = some pA ∧ (b.put (some s6) (.bool (e && e'))).tmps[3]? = some pB := ⟨by rw [put_size, hb.size], hb.defers, put_get m6 hb.t2, put_get k6 hb.t3⟩
    generalize b.put (some s6) (.bool (e && e')) = b6 at e6 z6 ⊢
    obtain ⟨y1, y2, y3, y4⟩ := z6
    have r7 : (execOp b6.eval o7).run P w' = .ok (.value (.bool (e && e'))) w' := by
      rcases h7 with h7 | h7 <;> simp only [execOp, h7, eval_get e6, Sem.run_pure]
    refine step_val (want_none g7) r7 ?_
    rw [d7]
    exact h _ _ ⟨by rw [put_size, y1], y2, put_get m7 y3, put_get k7 y4, put_same (by rw [y1]; exact l7)⟩ hRw
  cases e with
  | false =>
    refine step_skip (want_of g1 hi ha.tb) ?_
    rw [d1]
    have ha1 := ha.put undef m1 k1 c1
    generalize a.put (some s1) undef = a1 at ha1 ⊢
    refine step_skip (want_of g2 hi ha1.tb) ?_
    rw [d2]
    have ha2 := ha1.put undef m2 k2 c2
    generalize a1.put (some s2) undef = a2 at ha2 ⊢
    refine step_skip (want_of g3 hi ha2.tb) ?_
    rw [d3]
    have ha3 := ha2.put undef m3 k3 c3
    generalize a2.put (some s3) undef = a3 at ha3 ⊢
    refine step_skip (want_of g4 hi ha3.tb) ?_
    rw [d4]
    have ha4 := ha3.put undef m4 k4 c4
    generalize a3.put (some s4) undef = a4 at ha4 ⊢
    refine step_skip (want_of g5 hi ha4.tb) ?_
    rw [d5]
    have ha5 := ha4.put undef m5 k5 c5
    have e5 := ha4.at undef l5
    generalize a4.put (some s5) undef = a5 at ha5 e5 ⊢
    exact tail _ _ undef ha5 e5 (fun f => by cases f) hR
  | true =>
    obtain ⟨q1, v1, q2, v2, x1, x2, x3, x4, x5⟩ := ht
    refine step_val (want_of g1 hi ha.tb) (x1 _ (eval_get ha.t2)) ?_
    rw [d1]
    have ha1 := ha.put q1 m1 k1 c1
    have e1 := ha.at q1 l1
    generalize a.put (some s1) q1 = a1 at ha1 e1 ⊢
    refine step_val (want_of g2 hi ha1.tb) (x2 _ (eval_get e1)) ?_
    rw [d2]
    have ha2 := ha1.put v1 m2 k2 c2
    have e2 := ha1.at v1 l2
    generalize a1.put (some s2) v1 = a2 at ha2 e2 ⊢
    refine step_val (want_of g3 hi ha2.tb) (x3 _ (eval_get ha2.t3)) ?_
    rw [d3]
    have ha3 := ha2.put q2 m3 k3 c3
    have e3 := ha2.at q2 l3
    have e23 := put_get (v := q2) (fun f => x23 f.symm) e2
    generalize a2.put (some s3) q2 = a3 at ha3 e3 e23 ⊢
    refine step_val (want_of g4 hi ha3.tb) (x4 _ (eval_get e3)) ?_
    rw [d4]
    have ha4 := ha3.put v2 m4 k4 c4
    have e4 := ha3.at v2 l4
    have e24 := put_get (v := v2) (fun f => x24 f.symm) e23
    generalize a3.put (some s4) v2 = a4 at ha4 e4 e24 ⊢
    have fin : ∀ w', R w' → wpList P ops Q (o6 :: o7 :: rest) (a4.put o5.dst (.bool e')) w' := by
      intro w' hRw
      rw [d5]
      exact tail _ _ (.bool e') (ha4.put (.bool e') m5 k5 c5) (ha4.at (.bool e') l5) (fun _ => rfl) hRw
    rcases x5 with ⟨x5, hRw⟩ | ⟨f, x5, hcall⟩
    · exact step_val (want_of g5 hi ha4.tb) (x5 _ (eval_get e24) (eval_get e4)) (fin w hRw)
    · refine step_calls (R := fun v w' => v = .bool e' ∧ R w') (want_of g5 hi ha4.tb) (x5 _ (fun _ => rfl) (eval_get e24) (eval_get e4)) (hcall.mono fun e w' ⟨h1, h2⟩ => ⟨_, h1, rfl, h2⟩) ?_
      rintro v w' ⟨rfl, hRw⟩
      exact fin w' hRw
/-- The first test of a chain. -/
theorem chain_first {n s1 s2 s3 s4 s5 d' : Nat} {pA pB : Value} {e' : Bool} {a : Act} {w : World} {o1 o2 o3 o4 o5 o7 : Oper} {rest : List Oper} {R : World → Prop}
    (hs : a.tmps.size = n) (hdf : a.defers = []) (ha2 : a.tmps[2]? = some pA) (ha3 : a.tmps[3]? = some pB) (hap : apart5 n n s1 s2 s3 s4 s5 d' d' = true)
    (g1 : o1.guard = none) (g2 : o2.guard = none) (g3 : o3.guard = none) (g4 : o4.guard = none) (g5 : o5.guard = none) (g7 : o7.guard = none)
    (d1 : o1.dst = some s1) (d2 : o2.dst = some s2) (d3 : o3.dst = some s3) (d4 : o4.dst = some s4) (d5 : o5.dst = some s5) (d7 : o7.dst = some d')
    (h7 : o7.op = .move (.tmp s5)) (ht : Test5 P pA pB o1 o2 o3 o4 o5 s1 s2 s3 s4 e' w R)
    (h : ∀ a' w', CInv n pA pB a' d' e' → R w' → wpList P ops Q rest a' w') : wpList P ops Q (o1 :: o2 :: o3 :: o4 :: o5 :: o7 :: rest) a w := by
  simp only [apart5, List.all_cons, List.all_nil, Bool.and_true, Bool.and_eq_true, bne_iff_ne, ne_eq, decide_eq_true_eq] at hap
  obtain ⟨⟨⟨⟨⟨⟨l1, m1⟩, k1⟩, ⟨⟨l2, m2⟩, k2⟩, ⟨⟨l3, m3⟩, k3⟩, ⟨⟨l4, m4⟩, k4⟩, ⟨⟨l5, m5⟩, k5⟩, ⟨⟨l6, m6⟩, k6⟩, ⟨l7, m7⟩, k7⟩, c1, c2, c3, c4, c5⟩, x23⟩, x24⟩ := hap
  obtain ⟨q1, v1, q2, v2, x1, x2, x3, x4, x5⟩ := ht
  refine step_val (want_none g1) (x1 _ (eval_get ha2)) ?_
  rw [d1]
  have e1 := put_same (v := q1) (show s1 < a.tmps.size by rw [hs]; exact l1)
  have z1 : (a.put (some s1) q1).tmps.size = n ∧ (a.put (some s1) q1).defers = [] ∧ (a.put (some s1) q1).tmps[2]? = some pA ∧ (a.put (some s1) q1).tmps[3]? = some pB := ⟨by rw [put_size, hs], hdf, put_get m1 ha2, put_get k1 ha3⟩
  generalize a.put (some s1) q1 = a1 at e1 z1 ⊢
  obtain ⟨hs, hdf, ha2, ha3⟩ := z1
  refine step_val (want_none g2) (x2 _ (eval_get e1)) ?_
  rw [d2]
  have e2 := put_same (v := v1) (show s2 < a1.tmps.size by rw [hs]; exact l2)
  have z1 : (a1.put (some s2) v1).tmps.size = n ∧ (a1.put (some s2) v1).defers = [] ∧ (a1.put (some s2) v1).tmps[2]? = some pA ∧ (a1.put (some s2) v1).tmps[3]? = some pB := ⟨by rw [put_size, hs], hdf, put_get m2 ha2, put_get k2 ha3⟩
  generalize a1.put (some s2) v1 = a2 at e2 z1 ⊢
  obtain ⟨hs, hdf, ha2, ha3⟩ := z1
  refine step_val (want_none g3) (x3 _ (eval_get ha3)) ?_
  rw [d3]
  have e3 := put_same (v := q2) (show s3 < a2.tmps.size by rw [hs]; exact l3)
  have e23 := put_get (v := q2) (fun f => x23 f.symm) e2
  have z1 : (a2.put (some s3) q2).tmps.size = n ∧ (a2.put (some s3) q2).defers = [] ∧ (a2.put (some s3) q2).tmps[2]? = some pA ∧ (a2.put (some s3) q2).tmps[3]? = some pB := ⟨by rw [put_size, hs], hdf, put_get m3 ha2, put_get k3 ha3⟩
  generalize a2.put (some s3) q2 = a3 at e3 e23 z1 ⊢
  obtain ⟨hs, hdf, ha2, ha3⟩ := z1
  refine step_val (want_none g4) (x4 _ (eval_get e3)) ?_
  rw [d4]
  have e4 := put_same (v := v2) (show s4 < a3.tmps.size by rw [hs]; exact l4)
  have e24 := put_get (v := v2) (fun f => x24 f.symm) e23
  have z1 : (a3.put (some s4) v2).tmps.size = n ∧ (a3.put (some s4) v2).defers = [] ∧ (a3.put (some s4) v2).tmps[2]? = some pA ∧ (a3.put (some s4) v2).tmps[3]? = some pB := ⟨by rw [put_size, hs], hdf, put_get m4 ha2, put_get k4 ha3⟩
  generalize a3.put (some s4) v2 = a4 at e4 e24 z1 ⊢
  obtain ⟨hs, hdf, ha2, ha3⟩ := z1
  have fin : ∀ w', R w' → wpList P ops Q (o7 :: rest) (a4.put o5.dst (.bool e')) w' := by
    intro w' hRw
    rw [d5]
    have e5 := put_same (v := .bool e') (show s5 < a4.tmps.size by rw [hs]; exact l5)
    refine step_val (v := .bool e') (w' := w') (want_none g7) (by simp only [execOp, h7, eval_get e5, Sem.run_pure]) ?_
    rw [d7]
    exact h _ _ ⟨by rw [put_size, put_size, hs], hdf, put_get m7 (put_get m5 ha2), put_get k7 (put_get k5 ha3), put_same (by rw [put_size, hs]; exact l7)⟩ hRw
  rcases x5 with ⟨x5, hRw⟩ | ⟨f, x5, hcall⟩
  · exact step_val (want_none g5) (x5 _ (eval_get e24) (eval_get e4)) (fin w hRw)
  · refine step_calls (R := fun v w' => v = .bool e' ∧ R w') (want_none g5) (x5 _ (fun _ => rfl) (eval_get e24) (eval_get e4)) (hcall.mono fun e w' ⟨h1, h2⟩ => ⟨_, h1, rfl, h2⟩) ?_
    rintro v w' ⟨rfl, hRw⟩
    exact fin w' hRw
end

section
open Go.ChangeShapes Go.WideShapes Go.ChangeAt Go.RowKit
variable {H : Type} {enc : TypeId × Value → H} {P : Program} {w : World}
theorem open_row_ints {t e : TypeId} {k : IntKind} {fuel : Nat} {A : Option Addr} {len cap : Nat} {x : DataW H × List MemPlace} (ht : P.underlying t = some (.slice e)) (he : P.underlying e = some (.int k)) (hc : P.cellsOf e = 1)
    (h : DataW.trod enc P w 0 (fun _ => true) true fuel t [.slice A len cap] = some x) :
    ∃ zs : List Int, zs.length = len ∧ len ≤ 9223372036854775807 ∧ RowAt (fun _ => True) w A (zs.map fun z => .int k z) ∧ ∀ z ∈ zs, (Lit.int k z).wf = true := by
  rcases open_ints ht he hc h with ⟨hcs, hx⟩ | ⟨a, len', cap', zs, hcs, _, hl, hm, hz, hx, hcell, hwz⟩
  · simp only [List.cons.injEq, Value.slice.injEq, and_true] at hcs
    obtain ⟨rfl, rfl, rfl⟩ := hcs
    exact ⟨[], rfl, by omega, .nil _ _ _, by simp⟩
  · simp only [List.cons.injEq, Value.slice.injEq, and_true] at hcs
    obtain ⟨rfl, rfl, rfl⟩ := hcs
    simp only [if_true] at hz
    unfold maxLen at hm
    refine ⟨zs.take len, by simp; omega, by omega, ?_, fun z hz => hwz z (List.mem_of_mem_take hz)⟩
    by_cases h0 : len = 0
    · subst h0
      simp only [List.take_zero, List.map_nil]
      exact .nil _ _ _
    · obtain ⟨b, o, spot⟩ := a
      have hs : spot = none := by simpa [Addr.add] using World.cell?_spot (hcell 0 (by omega))
      subst hs
      refine .inr ⟨b, o, rfl, trivial, fun j v hj => ?_⟩
      simp only [List.getElem?_map, Option.map_eq_some_iff] at hj
      obtain ⟨z, hz', rfl⟩ := hj
      have hj' := (List.getElem?_eq_some_iff.1 hz').1
      rw [List.length_take] at hj'
      rw [List.getElem?_take_of_lt (by omega)] at hz'
      have h1 := hcell j (by omega)
      rw [add_plain, List.getD, hz'] at h1
      exact h1
end

section
open Go.RowKit
set_option linter.unusedVariables false
section
variable {P : Program}
theorem append_nothing (w : World) (base : Nat) (t ty e : TypeId) (i : TypeInfo) (size : Nat) (ht : P.underlying t = some (.slice e)) (hi : P.info? e = some i)
    (v : Value) (n : Nat) (xs : List Value) (hown : w.ownsRow base e size v n xs) (c : Nat) : (Builtin.append_ #[t, t] ty #[v, .slice none 0 c]).run P w = .ok v w := by
  rcases hown.2 with ⟨rfl, rfl⟩ | ⟨g, cap, cur, rfl, _, _, hn, _⟩
  · simp [Builtin.append_, run_underlying ht, sizeOf, typeInfo, hi, Builtin.lenOf, Builtin.firstCells]
  · simp [Builtin.append_, run_underlying ht, sizeOf, typeInfo, hi, Builtin.lenOf, Builtin.firstCells, hn, storeCells]
/-- append, whatever the source: nil, empty, or a row. -/
theorem run_append_row {S : Nat → Prop} (w : World) (base : Nat) (t ty e : TypeId) (i : TypeInfo) (z : Value) (size bytes : Nat) (ht : P.underlying t = some (.slice e)) (hi : P.info? e = some i) (hz : i.zero = some z)
    (hsize : i.size = size) (hby : i.bytes = bytes) (hzs : z.cells.size = size) (hsz : 0 < size) (v : Value) (n : Nat) (xs : List Value) (hown : w.ownsRow base e size v n xs)
    (A : Option Addr) (m c : Nat) (news : List Value) (hr : RowAt S w A news) (hl : news.length = m * size) (h1 : ∀ u ∈ news, u.oneCell' = true)
    (h63 : n + m ≤ maxLen) (hbytes : (n + m) * bytes ≤ 140737488355328) (hbase : base ≤ w.heap.size) :
    ∃ v' w', (Builtin.append_ #[t, t] ty #[v, .slice A m c]).run P w = .ok v' w' ∧ w'.ownsRow base e size v' (n + m) (xs ++ news) ∧ w.grownBy w' v.ownBlock ∧ (v'.ownBlock = v.ownBlock ∨ v'.ownBlock = some w.heap.size) := by
  have some_ : ∀ ad : Addr, A = some ad → (∀ j u, news[j]? = some u → w.cell? (ad.add j) = some u) → ∃ v' w', (Builtin.append_ #[t, t] ty #[v, .slice A m c]).run P w = .ok v' w' ∧ w'.ownsRow base e size v' (n + m) (xs ++ news) ∧ w.grownBy w' v.ownBlock ∧ (v'.ownBlock = v.ownBlock ∨ v'.ownBlock = some w.heap.size) := by
    intro ad e1 hc
    subst e1
    obtain ⟨v', w', a1, a2, a3, _, a5⟩ := run_append_own_at (P := P) w base t ty e i z size bytes ht hi hz hsize hby hzs hsz v n xs hown ad m c news hl hc h1 h63 hbytes hbase
    exact ⟨v', w', a1, a2, a3, a5⟩
  rcases hr with h0 | ⟨b, o, e1, _, hc⟩
  · subst h0
    cases A with
    | some ad => exact some_ ad rfl (fun j u hj => by simp at hj)
    | none =>
      have hm : m = 0 := by
        rcases Nat.mul_eq_zero.1 hl.symm with h | h
        · exact h
        · omega
      subst hm
      exact ⟨v, w, append_nothing w base t ty e i size ht hi v n xs hown c, by simpa using hown, World.grownBy.refl w _, .inl rfl⟩
  · exact some_ _ e1 (fun j u hj => by rw [Addr.add_lit]; exact hc j u hj)
end
/-- A part: where it lies, its capacity, its cells. -/
def partVal (p : Option Addr × Nat × List Value) : Value := .slice p.1 p.2.2.length p.2.1
def partsAll (l : List (Option Addr × Nat × List Value)) : List Value := l.flatMap fun p => p.2.2
theorem partsAll_snoc {l : List (Option Addr × Nat × List Value)} {k : Nat} {p : Option Addr × Nat × List Value} (h : l[k]? = some p) : partsAll (l.take (k + 1)) = partsAll (l.take k) ++ p.2.2 := by
  obtain ⟨hl, e⟩ := List.getElem?_eq_some_iff.1 h
  rw [List.take_succ_eq_append_getElem hl, e]
  simp [partsAll]
theorem partsAll_le (l : List (Option Addr × Nat × List Value)) (k : Nat) : (partsAll (l.take k)).length ≤ (partsAll l).length := by
  have : partsAll l = partsAll (l.take k) ++ partsAll (l.drop k) := by rw [partsAll, partsAll, partsAll, ← List.flatMap_append, List.take_append_drop]
  rw [this, List.length_append]
  omega
end

section
open Go.RowKit
set_option linter.unusedVariables false
theorem infoKU8 : (Tryz.prog.info? 5).map (fun i => (i.zero, i.size, i.bytes)) = some (some (.int .u8 0), 1, 1) := by kernel_rfl
set_option maxRecDepth 100000 in
theorem clone_okU8 {S : Nat → Prop} {w : World} {A : Option Addr} {n c : Nat} (cs : List Value) (hrow : RowAt S w A cs) (hl : cs.length = n * 1) (h1 : ∀ u ∈ cs, u.oneCell' = true) (hn : n ≤ 100000000) :
    Calls Tryz.prog 25 #[.slice A n c] w fun e w' => ∃ v, e = .returned v ∧ w'.ownsRow w.heap.size 5 1 v n cs ∧ Mod No w w' := by
  cases A with
  | none =>
    have hcs : cs = [] := by
      rcases hrow with h | ⟨b, o, e, _⟩
      · exact h
      · cases e
    have hn0 : n = 0 := by rw [hcs] at hl; simp at hl; omega
    subst hcs
    subst hn0
    clear hrow hl h1 hn
    have hq : ∀ W, (binOp .eql 40 (.slice none 0 c) (.slice none 0 0)).run Tryz.prog W = .ok (.bool true) W := fun W => Lib.run_eql_slice_nil W 40 _ none 0 c 0 0 Tryz.underlying40
    go_enter Tryz.func25, Tryz.ntmps25
    go_wp2
    go_ret
    exact ⟨_, rfl, ⟨rfl, .inl ⟨rfl, rfl⟩⟩, Mod.refl _ _⟩
  | some ad =>
    have hq : ∀ W, (binOp .eql 40 (.slice (some ad) n c) (.slice none 0 0)).run Tryz.prog W = .ok (.bool false) W := fun W => Lib.run_eql_slice_nil W 40 _ (some ad) n c 0 0 Tryz.underlying40
    obtain ⟨i0, hi, hz0, hz1, hz2⟩ := info_parts infoKU8
    have hr1 := hrow.keeps (((Mod.refl No w).alloc (.cells #[] 5)).keeps (fun _ _ _ f => f))
    have ho : (w.alloc (.cells #[] 5)).ownsRow w.heap.size 5 1 (.slice (some ⟨w.heap.size, 0, none⟩) 0 0) 0 [] :=
      ⟨rfl, .inr ⟨w.heap.size, 0, #[], rfl, Nat.le_refl _, at10 w _, Nat.le_refl _, by decide, rfl, rfl⟩⟩
    obtain ⟨v2, w2, hrun, ho2, hg2, hb2⟩ := run_append_row (P := Tryz.prog) (w.alloc (.cells #[] 5)) w.heap.size 40 40 5 i0 _ 1 1 Tryz.underlying40 hi hz0 hz1 hz2 (by simp [Value.cells]) (by decide) _ _ _ ho (some ad) n c cs hr1 hl h1 (by unfold maxLen; omega) (by omega) (by simp)
    rw [Nat.zero_add, List.nil_append] at ho2
    have hm2 : Mod No w w2 := ((Mod.refl No w).alloc (.cells #[] 5)).trans' (F := No) (G := fun b => b = w.heap.size) (Mod.grown (Mod.refl _ _) hg2 (fun q hq => .inr (by simpa [Value.ownBlock] using hq.symm))) (fun i hi hg => by omega)
    have HF := Lib.hid (And.intro ho2 hm2)
    clear hrow hl h1 hr1 ho ho2 hg2 hb2 hm2 hi hz0 hz1 hz2
    go_enter Tryz.func25, Tryz.ntmps25
    go_wp2_with (at_builtin; refine Lib.wpList_append_run _ (by rfl) _ _ _ _ (by rfl) _ _ (by rfl) (by rfl) _ _ hrun ?_)
    go_ret
    exact ⟨_, rfl, HF.out.1, HF.out.2⟩
end

section
open Go.RowKit
set_option linter.unusedVariables false
theorem infoCU8 : (Tryz.prog.info? 5).map (fun i => (i.zero, i.size, i.bytes)) = some (some (.int .u8 0), 1, 1) := by kernel_rfl
set_option maxRecDepth 100000 in
theorem grow_nilU8 {w : World} (n : Nat) (hn : n ≤ 100000000) :
    Calls Tryz.prog 40 #[.slice none 0 0, .int .i64 n] w fun e w' => ∃ v, e = .returned v ∧ w'.ownsRow w.heap.size 5 1 v 0 [] ∧ Mod No w w' := by
  by_cases h0 : n = 0
  · subst h0
    go_enter Tryz.func40, Tryz.ntmps40
    go_wp2
    go_ret
    exact ⟨_, rfl, ⟨rfl, .inl ⟨rfl, rfl⟩⟩, Mod.refl _ _⟩
  · obtain ⟨i0, hi, hz0, hz1, hz2⟩ := info_parts infoCU8
    have hn0 : 0 < n := by omega
    have hrz : ∀ ty, (Builtin.append_ #[40, 3] ty #[.slice none 0 0, .int .i64 n]).run Tryz.prog w =
        .ok (.slice (some ⟨w.heap.size, 0, none⟩) n (grownCap w n 0 5)) (w.drew.alloc (.cells (([] : List Value).toArray ++ Builtin.zeroCells (.int .u8 0 : Value).cells (n - 0) ++ Builtin.zeroCells (.int .u8 0 : Value).cells (grownCap w n 0 5 - n)) 5)) := fun ty => by
      have h := Lib.run_append_grow_zeros w 40 3 ty 5 i0 (.int .u8 0) .i64 .i64 Tryz.underlying40 Tryz.underlying3 hi hz0 none 0 0 [] (by rw [hz1]; exact run_firstCells_none w.drew 1 0 0 0) n hn0 (by rw [hz1]; decide) (by omega) (by omega) (by rw [hz2]; omega) (by rw [hz2, Nat.zero_add]; exact growslice_fits hn0 (by omega))
      rw [Nat.zero_add] at h
      exact h
    have hG1 := grownCap_ge w n 0 5
    have hG2 := grownCap_le_maxLen w n 0 5 (by unfold maxLen; omega)
    obtain ⟨G, hG⟩ : ∃ G, G = grownCap w n 0 5 := ⟨_, rfl⟩
    rw [← hG] at hrz hG1 hG2
    have hsz : (([] : List Value).toArray ++ Builtin.zeroCells (.int .u8 0 : Value).cells (n - 0) ++ Builtin.zeroCells (.int .u8 0 : Value).cells (G - n)).size = G * 1 := by
      have hz : ∀ k, (Builtin.zeroCells (.int .u8 0 : Value).cells k).size = k := fun k => by unfold Builtin.zeroCells; rw [Array.size_map, Array.size_range]; simp [Value.cells]
      rw [Array.size_append, Array.size_append, hz, hz]
      simp
      omega
    obtain ⟨X, hX⟩ : ∃ X, X = ([] : List Value).toArray ++ Builtin.zeroCells (.int .u8 0 : Value).cells (n - 0) ++ Builtin.zeroCells (.int .u8 0 : Value).cells (G - n) := ⟨_, rfl⟩
    rw [← hX] at hrz hsz
    have p1 : (0 : Int) < n := by omega
    have p2 : ¬ (n : Int) < 0 := by omega
    have H := Lib.hid (And.intro hsz (And.intro hG1 hG2))
    unfold maxLen at hG2
    clear hG hX hsz hi hz0 hz1 hz2 h0 hn0
    go_enter Tryz.func40, Tryz.ntmps40
    go_wp2_with (at_builtin; refine Lib.wpList_append_run _ (by rfl) _ _ _ _ (by rfl) _ _ (by rfl) (by rfl) _ _ (hrz _) ?_)
    go_ret
    refine ⟨_, rfl, ⟨rfl, .inr ⟨w.heap.size, G, X, rfl, Nat.le_refl _, at10 w.drew _, by omega, H.out.2.2, H.out.1, rfl⟩⟩, (Mod.refl _ w).drew.alloc _⟩
set_option maxRecDepth 100000 in
theorem concat_okU8 {S : Nat → Prop} {w : World} (l : List (Option Addr × Nat × List Value)) {Q : Option Addr} {q : Nat} (hQ : RowAt S w Q (l.map partVal)) (hl : l.length ≤ 1000) (hS : ∀ b, S b → b < w.heap.size)
    (hrows : ∀ p ∈ l, RowAt S w p.1 p.2.2 ∧ ∀ u ∈ p.2.2, u.oneCell' = true) (hall : (partsAll l).length ≤ 100000000) :
    Calls Tryz.prog 16 #[.slice Q l.length q] w fun e w' => ∃ v, e = .returned v ∧ w'.ownsRow w.heap.size 5 1 v (partsAll l).length (partsAll l) ∧ Mod No w w' := by
  obtain ⟨n, hn⟩ : ∃ n, n = l.length := ⟨_, rfl⟩
  rw [← hn] at hl
  rw [← hn]
  have H0 := Lib.hid (And.intro hQ (And.intro hn (And.intro hS (And.intro hrows hall))))
  clear hQ hn hS hrows hall
  obtain ⟨i0, hi, hz0, hz1, hz2⟩ := info_parts infoCU8
  go_enter Tryz.func16, Tryz.ntmps16
  go_wp2
  go_loopw [3, 5, 11] (fun t x i wr => ∃ (k m : Nat), i = .int .i64 k ∧ k ≤ n ∧ t = .int .i64 m ∧ m = (partsAll (l.take k)).length ∧ w = wr) (fun _ _ i _ => n - (intOf i).toNat)
  case atStart => exact ⟨0, 0, rfl, by omega, rfl, by simp [partsAll], rfl⟩
  case round =>
    obtain ⟨k, m, rfl, hk, rfl, hm, rfl⟩ := hrel
    by_cases hlt : k < n
    · obtain ⟨p, hp⟩ : ∃ p, l[k]? = some p := ⟨_, List.getElem?_eq_getElem (by have := H0.out.2.1; omega)⟩
      have hpc : (l.map partVal)[k]? = some (partVal p) := by simp [hp]
      obtain ⟨b, o, rfl, _, _, hcell⟩ := H0.out.1.open (by intro e; rw [e] at hpc; simp at hpc)
      have hc0 := hcell k _ hpc
      unfold partVal at hc0
      obtain ⟨A, c, xs⟩ := p
      simp only at hc0
      have hs := partsAll_snoc hp
      have hs' := congrArg List.length hs
      rw [List.length_append, ← hm] at hs'
      simp only at hs'
      have hle := partsAll_le l (k + 1)
      have hall := H0.out.2.2.2.2
      have p1 : (0:Int) ≤ k := by omega
      have p2 : (k:Int) < n := by omega
      have p3 : (0:Int) ≤ (m : Int) + (xs.length : Int) := by omega
      have p4 : (m : Int) + (xs.length : Int) ≤ 100000000 := by omega
      have p5 : ¬ ((m : Int) + (xs.length : Int) < 0) := by omega
      have p6 : IntKind.i64.wrap ((m : Int) + (xs.length : Int)) = (m : Int) + (xs.length : Int) := IntWalk.i64_in _ (by omega)
      have HS := Lib.hid hs'
      clear hp hpc hcell hs hs' hle hall hm
      go_wp2
      exact ⟨⟨k + 1, m + xs.length, by go_num, by omega, by go_num, HS.out.symm, by first | rfl | trivial⟩, by simp [intOf]; omega⟩
    · have hk' : k = n := by omega
      subst hk'
      have hml : m ≤ 100000000 := by rw [hm]; exact Nat.le_trans (partsAll_le l k) H0.out.2.2.2.2
      have HG := Lib.hid (grow_nilU8 (w := w) m hml)
      clear hm
      go_wp2_with (first | (go_at_call 40; refine HG.out.mono ?_; rintro e w1 ⟨v1, rfl, ho1, hm1⟩; have H1 := Lib.hid (And.intro ho1 hm1); clear ho1 hm1) | fail)
      go_loopw [6, 8, 27] (fun t x i wr => ∃ (j : Nat) (v : Value), i = .int .i64 j ∧ j ≤ k ∧ v = t ∧ wr.ownsRow w.heap.size 5 1 v (partsAll (l.take j)).length (partsAll (l.take j)) ∧ Mod No w wr) (fun _ _ i _ => k - (intOf i).toNat)
      case atStart => exact ⟨0, v1, rfl, by omega, rfl, by simpa [partsAll] using H1.out.1, H1.out.2⟩
      case round =>
        obtain ⟨j, v, rfl, hj, rfl, how, hmw⟩ := hrel
        by_cases hlt : j < k
        · obtain ⟨p, hp⟩ : ∃ p, l[j]? = some p := ⟨_, List.getElem?_eq_getElem (by have := H0.out.2.1; omega)⟩
          have hpc : (l.map partVal)[j]? = some (partVal p) := by simp [hp]
          have hkp : Keeps S w wr := hmw.keeps (fun _ _ _ f => f)
          obtain ⟨b, o, rfl, _, _, hcell⟩ := (H0.out.1.keeps hkp).open (by intro e; rw [e] at hpc; simp at hpc)
          have hc0 := hcell j _ hpc
          unfold partVal at hc0
          obtain ⟨A, c, xs⟩ := p
          simp only at hc0
          have hrw := H0.out.2.2.2.1 _ (List.mem_of_getElem? hp)
          have hs := partsAll_snoc hp
          have hle := partsAll_le l (j + 1)
          have hall := H0.out.2.2.2.2
          rw [hs, List.length_append] at hle
          obtain ⟨v2, w2, hrun, ho2, hg2, hb2⟩ := run_append_row (P := Tryz.prog) wr w.heap.size 40 40 5 i0 _ 1 1 Tryz.underlying40 hi hz0 hz1 hz2 rfl (by decide) v _ _ how A xs.length c xs (hrw.1.keeps hkp) (by rw [Nat.mul_one]) hrw.2 (by unfold maxLen; simp only at hle; omega) (by simp only at hle; omega) hmw.size
          have hfin : w2.ownsRow w.heap.size 5 1 v2 (partsAll (l.take (j + 1))).length (partsAll (l.take (j + 1))) := by
            rw [hs, List.length_append]; exact ho2
          have hm2 : Mod No w w2 := hmw.trans' (F := No) (G := fun b => v.ownBlock = some b) (Mod.grown (Mod.refl _ _) hg2 (fun q hq => .inr hq)) (fun i hi hg => by
            rcases how.2 with ⟨rfl, _⟩ | ⟨g, _, _, rfl, hge, _⟩
            · simp [Value.ownBlock] at hg
            · simp [Value.ownBlock] at hg; omega)
          have HF := Lib.hid (And.intro hfin hm2)
          have p1 : (0:Int) ≤ j := by omega
          have p2 : (j:Int) < k := by omega
          clear hp hpc hcell hrw hs hle hall how hkp ho2 hg2 hb2 hfin hm2 hmw
          go_wp2_with (at_builtin; refine Lib.wpList_append_run _ (by rfl) _ _ _ _ (by rfl) _ _ (by rfl) (by rfl) _ _ hrun ?_)
          exact ⟨⟨j + 1, v2, by go_num, by omega, by simp, HF.out.1, HF.out.2⟩, by simp [intOf]; omega⟩
        · have hj' : j = k := by omega
          subst hj'
          have hlk := H0.out.2.1
          rw [hlk, List.take_length] at how
          have HF := Lib.hid (And.intro how hmw)
          clear how hmw hlk
          go_wp2
          go_ret
          exact ⟨_, rfl, HF.out.1, HF.out.2⟩
end

end Go.Proofs.YtpkieilmlnlpkaaGreat
