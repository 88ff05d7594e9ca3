/-
  Lib, CfgA, CfgE, Chain, Open, App, AppF, SliceG, OpenG, GMap, GIter, Post, DfPure, CfgG, OpenT, CfgH, CfgN, CfgP, CfgI, CfgJ, CfgR, CfgS, RdA, RdP, RdQ, CfgL, CfgV, RdD, CfgW, CfgX, OpenC, RdE, RdF, LawH, RdG, RdH, LawF, LawE, SeatA, OwnL, DfA, DfB, DfF, DfH, DfJ, DfN in one text (pack.py).
-/
import Derived.WalkKit
import Derived.ProofKit
import Derived.Maps.Keyed
import Derived.Deep.Draws
import Derived.Test.YtfpfpeachmcfeaaDoorRows
import Derived.Test.YtfpfpeachmcfeaaDoorChecked
import Derived.Deep.LoopGhost
import Derived.Deep.QuietTactic
import Derived.Deep.RegionHeld3
import Derived.Deep.AppendLies
import Derived.Deep.RegionLaw
import Derived.Laws.CopyOwn
import Derived.Laws.IdiomStrings
import Derived.Lib.SlBytesRow
import Derived.BigQuiet
import Derived.WalkSpells
import Derived.Lib.Hide
import Derived.Outline
import Derived.Maps.AppendAt
import Derived.Deep.DeepCutAuto
import Derived.StillTailTactics
import Derived.ChangeSame
import Derived.ChangeSlices
import Derived.WideShapes
import Derived.Deep.SlicePairs
import Derived.Lib.AppendZerosOnto
import Derived.Lib.AppendZeros
import Derived.Deep.AppendSrc
import Derived.Laws.AppendOwn
import Derived.Deep.Slices
import Derived.Maps.RangeRun
import Derived.Below
import Derived.ReadAgain
import Derived.Handed
import Derived.OpenShut
import Derived.Lib.SliceRun
import Derived.Ground.GgzProg
import Derived.Stop.BytesEq
import Derived.Laws.Rows
import Derived.Lib.BufferRead
import Derived.Deep.MidRow
import Derived.Great.BuildSlice
import Derived.Deep.DrawnRows
import Derived.Deep.CutBlock
import Derived.Deep.CutRange
import Derived.Sort.Walk0
namespace Go.Proofs.YtfpfpeachmcfeaaDoor

section
open Go.RowKit Go.MapKept Go.ChangeMaps
set_option linter.unusedVariables false
/-! ### which blocks may have turned -/
/-- Of the blocks that were there only those of F may have turned; new ones may have come. -/
structure Mod (F : Nat → Prop) (w w' : World) : Prop where
  os : w'.os = w.os
  tape : w'.tape = w.tape
  output : w'.output = w.output
  size : w.heap.size ≤ w'.heap.size
  block : ∀ b, b < w.heap.size → ¬ F b → w'.heap[b]? = w.heap[b]?
def No : Nat → Prop := fun _ => False
theorem Mod.refl (F : Nat → Prop) (w : World) : Mod F w w := ⟨rfl, rfl, rfl, Nat.le_refl _, fun _ _ _ => rfl⟩
theorem Mod.trans {F : Nat → Prop} {a b c : World} (h : Mod F a b) (k : Mod F b c) : Mod F a c :=
  ⟨k.os.trans h.os, k.tape.trans h.tape, k.output.trans h.output, Nat.le_trans h.size k.size, fun i hi hf => (k.block i (Nat.lt_of_lt_of_le hi h.size) hf).trans (h.block i hi hf)⟩
/-- What is turned later, if it was there before, is F's. -/
theorem Mod.trans' {F G : Nat → Prop} {a b c : World} (h : Mod F a b) (k : Mod G b c) (hg : ∀ i, i < a.heap.size → G i → F i) : Mod F a c :=
  ⟨k.os.trans h.os, k.tape.trans h.tape, k.output.trans h.output, Nat.le_trans h.size k.size, fun i hi hf => (k.block i (Nat.lt_of_lt_of_le hi h.size) (fun g => hf (hg i hi g))).trans (h.block i hi hf)⟩
theorem Mod.mono {F G : Nat → Prop} {a b : World} (h : Mod F a b) (hg : ∀ i, F i → G i) : Mod G a b := ⟨h.os, h.tape, h.output, h.size, fun i hi hf => h.block i hi (fun g => hf (hg i g))⟩
theorem Mod.drew {F : Nat → Prop} {a w : World} (h : Mod F a w) : Mod F a w.drew := ⟨h.os, h.tape, h.output, h.size, h.block⟩
theorem Mod.alloc {F : Nat → Prop} {a w : World} (h : Mod F a w) (o : Obj) : Mod F a (w.alloc o) :=
  h.trans ⟨rfl, rfl, rfl, by simp, fun k hk _ => Below.heap_alloc _ _ _ (by omega)⟩
theorem Mod.setCell {F : Nat → Prop} {a w : World} (h : Mod F a w) {p : Addr} (hp : a.heap.size ≤ p.block ∨ F p.block) (u : Value) : Mod F a (w.setCell p u) :=
  h.trans' (G := fun b => b = p.block) ⟨rfl, rfl, rfl, by simp [World.setCell], fun k hk hf => Below.heap_setCell _ _ _ _ hf⟩ (fun i hi hg => by subst hg; rcases hp with hp | hp; omega; exact hp)
theorem Mod.setBlock {F : Nat → Prop} {a w : World} (h : Mod F a w) {b : Nat} (hp : a.heap.size ≤ b ∨ F b) (o : Obj) : Mod F a (setBlock w b o) :=
  h.trans' (G := fun x => x = b) ⟨rfl, rfl, rfl, by simp [ChangeMaps.setBlock], fun k hk hf => by
    have hf : ¬ b = k := fun e => hf e.symm
    simp [ChangeMaps.setBlock, hf]⟩ (fun i hi hg => by subst hg; rcases hp with hp | hp; omega; exact hp)
theorem Mod.grown {F : Nat → Prop} {a w w' : World} {row : Option Nat} (h : Mod F a w) (hg : w.grownBy w' row) (hr : ∀ k, row = some k → a.heap.size ≤ k ∨ F k) : Mod F a w' :=
  h.trans' (G := fun k => row = some k) ⟨hg.os, hg.tape, hg.output, hg.size, fun k hk hf => hg.block k hk (fun e => hf e.symm)⟩ (fun i hi hgi => by rcases hr i hgi with h1 | h1; omega; exact h1)
theorem Mod.cell {F : Nat → Prop} {w w' : World} (h : Mod F w w') {p : Addr} {v : Value} (hc : w.cell? p = some v) (hf : ¬ F p.block) : w'.cell? p = some v :=
  (World.cell?_of_block (w := w) (h.block p.block (World.block_lt_of_cell? _ _ hc) hf)).trans hc
theorem Mod.obj {F : Nat → Prop} {w w' : World} (h : Mod F w w') {b : Nat} {o : Obj} (hc : w.heap[b]? = some o) (hf : ¬ F b) : w'.heap[b]? = some o :=
  (h.block b (lt_of_block hc) hf).trans hc
/-! the blocks that a call has just laid -/
theorem at10 (w : World) (a : Obj) : (w.alloc a).heap[w.heap.size]? = some a := by show (w.heap.push a)[w.heap.size]? = some a; simp
theorem at20 (w : World) (a b : Obj) : ((w.alloc a).alloc b).heap[w.heap.size]? = some a := (Below.heap_alloc _ _ _ (by simp)).trans (at10 w a)
theorem at21 (w : World) (a b : Obj) : ((w.alloc a).alloc b).heap[w.heap.size + 1]? = some b := by show ((w.heap.push a).push b)[w.heap.size + 1]? = some b; rw [Array.getElem?_push, if_pos (by simp)]
theorem at30 (w : World) (a b c : Obj) : (((w.alloc a).alloc b).alloc c).heap[w.heap.size]? = some a := (Below.heap_alloc _ _ _ (by simp; omega)).trans (at20 w a b)
theorem at31 (w : World) (a b c : Obj) : (((w.alloc a).alloc b).alloc c).heap[w.heap.size + 1]? = some b := (Below.heap_alloc _ _ _ (by simp)).trans (at21 w a b)
theorem at32 (w : World) (a b c : Obj) : (((w.alloc a).alloc b).alloc c).heap[w.heap.size + 1 + 1]? = some c := by show (((w.heap.push a).push b).push c)[w.heap.size + 2]? = some c; rw [Array.getElem?_push, if_pos (by simp)]
theorem at10d (w : World) (a : Obj) : (w.alloc a).drew.heap[w.heap.size]? = some a := at10 w a
/-- A block that is known whole: its cells; none is frozen. -/
theorem blk_cell {w : World} {b : Nat} {cs : Array Value} {t : TypeId} (h : w.heap[b]? = some (.cells cs t (0, 0))) (j : Nat) : w.cell? ⟨b, j, none⟩ = cs[j]? := by simp [World.cell?, h]
theorem blk_free {w : World} {b : Nat} {cs : Array Value} {t : TypeId} (h : w.heap[b]? = some (.cells cs t (0, 0))) (j : Nat) : w.frozen? ⟨b, j, none⟩ = false := by simp [World.frozen?, h]
/-- The blocks of S are as they were. -/
def Keeps (S : Nat → Prop) (w w' : World) : Prop := ∀ b o, S b → w.heap[b]? = some o → w'.heap[b]? = some o
theorem Keeps.refl (S : Nat → Prop) (w : World) : Keeps S w w := fun _ _ _ h => h
theorem Keeps.trans {S : Nat → Prop} {a b c : World} (h : Keeps S a b) (k : Keeps S b c) : Keeps S a c := fun i o hs ho => k i o hs (h i o hs ho)
theorem Mod.keeps {F S : Nat → Prop} {w w' : World} (h : Mod F w w') (hd : ∀ b, b < w.heap.size → S b → ¬ F b) : Keeps S w w' := fun b o hs ho => h.obj ho (hd b (lt_of_block ho) hs)
/-! ### rows of cells that are read -/
/-- The cells 'cs' stand at the address A, in a block of S. (Of no cells nothing is asked.) -/
def RowAt (S : Nat → Prop) (w : World) (A : Option Addr) (cs : List Value) : Prop :=
  cs = [] ∨ ∃ b o, A = some ⟨b, o, none⟩ ∧ S b ∧ ∀ j v, cs[j]? = some v → w.cell? ⟨b, o + j, none⟩ = some v
theorem RowAt.nil (S : Nat → Prop) (w : World) (A : Option Addr) : RowAt S w A [] := .inl rfl
theorem RowAt.keeps {S : Nat → Prop} {w w' : World} {A : Option Addr} {cs : List Value} (h : RowAt S w A cs) (hk : Keeps S w w') : RowAt S w' A cs := by
  rcases h with h | ⟨b, o, e, hs, hc⟩
  · exact .inl h
  · refine .inr ⟨b, o, e, hs, fun j v hj => ?_⟩
    have h1 := hc j v hj
    have hlt := World.block_lt_of_cell? _ _ h1
    simp only [World.cell?] at h1 ⊢
    cases ho : w.heap[b]? with
    | none => simp [ho] at h1
    | some x => rw [hk b x hs ho]; rw [ho] at h1; exact h1
theorem RowAt.mono {S S' : Nat → Prop} {w : World} {A : Option Addr} {cs : List Value} (h : RowAt S w A cs) (hs : ∀ b, b < w.heap.size → S b → S' b) : RowAt S' w A cs := by
  rcases h with h | ⟨b, o, e, h1, hc⟩
  · exact .inl h
  · cases cs with
    | nil => exact .inl rfl
    | cons c cs => exact .inr ⟨b, o, e, hs b (World.block_lt_of_cell? _ _ (hc 0 c rfl)) h1, hc⟩
/-- Where there is a cell, there is an address. -/
theorem RowAt.open {S : Nat → Prop} {w : World} {A : Option Addr} {cs : List Value} (h : RowAt S w A cs) (hne : cs ≠ []) : ∃ b o, A = some ⟨b, o, none⟩ ∧ S b ∧ b < w.heap.size ∧ ∀ j v, cs[j]? = some v → w.cell? ⟨b, o + j, none⟩ = some v := by
  rcases h with h | ⟨b, o, e, h1, hc⟩
  · exact absurd h hne
  · cases cs with
    | nil => exact absurd rfl hne
    | cons c cs => exact ⟨b, o, e, h1, World.block_lt_of_cell? _ _ (hc 0 c rfl), hc⟩
/-- Elements of k cells each, laid one behind the other: cell j of element i. -/
theorem flat_at {α : Type} (f : α → List Value) (k : Nat) (hk : ∀ x, (f x).length = k) : ∀ (l : List α) (i j : Nat) (x : α), l[i]? = some x → j < k → (l.flatMap f)[i * k + j]? = (f x)[j]?
  | [], i, j, x, h, _ => by simp at h
  | y :: r, 0, j, x, h, hj => by
    obtain rfl : y = x := by simpa using h
    simp only [List.flatMap_cons, Nat.zero_mul, Nat.zero_add]
    rw [List.getElem?_append_left (by rw [hk]; exact hj)]
  | y :: r, i + 1, j, x, h, hj => by
    have h' : r[i]? = some x := by simpa using h
    simp only [List.flatMap_cons]
    rw [List.getElem?_append_right (by rw [hk]; have : (i + 1) * k = i * k + k := Nat.succ_mul i k; omega), hk]
    have e : (i + 1) * k + j - k = i * k + j := by have : (i + 1) * k = i * k + k := Nat.succ_mul i k; omega
    rw [e]
    exact flat_at f k hk r i j x h' hj
theorem flat_length {α : Type} (f : α → List Value) (k : Nat) (hk : ∀ x, (f x).length = k) : ∀ (l : List α), (l.flatMap f).length = l.length * k
  | [] => by simp
  | y :: r => by rw [List.flatMap_cons, List.length_append, hk, flat_length f k hk r, List.length_cons, Nat.succ_mul]; omega
/-- Element i of a row: its address, its cells. -/
theorem RowAt.elem {α : Type} (f : α → List Value) (k : Nat) (hk : ∀ x, (f x).length = k) (hk0 : 0 < k) {S : Nat → Prop} {w : World} {A : Option Addr} {l : List α} (h : RowAt S w A (l.flatMap f)) {i : Nat} {x : α} (hi : l[i]? = some x) :
    ∃ b o, A = some ⟨b, o, none⟩ ∧ S b ∧ b < w.heap.size ∧ ∀ j v, (f x)[j]? = some v → w.cell? ⟨b, o + i * k + j, none⟩ = some v := by
  have hne : l.flatMap f ≠ [] := by
    intro e
    have := flat_length f k hk l
    rw [e] at this
    have hlt := (List.getElem?_eq_some_iff.1 hi).1
    have : 0 < l.length * k := Nat.mul_pos (by omega) hk0
    simp at *
    omega
  obtain ⟨b, o, e, hs, hlt, hc⟩ := h.open hne
  refine ⟨b, o, e, hs, hlt, fun j v hj => ?_⟩
  have hjk : j < k := by rw [← hk x]; exact (List.getElem?_eq_some_iff.1 hj).1
  rw [Nat.add_assoc]
  exact hc _ _ ((flat_at f k hk l i j x hi hjk).trans hj)
/-- What the call owns is a row. -/
theorem RowAt.of_owns {w : World} {base : Nat} {e : TypeId} {size : Nat} {v : Value} {n : Nat} {xs : List Value} (h : w.ownsRow base e size v n xs) : ∃ A c, v = .slice A n c ∧ n ≤ c ∧ RowAt (fun b => base ≤ b) w A xs := by
  have hl := h.1
  rcases h.2 with ⟨rfl, rfl⟩ | ⟨g, cap, cur, rfl, hb, hg, hn, _⟩
  · exact ⟨none, 0, rfl, Nat.le_refl _, .inl (List.eq_nil_of_length_eq_zero (by simpa using hl))⟩
  · refine ⟨_, cap, rfl, hn, .inr ⟨g, 0, rfl, hb, fun j u hj => ?_⟩⟩
    have := h.cells (g := g) rfl j u hj
    rwa [Addr.add_lit] at this
/-- Two lists, element by element. -/
def All2 {α β : Type} (R : α → β → Prop) : List α → List β → Prop
  | [], [] => True
  | x :: l, y :: m => R x y ∧ All2 R l m
  | _, _ => False
theorem All2.length {α β : Type} {R : α → β → Prop} : ∀ {l : List α} {m : List β}, All2 R l m → l.length = m.length
  | [], [], _ => rfl
  | _ :: _, _ :: _, h => by simp [All2.length h.2]
theorem All2.imp {α β : Type} {R R' : α → β → Prop} (hr : ∀ x y, R x y → R' x y) : ∀ {l : List α} {m : List β}, All2 R l m → All2 R' l m
  | [], [], _ => trivial
  | _ :: _, _ :: _, h => ⟨hr _ _ h.1, All2.imp hr h.2⟩
theorem All2.append {α β : Type} {R : α → β → Prop} : ∀ {l l' : List α} {m m' : List β}, All2 R l m → All2 R l' m' → All2 R (l ++ l') (m ++ m')
  | [], _, [], _, _, h => h
  | _ :: _, _, _ :: _, _, h, h' => ⟨h.1, All2.append h.2 h'⟩
theorem All2.set {α β : Type} {R : α → β → Prop} {x : α} {y : β} (hxy : R x y) : ∀ {l : List α} {m : List β} (_ : All2 R l m) (i : Nat), All2 R (l.set i x) (m.set i y)
  | [], [], _, _ => by simp [All2]
  | _ :: _, _ :: _, h, 0 => ⟨hxy, h.2⟩
  | _ :: l, _ :: m, h, i + 1 => ⟨h.1, All2.set hxy h.2 i⟩
/-! ### a map's block -/
section
variable {P : Program} {t k e : TypeId} {w : World} {b : Nat} {es : Array MapEntry} {clock : Nat}
/-- All keys of the block are keys of their type. -/
def KeysOk (P : Program) (k : TypeId) (es : Array MapEntry) : Prop := ∀ x ∈ es.toList, ∃ l, keyOf P k x.key = some l
theorem len_map {ty : TypeId} (ht : P.underlying t = some (.map k e)) (es : Array MapEntry) (clock : Nat) :
    ∀ w : World, w.heap[b]? = some (.map es clock) → (Builtin.len_ #[t] ty #[.map (some b)]).run P w = .ok (.int .i64 es.size) w := by
  intro w hb
  simp [Builtin.len_, run_underlying ht, MapKept.run_getObj_map hb, Result.andThen, goInt]
end
/-! a map's block in new worlds: the walk's simp takes these -/
theorem heap_setBlock_self {w : World} {b : Nat} (o : Obj) (h : b < w.heap.size) : (setBlock w b o).heap[b]? = some o := by
  simp [ChangeMaps.setBlock, h]
theorem size_setBlock {w : World} {b : Nat} (o : Obj) : (setBlock w b o).heap.size = w.heap.size := by simp [ChangeMaps.setBlock]
end

section
open Go.RowKit
set_option linter.unusedVariables false
/-- Bytes as cells. -/
def bcells (l : List UInt8) : List Value := l.map fun b => .int .u8 (b.toNat : Int)
/-- A number's bytes, the highest first. -/
def be : Nat → Nat → List UInt8
  | 0, _ => []
  | k + 1, n => UInt8.ofNat (n / 256 ^ k) :: be k n
/-- What a step of writing turns: the coder's block, its row; the row behind it is that row, or a new one. -/
structure WMod (C : Nat) (v : Value) (w : World) (v' : Value) (w' : World) : Prop where
  mod : Mod (fun b => b = C ∨ v.ownBlock = some b) w w'
  row : ∀ g, v'.ownBlock = some g → v.ownBlock = some g ∨ w.heap.size ≤ g
theorem WMod.refl (C : Nat) (v : Value) (w : World) : WMod C v w v w := ⟨Mod.refl _ _, fun _ h => .inl h⟩
theorem WMod.trans {C : Nat} {v v1 v2 : Value} {w w1 w2 : World} (h : WMod C v w v1 w1) (k : WMod C v1 w1 v2 w2) : WMod C v w v2 w2 :=
  ⟨h.mod.trans' k.mod (fun i hi hg => by
    rcases hg with hg | hg
    · exact .inl hg
    · rcases h.row i hg with h1 | h1
      · exact .inr h1
      · omega), fun g hg => by
    rcases k.row g hg with h1 | h1
    · exact h.row g h1
    · exact .inr (Nat.le_trans h.mod.size h1)⟩
/-- What is neither the coder's block nor its row is as it was. -/
theorem WMod.obj {C : Nat} {v v' : Value} {w w' : World} (h : WMod C v w v' w') {b : Nat} {o : Obj} (hb : w.heap[b]? = some o) (h1 : b ≠ C) (h2 : v.ownBlock ≠ some b) : w'.heap[b]? = some o :=
  h.mod.obj hb (fun f => f.elim h1 h2)
theorem own_mod {w w' : World} {base : Nat} {e : TypeId} {size : Nat} {v : Value} {n : Nat} {xs : List Value} {F : Nat → Prop} (h : w.ownsRow base e size v n xs) (hm : Mod F w w') (hF : ∀ k, v.ownBlock = some k → ¬ F k) : w'.ownsRow base e size v n xs := by
  refine ⟨h.1, ?_⟩
  rcases h.2 with hn | ⟨g, cap, cur, rfl, hb, hgg, rest⟩
  · exact .inl hn
  · exact .inr ⟨g, cap, cur, rfl, hb, hm.obj hgg (hF g rfl), rest⟩
theorem heap_setCell_row {w : World} {g i : Nat} {cur : Array Value} {t : TypeId} (hg : w.heap[g]? = some (.cells cur t (0, 0))) (v : Value) : (w.setCell ⟨g, i, none⟩ v).heap[g]? = some (.cells (cur.setIfInBounds i v) t (0, 0)) := by
  have hlt := lt_of_block hg
  have h' : w.heap[g] = .cells cur t (0, 0) := by simpa [Array.getElem?_eq_getElem hlt] using hg
  show (w.heap.modify g _)[g]? = _
  rw [Array.getElem?_eq_getElem (by simpa using hlt), Array.getElem_modify_self, h']
  rfl
end

section
open Go.RowKit
set_option linter.unusedVariables false
/-! ### names -/
/-- Bytes as a string. -/
def str (l : List UInt8) : ByteArray := ⟨l.toArray⟩
end

section
set_option linter.unusedVariables false
variable {P : Program} {ops : Array Oper} {Q : Exit → Act → World → Prop}
/-- What is known of the frame between two tests: the two operands' addresses, and the slot d that holds what the tests so far came to. -/
structure CInv (n : Nat) (pA pB : Value) (a : Act) (d : Nat) (b : Bool) : Prop where
  size : a.tmps.size = n
  defers : a.defers = []
  t2 : a.tmps[2]? = some pA
  t3 : a.tmps[3]? = some pB
  tb : a.tmps[d]? = some (.bool b)
theorem put_size (a : Act) (d : Nat) (v : Value) : (a.put (some d) v).tmps.size = a.tmps.size := by simp [Act.put]
theorem put_get {a : Act} {d s : Nat} {v u : Value} (h : d ≠ s) (hs : a.tmps[s]? = some u) : (a.put (some d) v).tmps[s]? = some u := by
  simp only [Act.put, Array.getElem?_setIfInBounds, if_neg h]
  exact hs
theorem put_same {a : Act} {d : Nat} {v : Value} (h : d < a.tmps.size) : (a.put (some d) v).tmps[d]? = some v := by
  simp [Act.put, h]
theorem step_val {o : Oper} {rest : List Oper} {a : Act} {w w' : World} {v : Value} (hw : Region.wanted o (yielded ops a.tmps) = true) (hr : (execOp a.eval o).run P w = .ok (.value v) w') (h : wpList P ops Q rest (a.put o.dst v) w') : wpList P ops Q (o :: rest) a w := by
  refine wpList_step fun K hK => ?_
  rw [if_pos hw]
  unfold Oper.wp
  rw [hr]
  exact hK _ _ h
theorem CInv.put {n : Nat} {pA pB : Value} {a : Act} {d : Nat} {b : Bool} (h : CInv n pA pB a d b) {s : Nat} (v : Value) (m : ¬ s = 2) (k : ¬ s = 3) (c : ¬ s = d) : CInv n pA pB (a.put (some s) v) d b :=
  ⟨by rw [put_size, h.size], h.defers, put_get m h.t2, put_get k h.t3, put_get c h.tb⟩
theorem CInv.at {n : Nat} {pA pB : Value} {a : Act} {d : Nat} {b : Bool} (h : CInv n pA pB a d b) {s : Nat} (v : Value) (l : s < n) : (a.put (some s) v).tmps[s]? = some v := put_same (by rw [h.size]; exact l)
end

section
open Go.ChangeShapes Go.WideShapes Go.ChangeAt Go.RowKit
variable {H : Type} {enc : TypeId × Value → H} {P : Program} {w : World}
theorem open_row_ints {t e : TypeId} {k : IntKind} {fuel : Nat} {A : Option Addr} {len cap : Nat} {x : DataW H × List MemPlace} (ht : P.underlying t = some (.slice e)) (he : P.underlying e = some (.int k)) (hc : P.cellsOf e = 1)
    (h : DataW.trod enc P w 0 (fun _ => true) true fuel t [.slice A len cap] = some x) :
    ∃ zs : List Int, zs.length = len ∧ len ≤ 9223372036854775807 ∧ RowAt (fun _ => True) w A (zs.map fun z => .int k z) ∧ ∀ z ∈ zs, (Lit.int k z).wf = true := by
  rcases open_ints ht he hc h with ⟨hcs, hx⟩ | ⟨a, len', cap', zs, hcs, _, hl, hm, hz, hx, hcell, hwz⟩
  · simp only [List.cons.injEq, Value.slice.injEq, and_true] at hcs
    obtain ⟨rfl, rfl, rfl⟩ := hcs
    exact ⟨[], rfl, by omega, .nil _ _ _, by simp⟩
  · simp only [List.cons.injEq, Value.slice.injEq, and_true] at hcs
    obtain ⟨rfl, rfl, rfl⟩ := hcs
    simp only [if_true] at hz
    unfold maxLen at hm
    refine ⟨zs.take len, by simp; omega, by omega, ?_, fun z hz => hwz z (List.mem_of_mem_take hz)⟩
    by_cases h0 : len = 0
    · subst h0
      simp only [List.take_zero, List.map_nil]
      exact .nil _ _ _
    · obtain ⟨b, o, spot⟩ := a
      have hs : spot = none := by simpa [Addr.add] using World.cell?_spot (hcell 0 (by omega))
      subst hs
      refine .inr ⟨b, o, rfl, trivial, fun j v hj => ?_⟩
      simp only [List.getElem?_map, Option.map_eq_some_iff] at hj
      obtain ⟨z, hz', rfl⟩ := hj
      have hj' := (List.getElem?_eq_some_iff.1 hz').1
      rw [List.length_take] at hj'
      rw [List.getElem?_take_of_lt (by omega)] at hz'
      have h1 := hcell j (by omega)
      rw [add_plain, List.getD, hz'] at h1
      exact h1
end

section
open Go.RowKit
set_option linter.unusedVariables false
section
variable {P : Program}
theorem append_nothing (w : World) (base : Nat) (t ty e : TypeId) (i : TypeInfo) (size : Nat) (ht : P.underlying t = some (.slice e)) (hi : P.info? e = some i)
    (v : Value) (n : Nat) (xs : List Value) (hown : w.ownsRow base e size v n xs) (c : Nat) : (Builtin.append_ #[t, t] ty #[v, .slice none 0 c]).run P w = .ok v w := by
  rcases hown.2 with ⟨rfl, rfl⟩ | ⟨g, cap, cur, rfl, _, _, hn, _⟩
  · simp [Builtin.append_, run_underlying ht, sizeOf, typeInfo, hi, Builtin.lenOf, Builtin.firstCells]
  · simp [Builtin.append_, run_underlying ht, sizeOf, typeInfo, hi, Builtin.lenOf, Builtin.firstCells, hn, storeCells]
/-- append, whatever the source: nil, empty, or a row. -/
theorem run_append_row {S : Nat → Prop} (w : World) (base : Nat) (t ty e : TypeId) (i : TypeInfo) (z : Value) (size bytes : Nat) (ht : P.underlying t = some (.slice e)) (hi : P.info? e = some i) (hz : i.zero = some z)
    (hsize : i.size = size) (hby : i.bytes = bytes) (hzs : z.cells.size = size) (hsz : 0 < size) (v : Value) (n : Nat) (xs : List Value) (hown : w.ownsRow base e size v n xs)
    (A : Option Addr) (m c : Nat) (news : List Value) (hr : RowAt S w A news) (hl : news.length = m * size) (h1 : ∀ u ∈ news, u.oneCell' = true)
    (h63 : n + m ≤ maxLen) (hbytes : (n + m) * bytes ≤ 140737488355328) (hbase : base ≤ w.heap.size) :
    ∃ v' w', (Builtin.append_ #[t, t] ty #[v, .slice A m c]).run P w = .ok v' w' ∧ w'.ownsRow base e size v' (n + m) (xs ++ news) ∧ w.grownBy w' v.ownBlock ∧ (v'.ownBlock = v.ownBlock ∨ v'.ownBlock = some w.heap.size) := by
  have some_ : ∀ ad : Addr, A = some ad → (∀ j u, news[j]? = some u → w.cell? (ad.add j) = some u) → ∃ v' w', (Builtin.append_ #[t, t] ty #[v, .slice A m c]).run P w = .ok v' w' ∧ w'.ownsRow base e size v' (n + m) (xs ++ news) ∧ w.grownBy w' v.ownBlock ∧ (v'.ownBlock = v.ownBlock ∨ v'.ownBlock = some w.heap.size) := by
    intro ad e1 hc
    subst e1
    obtain ⟨v', w', a1, a2, a3, _, a5⟩ := run_append_own_at (P := P) w base t ty e i z size bytes ht hi hz hsize hby hzs hsz v n xs hown ad m c news hl hc h1 h63 hbytes hbase
    exact ⟨v', w', a1, a2, a3, a5⟩
  rcases hr with h0 | ⟨b, o, e1, _, hc⟩
  · subst h0
    cases A with
    | some ad => exact some_ ad rfl (fun j u hj => by simp at hj)
    | none =>
      have hm : m = 0 := by
        rcases Nat.mul_eq_zero.1 hl.symm with h | h
        · exact h
        · omega
      subst hm
      exact ⟨v, w, append_nothing w base t ty e i size ht hi v n xs hown c, by simpa using hown, World.grownBy.refl w _, .inl rfl⟩
  · exact some_ _ e1 (fun j u hj => by rw [Addr.add_lit]; exact hc j u hj)
end
end

section
open Go.RowKit
set_option linter.unusedVariables false
set_option linter.unusedSimpArgs false
section
variable {P : Program}
theorem src_row {S : Nat → Prop} {w : World} {size : Nat} {tx e' : TypeId} (hk : P.underlying tx = some (.slice e')) {A : Option Addr} {m : Nat} (c : Nat) {news : List Value} (hr : RowAt S w A news) (hl : news.length = m * size) (h1 : ∀ u ∈ news, u.oneCell' = true) (hs : 0 < size) : Src P size tx (.slice A m c) m news w := by
  rcases hr with h0 | ⟨b, o, e, _, hc⟩
  · subst h0
    have hm : m = 0 := by
      rcases Nat.mul_eq_zero.1 hl.symm with h | h
      · exact h
      · omega
    subst hm
    cases A with
    | none => exact Src.ofNil w hk c
    | some ad => exact Src.ofSlice w hk ad 0 c [] hl (fun j u hj => by simp at hj) h1
  · subst e
    exact Src.ofSlice w hk _ m c news hl (fun j u hj => by rw [Addr.add_lit]; exact hc j u hj) h1
theorem run_append_full {S : Nat → Prop} (w : World) (t ty e : TypeId) (i : TypeInfo) (z : Value) (size bytes : Nat) (ht : P.underlying t = some (.slice e)) (hi : P.info? e = some i) (hz : i.zero = some z)
    (hsize : i.size = size) (hby : i.bytes = bytes) (hsz : 0 < size) (A : Option Addr) (n : Nat) (xs : List Value) (hx : RowAt S w A xs) (hxl : xs.length = n * size)
    (A2 : Option Addr) (m c2 : Nat) (news : List Value) (hr : RowAt S w A2 news) (hl : news.length = m * size) (h1 : ∀ u ∈ news, u.oneCell' = true)
    (h63 : n + m ≤ maxLen) (hbytes : (n + m) * bytes ≤ 140737488355328) :
    ∃ A' c' w', (Builtin.append_ #[t, t] ty #[.slice A n n, .slice A2 m c2]).run P w = .ok (.slice A' (n + m) c') w' ∧ Mod No w w' ∧ n + m ≤ c' ∧ c' ≤ maxLen ∧ RowAt (fun b => S b ∨ w.heap.size ≤ b) w' A' (xs ++ news) := by
  subst hsize hby
  have hsrc := src_row (P := P) ht c2 hr hl h1 hsz
  have hn0 : A = none → n = 0 := fun h => by
    subst h
    rcases hx with h0 | ⟨b, o, e, _⟩
    · subst h0
      rcases Nat.mul_eq_zero.1 hxl.symm with h | h
      · exact h
      · omega
    · cases e
  rcases Nat.eq_zero_or_pos m with rfl | hm
  · have hnews : news = [] := List.eq_nil_of_length_eq_zero (by simpa using hl)
    subst hnews
    refine ⟨A, n, w, ?_, Mod.refl _ _, by omega, by omega, ?_⟩
    · cases A with
      | none =>
        have := hn0 rfl
        subst this
        have h3 := hsrc.len w
        have h4 := hsrc.cells
        simp [Builtin.append_, run_underlying ht, sizeOf, typeInfo, hi, h3, h4, storeCells, Builtin.lenOf]
      | some b =>
        have h3 := hsrc.len w
        have h4 := hsrc.cells
        simp [Builtin.append_, run_underlying ht, sizeOf, typeInfo, hi, h3, h4, storeCells, Builtin.lenOf]
    · rw [List.append_nil]
      exact hx.mono (fun b _ h => .inl h)
  · have hold : (Builtin.firstCells i.size n (.slice A n n)).run P w.drew = .ok xs.toArray w.drew := by
      rcases hx with h0 | ⟨b, o, e, _, hc⟩
      · subst h0
        have hn : n = 0 := by
          rcases Nat.mul_eq_zero.1 hxl.symm with h | h
          · exact h
          · omega
        subst hn
        cases A with
        | none => exact run_firstCells_none w.drew _ 0 0 0
        | some ad => exact run_firstCells_some w.drew _ 0 ad 0 0 [] hxl (fun j u hj => by simp at hj)
      · subst e
        exact run_firstCells_some w.drew _ n _ n n xs hxl (fun j u hj => by rw [Addr.add_lit]; exact hc j u hj)
    have h := run_append_grow_src (P := P) w t t ty e i z ht hi hz A n n xs hold (.slice A2 m c2) m news hsrc (by omega) (by unfold maxLen at h63; omega) (growslice_fits (by omega) hbytes)
    refine ⟨_, _, _, h, (Mod.refl No w).drew.alloc _, grownCap_ge _ _ _ _, grownCap_le_maxLen _ _ _ _ h63, .inr ⟨w.heap.size, 0, rfl, .inr (Nat.le_refl _), fun j u hj => ?_⟩⟩
    have hb := at10 w.drew (.cells ((xs ++ news).toArray ++ Builtin.zeroCells z.cells (grownCap w (n + m) n e - (n + m))) e)
    have hz0 : w.drew.heap.size = w.heap.size := rfl
    rw [hz0] at hb
    rw [Nat.zero_add, blk_cell hb j, Array.getElem?_append_left (by simpa using (List.getElem?_eq_some_iff.1 hj).1)]
    simpa using hj
/-- At a step of a region that draws: an append whose run is known. -/
theorem step_append_run {w : World} {ops : Array Oper} {o : Oper} {a : Act} {K : Act → World → Prop} {Q : Exit → Act → World → Prop} {E : Prop} (hgd : o.guard = none) (s x : Operand) (t tn : TypeId)
    (ho : o.op = .call { callee := .builtin .append, args := #[s, x], argTypes := #[t, tn] }) (vs vx : Value) (hs : a.eval s = vs) (hx : a.eval x = vx)
    (v' : Value) (w' : World) (hr : (Builtin.append_ #[t, tn] o.type #[vs, vx]).run P w = .ok v' w') (h : K (a.put o.dst v') w') :
    if Region.wanted o (yielded ops a.tmps) = true then Oper.wp P o a w K Q else E := by
  have hw : Region.wanted o (yielded ops a.tmps) = true := by simp [Region.wanted, hgd]
  rw [if_pos hw]
  exact Lib.wp_append_run w s x t tn ho vs vx hs hx v' w' hr h
/-- The same, the world compared first (cheaply): so that an arm that does not fit fails at once. -/
theorem step_append_at {w W0 : World} {ops : Array Oper} {o : Oper} {a : Act} {K : Act → World → Prop} {Q : Exit → Act → World → Prop} {E : Prop} (hw : w = W0) (hgd : o.guard = none) (s x : Operand) (t tn : TypeId)
    (ho : o.op = .call { callee := .builtin .append, args := #[s, x], argTypes := #[t, tn] }) (vs vx : Value) (hs : a.eval s = vs) (hx : a.eval x = vx)
    (v' : Value) (w' : World) (hr : (Builtin.append_ #[t, tn] o.type #[vs, vx]).run P W0 = .ok v' w') (h : K (a.put o.dst v') w') :
    if Region.wanted o (yielded ops a.tmps) = true then Oper.wp P o a w K Q else E := by
  subst hw
  exact step_append_run hgd s x t tn ho vs vx hs hx v' w' hr h
end
end

section
open Go.RowKit
set_option linter.unusedVariables false
section
variable {P : Program} {t e : TypeId}
theorem row_part {S : Nat → Prop} {w : World} {A : Option Addr} {cs : List Value} (h : RowAt S w A cs) (k : Nat) : RowAt S w (A.map (·.add k)) (cs.drop k) := by
  rcases h with h | ⟨b, o, e, hs, hc⟩
  · subst h; simp; exact .nil _ _ _
  · subst e
    refine .inr ⟨b, o + k, ?_, hs, fun j v hj => ?_⟩
    · simp [Addr.add_lit]
    · rw [Nat.add_assoc]
      refine hc _ v ?_
      rw [List.getElem?_drop] at hj
      exact hj
/-- xs[i:] -/
theorem slice_tail (t e : TypeId) (k : Nat) (ht : P.underlying t = some (.slice e)) (he : P.elem t = e) (hz : ∀ W, (sizeOf e).run P W = .ok k W) (A : Option Addr) (n c i : Nat) (h1 : i ≤ n) (h2 : n ≤ c) :
    ∃ A', (∀ W, (Instr.slice t (.slice A n c) (some (.int .i64 (i : Int))) none none).run P W = .ok (.slice A' (n - i) (c - i)) W) ∧ ∀ (S : Nat → Prop) (w : World) (cs : List Value), cs.length = n * k → RowAt S w A cs → RowAt S w A' (cs.drop (i * k)) := by
  refine ⟨if c = i then A else A.map (·.add (i * k)), fun W => ?_, fun S w cs hl hr => ?_⟩
  · rw [run_slice_l (P := P) W t A n c (by rw [he]; exact ht) .i64 (i : Int) (by omega) (by omega), he, hz]
    simp only [Result.andThen, sliced, Int.toNat_natCast]
  · by_cases hc : c = i
    · have : cs.drop (i * k) = [] := List.drop_of_length_le (by rw [hl]; exact Nat.mul_le_mul_right k (by omega))
      rw [this]
      exact .nil _ _ _
    · rw [if_neg hc]
      exact row_part hr _
/-- xs[:i:i] -/
theorem slice_full (t e : TypeId) (k : Nat) (ht : P.underlying t = some (.slice e)) (he : P.elem t = e) (hz : ∀ W, (sizeOf e).run P W = .ok k W) (A : Option Addr) (n c i : Nat) (h1 : i ≤ n) (h2 : n ≤ c) :
    ∀ W, (Instr.slice t (.slice A n c) none (some (.int .i64 (i : Int))) (some (.int .i64 (i : Int)))).run P W = .ok (.slice A i i) W := by
  intro W
  rw [run_slice_hm (P := P) W t A n c (by rw [he]; exact ht) .i64 .i64 (i : Int) (i : Int) (by omega) (by omega) (by omega), he, hz]
  simp only [Result.andThen, sliced, Int.toNat_natCast, Nat.zero_mul, Nat.sub_zero]
  congr 2
  by_cases h : i = 0
  · simp [h]
  · rw [if_neg h]
    cases A with
    | none => rfl
    | some a => simp [Addr.add]
theorem row_take {S : Nat → Prop} {w : World} {A : Option Addr} {cs : List Value} (h : RowAt S w A cs) (k : Nat) : RowAt S w A (cs.take k) := by
  rcases h with h | ⟨b, o, e, hs, hc⟩
  · subst h; simp; exact .nil _ _ _
  · refine .inr ⟨b, o, e, hs, fun j v hj => hc j v ?_⟩
    have hjk : j < k := by
      have := (List.getElem?_eq_some_iff.1 hj).1
      simp at this
      omega
    rwa [List.getElem?_take_of_lt hjk] at hj
end
end

section
open Go.ChangeShapes Go.WideShapes Go.ChangeAt Go.RowKit Go.Deep
set_option linter.unusedVariables false
variable {H : Type} {enc : TypeId × Value → H} {P : Program} {w : World}
theorem field_at {t : TypeId} {fs : Array Field} {fuel : Nat} {cs : List Value} {x : DataW H × List MemPlace} (ht : P.underlying t = some (.struct fs)) (h : DataW.trod enc P w 0 (fun _ => true) true fuel t cs = some x) (i : Nat) (f : Field) (hf : fs[i]? = some f) :
    ∃ n y, DataW.trod enc P w 0 (fun _ => true) true n f.type ((cs.drop f.offset).take (P.cellsOf f.type)) = some y := by
  obtain ⟨xs, n, _, _, hl, hlen, hall⟩ := DataW.trod_struct ht h
  have h1 := hall i f hf
  obtain ⟨y, hy⟩ : ∃ y, xs[i]? = some y := ⟨_, List.getElem?_eq_getElem (by rw [hlen]; exact (Array.getElem?_eq_some_iff.1 hf).1)⟩
  exact ⟨n, y, h1.trans hy⟩
theorem struct_len {t : TypeId} {fs : Array Field} {fuel : Nat} {cs : List Value} {x : DataW H × List MemPlace} (ht : P.underlying t = some (.struct fs)) (h : DataW.trod enc P w 0 (fun _ => true) true fuel t cs = some x) : cs.length = P.cellsOf t := by
  obtain ⟨xs, n, _, _, hl, _⟩ := DataW.trod_struct ht h
  exact hl
theorem cut_at {α : Type} (l : List α) (a k : Nat) : l.drop a = (l.drop a).take k ++ l.drop (a + k) := by
  rw [← List.drop_drop, List.take_append_drop]
/-- A slice of elements, each of which opens to something. -/
theorem open_slice_of {α : Type} [Inhabited α] (f : α → List Value) (k : Nat) (hk : ∀ a, (f a).length = k) (k0 : 0 < k) (Good : α → Prop) {t e : TypeId} (ht : P.underlying t = some (.slice e)) (hc : P.cellsOf e = k)
    (hop : ∀ (n : Nat) (cs : List Value) (y : DataW H × List MemPlace), DataW.trod enc P w 0 (fun _ => true) true n e cs = some y → ∃ a, cs = f a ∧ Good a)
    {fuel : Nat} {A : Option Addr} {len cap : Nat} {x : DataW H × List MemPlace} (h : DataW.trod enc P w 0 (fun _ => true) true fuel t [.slice A len cap] = some x) :
    ∃ l : List α, l.length = len ∧ len ≤ 9223372036854775807 ∧ len ≤ cap ∧ RowAt (fun _ => True) w A (l.flatMap f) ∧ ∀ a ∈ l, Good a := by
  rcases open_slice ht h with ⟨hcs, hx⟩ | ⟨a, len', cap', m, n, D, Pl, hcs, _, hl, hm, hmm, _, hx⟩
  · simp only [List.cons.injEq, Value.slice.injEq, and_true] at hcs
    obtain ⟨rfl, rfl, rfl⟩ := hcs
    exact ⟨[], rfl, by omega, by omega, .nil _ _ _, by simp⟩
  · simp only [List.cons.injEq, Value.slice.injEq, and_true] at hcs
    obtain ⟨rfl, rfl, rfl⟩ := hcs
    simp only [if_true] at hmm
    have hv : ∀ i, i < len → ∃ x : α, Good x ∧ w.cells? 0 (a.add (i * k)) k = some (f x) := by
      intro i hi
      obtain ⟨cs', h1, h2⟩ := hx i (by omega)
      rw [hc] at h1
      obtain ⟨x, rfl, hxo⟩ := hop _ _ _ h2
      exact ⟨x, hxo, h1⟩
    obtain ⟨g, hg⟩ : ∃ g : Nat → α, ∀ i, i < len → Good (g i) ∧ w.cells? 0 (a.add (i * k)) k = some (f (g i)) :=
      ⟨fun i => if h : i < len then (hv i h).choose else default, fun i hi => by simp only [hi, dif_pos]; exact (hv i hi).choose_spec⟩
    refine ⟨(List.range len).map g, by simp, by unfold maxLen at hm; omega, hl, ?_, fun x hx => by
      obtain ⟨i, hi, rfl⟩ := List.mem_map.1 hx
      exact (hg i (by simpa using hi)).1⟩
    by_cases h0 : len = 0
    · subst h0
      exact .nil _ _ _
    · have hcell : ∀ i, i < len → ∀ j, j < k → w.cell? ((a.add (i * k)).add j) = (f (g i))[j]? := by
        intro i hi j hj
        obtain ⟨h1, h2, h3⟩ := World.cells?_some (hg i hi).2
        exact h3 j hj
      obtain ⟨b, o, spot⟩ := a
      have hs : spot = none := by
        have h1 := hcell 0 (by omega) 0 k0
        have h2 : ∃ v, (f (g 0))[0]? = some v := ⟨_, List.getElem?_eq_getElem (by rw [hk]; exact k0)⟩
        obtain ⟨v, hv⟩ := h2
        rw [hv] at h1
        simpa [Addr.add] using World.cell?_spot h1
      subst hs
      refine .inr ⟨b, o, rfl, trivial, fun j v hj => ?_⟩
      have hjl := (List.getElem?_eq_some_iff.1 hj).1
      rw [flat_length f k hk, List.length_map, List.length_range] at hjl
      have hi : j / k < len := (Nat.div_lt_iff_lt_mul k0).2 hjl
      have hr : ((List.range len).map g)[j / k]? = some (g (j / k)) := by simp [hi]
      have hf := flat_at f k hk _ (j / k) (j % k) _ hr (Nat.mod_lt _ k0)
      rw [Nat.div_add_mod' j k] at hf
      have hj' : (f (g (j / k)))[j % k]? = some v := by rw [← hf]; exact hj
      have h1 := hcell (j / k) hi (j % k) (Nat.mod_lt _ k0)
      rw [hj', Addr.add_lit, Addr.add_lit, Nat.add_assoc, Nat.div_add_mod' j k] at h1
      exact h1
theorem nat_of_wf {k : IntKind} {z : Int} (hs : k.min = 0) (h : (Lit.int k z).wf = true) : ∃ n : Nat, z = (n : Int) ∧ (n : Int) ≤ k.max := by
  have h1 : k.min ≤ z ∧ z ≤ k.max := by simpa [Lit.wf] using h
  exact ⟨z.toNat, by omega, by omega⟩
theorem in64_of_wf {z : Int} (h : (Lit.int .i64 z).wf = true) : -9223372036854775808 ≤ z ∧ z ≤ 9223372036854775807 := by
  have h1 : IntKind.i64.min ≤ z ∧ z ≤ IntKind.i64.max := by simpa [Lit.wf] using h
  simpa [IntKind.min, IntKind.max, IntKind.signed, IntKind.bits] using h1
end

section
open Go.RowKit Go.MapKept
open Go.ChangeMaps (setBlock)
set_option linter.unusedVariables false
/-- A map's block: its entries. -/
def GMap (P : Program) (k : TypeId) (w : World) (b : Nat) (D : List (Value × Value)) : Prop :=
  ∃ es clock, w.heap[b]? = some (.map es clock) ∧ Stamped es clock ∧ KeysOk P k es ∧ es.toList.map (fun e => (e.key, e.val)) = D
section
variable {P : Program} {t k e : TypeId} {w w' : World} {b : Nat} {D : List (Value × Value)}
theorem GMap.lt (h : GMap P k w b D) : b < w.heap.size := by
  obtain ⟨es, c, hb, _⟩ := h
  exact lt_of_block hb
theorem GMap.mod {F : Nat → Prop} (h : GMap P k w b D) (hm : Mod F w w') (hF : ¬ F b) : GMap P k w' b D := by
  obtain ⟨es, c, hb, r⟩ := h
  exact ⟨es, c, hm.obj hb hF, r⟩
theorem GMap.drew (h : GMap P k w b D) : GMap P k w.drew b D := h
theorem GMap.new (P : Program) (k : TypeId) (w : World) : GMap P k (w.alloc (.map #[] 0)) w.heap.size [] := ⟨#[], 0, at10 w _, stamped_empty 0, (fun x hx => by simp at hx), rfl⟩
theorem setBlock_mod (w : World) (b : Nat) (o : Obj) : Mod (fun j => j = b) w (setBlock w b o) := Mod.setBlock (F := fun j => j = b) (Mod.refl _ _) (.inr rfl) o
theorem GMap.len (h : GMap P k w b D) (ht : P.underlying t = some (.map k e)) (ty : TypeId) : (Builtin.len_ #[t] ty #[.map (some b)]).run P w = .ok (.int .i64 D.length) w := by
  obtain ⟨es, cl, hb, hs, hk, rfl⟩ := h
  have := len_map (ty := ty) ht es cl w hb
  simpa using this
end
end

section
open Go.RowKit Go.MapKept
open Go.ChangeMaps (setBlock)
set_option linter.unusedVariables false
/-- A range under way: what the map holds, what has come out. -/
def GIter (P : Program) (k : TypeId) (w : World) (b r : Nat) (D vis : List (Value × Value)) : Prop :=
  ∃ es clock since seen c0, ∃ E : List MapEntry, w.heap[b]? = some (.map es clock) ∧ Stamped es clock ∧ KeysOk P k es ∧ es.toList.map (fun e => (e.key, e.val)) = D ∧ w.heap[r]? = some (.mapIter (some b) since seen c0) ∧ since ≤ c0 ∧ since ≤ clock ∧
    (∀ x ∈ es.toList, x.born < since) ∧ E.map (·.born) = seen.toList ∧ (∀ x ∈ E, x ∈ es.toList) ∧ (E.map (·.born)).Nodup ∧ E.map (fun e => (e.key, e.val)) = vis
section
variable {P : Program} {t k e : TypeId} {w w' : World} {b r : Nat} {D vis : List (Value × Value)}
theorem GIter.map (h : GIter P k w b r D vis) : GMap P k w b D := by
  obtain ⟨es, cl, since, seen, c0, E, hb, hs, hk, hD, _⟩ := h
  exact ⟨es, cl, hb, hs, hk, hD⟩
theorem GIter.mod {F : Nat → Prop} (h : GIter P k w b r D vis) (hm : Mod F w w') (hb : ¬ F b) (hr : ¬ F r) : GIter P k w' b r D vis := by
  obtain ⟨es, cl, since, seen, c0, E, h1, h2, h3, h4, h5, rest⟩ := h
  exact ⟨es, cl, since, seen, c0, E, hm.obj h1 hb, h2, h3, h4, hm.obj h5 hr, rest⟩
theorem entry_of_born : ∀ {l : List MapEntry}, (l.map (·.born)).Nodup → ∀ {x y : MapEntry}, x ∈ l → y ∈ l → x.born = y.born → x = y := by
  intro l hn x y hx hy he
  obtain ⟨i, hi⟩ := List.mem_iff_getElem?.1 hx
  obtain ⟨j, hj⟩ := List.mem_iff_getElem?.1 hy
  have hij : i = j := (List.getElem?_inj (by have := (List.getElem?_eq_some_iff.1 hi).1; simpa using this) hn).1 (by simp [hi, hj, he])
  subst hij
  rw [hi] at hj
  cases hj
  rfl
theorem gi_nodup {l : List MapEntry} (h : (l.map (·.born)).Nodup) : l.Nodup := List.Pairwise.of_map (·.born) (fun a b hab f => hab (by rw [f])) h
theorem nodup_le : ∀ {l m : List Nat}, l.Nodup → (∀ x ∈ l, x ∈ m) → l.length ≤ m.length
  | [], _, _, _ => by simp
  | a :: l, m, hn, hs => by
    rw [List.nodup_cons] at hn
    have h1 := nodup_le (m := m.erase a) hn.2 (fun x hx => (List.mem_erase_of_ne (fun f => hn.1 (by rw [← f]; exact hx))).2 (hs x (List.mem_cons_of_mem _ hx)))
    rw [List.length_erase_of_mem (hs a (by simp))] at h1
    have h2 : 0 < m.length := List.length_pos_of_mem (hs a (by simp))
    simp only [List.length_cons]
    omega
theorem perm_of_born {l m : List MapEntry} (hl : (l.map (·.born)).Nodup) (hm : (m.map (·.born)).Nodup) (h : ∀ x, x ∈ l ↔ x ∈ m) : l.Perm m := by
  have n1 : l.Nodup := gi_nodup hl
  have n2 : m.Nodup := gi_nodup hm
  exact (List.perm_ext_iff_of_nodup n1 n2).2 h
/-- One step: nothing is left, or an entry that has not come out yet. -/
theorem GIter.step (h : GIter P k w b r D vis) (ty : TypeId) :
    (vis.Perm D ∧ (Instr.next (.pointer (some ⟨r, 0, none⟩)) false ty).run P w = .ok (.tuple #[.bool false]) w) ∨
    ∃ x v w', (x, v) ∈ D ∧ (∀ p ∈ vis, p.1 ≠ x) ∧ (Instr.next (.pointer (some ⟨r, 0, none⟩)) false ty).run P w = .ok (.tuple #[.bool true, x, v]) w' ∧ GIter P k w' b r D (vis ++ [(x, v)]) ∧ vis.length < D.length ∧ Mod (fun j => j = r) w w' ∧ w'.heap.size = w.heap.size ∧
      (Instr.entry (.pointer (some ⟨r, 0, none⟩))).run P w' = .ok (.tuple #[x, v]) w' := by
  obtain ⟨es, cl, since, seen, c0, E, hb, hs, hk, rfl, hr, hsc, hsl, hold, hE, hEm, hEn, rfl⟩ := h
  have hne : b ≠ r := by intro f; subst f; rw [hb] at hr; cases hr
  have hsub : ∀ x ∈ es.toList, (seen.contains x.born = true ↔ x ∈ E) := fun x hx => by
    rw [Array.contains_iff_mem, ← Array.mem_toList_iff, ← hE, List.mem_map]
    constructor
    · rintro ⟨y, hy, he⟩
      have := entry_of_born hs.2.1 (hEm y hy) hx he
      rwa [← this]
    · exact fun hx' => ⟨x, hx', rfl⟩
  rcases run_next_at (P := P) w ty r b since c0 seen es cl hr hb hold hsc with ⟨h0, hrun⟩ | ⟨e0, he0, w1, hw1, hrun⟩
  · refine .inl ⟨?_, hrun⟩
    have hall : ∀ x ∈ es.toList, x ∈ E := fun x hx => by
      rw [← hsub x hx]
      have : leftOf es seen = #[] := Array.eq_empty_of_size_eq_zero h0
      unfold leftOf at this
      rw [Array.filter_eq_empty_iff] at this
      have := this x (by simpa using hx)
      simpa using this
    exact (perm_of_born hEn hs.2.1 (fun x => ⟨hEm x, hall x⟩)).map _
  · right
    have hmem : e0 ∈ es.toList ∧ e0 ∉ E := by
      unfold leftOf at he0
      simp only [Array.toList_filter, List.mem_filter] at he0
      refine ⟨he0.1, fun f => ?_⟩
      have h7 := (hsub e0 he0.1).2 f
      rw [h7] at he0
      exact absurd he0.2 (by simp)
    have hm1 : Mod (fun j => j = r) w (setBlock w1 r (.mapIter (some b) since (seen.push e0.born) cl)) := by
      rcases hw1 with rfl | rfl
      · exact setBlock_mod _ _ _
      · exact (Mod.drew (Mod.refl (fun j => j = r) w)).trans (setBlock_mod _ _ _)
    have hsz : (setBlock w1 r (.mapIter (some b) since (seen.push e0.born) cl)).heap.size = w.heap.size := by
      rw [size_setBlock]
      rcases hw1 with rfl | rfl <;> rfl
    have hrb : (setBlock w1 r (.mapIter (some b) since (seen.push e0.born) cl)).heap[r]? = some (.mapIter (some b) since (seen.push e0.born) cl) := heap_setBlock_self _ (by have := lt_of_block hr; rcases hw1 with rfl | rfl <;> exact this)
    have hbb := hm1.obj hb hne
    refine ⟨e0.key, e0.val, _, List.mem_map.2 ⟨e0, hmem.1, rfl⟩, ?_, hrun, ⟨es, cl, since, seen.push e0.born, cl, E ++ [e0], hbb, hs, hk, rfl, hrb, hsl, hsl, hold, by simp [hE], ?_, ?_, by simp⟩, ?_, hm1, hsz, ?_⟩
    · intro p hp f
      obtain ⟨y, hy, rfl⟩ := List.mem_map.1 hp
      have hyy := hEm y hy
      have : y = e0 := by
        obtain ⟨i, hi⟩ := List.mem_iff_getElem?.1 hyy
        obtain ⟨j, hj⟩ := List.mem_iff_getElem?.1 hmem.1
        have hij : i = j := (List.getElem?_inj (by have := (List.getElem?_eq_some_iff.1 hi).1; simpa using this) hs.2.2).1 (by simp only [List.getElem?_map, hi, hj, Option.map_some]; exact congrArg some f)
        subst hij
        rw [hi] at hj
        cases hj
        rfl
      exact hmem.2 (this ▸ hy)
    · intro y hy
      rcases List.mem_append.1 hy with h1 | h1
      · exact hEm y h1
      · simp at h1; subst h1; exact hmem.1
    · rw [List.map_append, List.nodup_append]
      refine ⟨hEn, by simp, ?_⟩
      intro a ha c hc
      simp at hc
      subst hc
      intro f
      obtain ⟨y, hy, he⟩ := List.mem_map.1 ha
      have := entry_of_born hs.2.1 (hEm y hy) hmem.1 (he.trans f)
      exact hmem.2 (this ▸ hy)
    · rw [List.length_map, List.length_map]
      have h9 := nodup_le (l := (e0 :: E).map (·.born)) (m := es.toList.map (·.born)) (List.nodup_cons.2 ⟨fun f => by
        obtain ⟨y, hy, he⟩ := List.mem_map.1 f
        exact hmem.2 (entry_of_born hs.2.1 (hEm y hy) hmem.1 he ▸ hy), hEn⟩) (fun x hx => by
        obtain ⟨y, hy, he⟩ := List.mem_map.1 hx
        refine List.mem_map.2 ⟨y, ?_, he⟩
        rcases List.mem_cons.1 hy with h8 | h8
        · exact h8 ▸ hmem.1
        · exact hEm y h8)
      simp only [List.length_map, List.length_cons] at h9
      omega
    · exact run_entry_at _ r b since seen es cl e0 hrb hbb hmem.1 hs.2.1
end
end

section
open Go.ChangeShapes Go.WideShapes Go.ChangeAt Go.RowKit
theorem Mod.toBelow {w w' : World} (h : Mod No w w') : Below w.heap.size w w' :=
  ⟨h.os, h.tape, h.output, h.size, fun k hk => h.block k hk (fun f => f.elim)⟩
variable {H : Type} {enc : TypeId × Value → H} {P : Program}
theorem post_of_mod {f : Func} {s : ChangeSpec} {apart fresh handsOn again : Bool} {W W' : World} {args : Array Value} {v : Value} {ds gs : List (DataW H)} {before pa pv : List MemPlace}
    (hW : DataW.Whole enc P f.params.toList s.vars apart W args.toList ds gs before)
    (hres : ∀ (b : Nat) (sp : Nat → Bool) (hd : Bool), DataW.TrodAll enc P W' b sp hd f.resultTypes.toList (v.resultList f.resultTypes.size) (s.fn H (ds ++ gs)).results [])
    (hargs : ∀ sp : Nat → Bool, (∀ p ∈ before, sp p.block = true) → DataW.TrodAll enc P W' 0 sp true f.params.toList args.toList (s.fn H (ds ++ gs)).args pa)
    (hvars : ∀ sp : Nat → Bool, (∀ p ∈ before, sp p.block = true) → DataW.TrodVars enc P W' sp s.vars (s.fn H (ds ++ gs)).vars pv)
    (hps : before = pa ++ pv) (hm : Mod No W W')
    (hok : ∀ (j : Nat) (t : TypeId) (r : Value), f.resultTypes[j]? = some t → (v.resultList f.resultTypes.size)[j]? = some r → Value.okWide P W' .any 0 t r) :
    s.post enc P f apart fresh handsOn again W args v W' := by
  have hold : ∀ p ∈ before, (fun b => decide (b < W.heap.size)) p.block = true := fun p hp => by simpa using hW.lt p hp
  have hlt := hW.lt
  refine ⟨ds, gs, before, [], pa, pv, hW, hres _ _ _, hargs _ hold, hvars _ hold, World.keptBut_mono (fun p hp => ⟨hp, ?_⟩) (hm.toBelow.frame _), fun _ => ?_⟩
  · rw [hps, List.mem_append] at hp
    exact Or.inr hp
  · obtain ⟨_, _, _, _, _, hz, hn⟩ := hW
    refine ⟨hok, _, _, ([] ++ pa) ++ pv, ⟨[] ++ pa, pv, trodAll_append (hargs _ (fun _ _ => rfl)) (hres _ _ _), hvars _ (fun _ _ => rfl), rfl, ?_, ?_⟩, ?_⟩
    · intro b off hp
      have hp' : MemPlace.cell b off ∈ before := by rw [hps]; simpa using hp
      rw [hm.toBelow.frozen (by have := hlt _ hp'; simpa [MemPlace.block] using this)]
      exact hz b off hp'
    · intro ha
      have := hn ha
      rw [hps] at this
      simpa using this
    · intro p hp _
      rw [hps]
      simpa using hp
/-- What reads in the old world reads alike behind a call that turned nothing of it. -/
theorem trodAll_mod {W W' : World} (hm : Mod No W W') {base : Nat} {sp : Nat → Bool} {held : Bool} : ∀ {ts : List TypeId} {vs : List Value} {ds : List (DataW H)} {ps : List MemPlace},
    DataW.TrodAll enc P W base sp held ts vs ds ps → DataW.TrodAll enc P W' base sp held ts vs ds ps
  | [], [], [], _, h => h
  | _ :: _, _ :: _, _ :: _, _, ⟨p, q, ⟨n, h⟩, hs, e⟩ => ⟨p, q, ⟨n, DataW.trod_carry n _ _ _ h (fun z hz => hm.toBelow.same (DataW.TrodAll.lt (ts := [_]) (vs := [_]) (ds := [_]) (ps := p) ⟨p, [], ⟨n, h⟩, rfl, by simp⟩ z hz))⟩, trodAll_mod hm hs, e⟩
theorem Tryd.kids : Kids Tryd.prog (· < Tryd.prog.types.size) := kids_rows (by kernel_rfl) (by kernel_rfl)
theorem Tryd.full : ∀ t e, t < Tryd.prog.types.size → Tryd.prog.underlying t = some (.slice e) → 0 < Tryd.prog.cellsOf e := slices_full_of Tryd.prog (by kernel_rfl)
set_option maxRecDepth 100000 in
/-- A LAW's END, whatever its arguments: it returned true, and nothing that was there has turned. -/
theorem law_post {f : Func} {s : ChangeSpec} {apart fresh handsOn again : Bool} {W W' : World} {args : Array Value} {ds gs : List (DataW H)} {before : List MemPlace}
    (hW : DataW.Whole enc Tryd.prog f.params.toList s.vars apart W args.toList ds gs before) (hv : s.vars = [])
    (hts : ∀ t ∈ f.params.toList, t < Tryd.prog.types.size) (hrt : f.resultTypes = #[4])
    (hfn : s.fn H ds = { results := [.lit (.bool true)], args := ds }) (hm : Mod No W W') :
    s.post enc Tryd.prog f apart fresh handsOn again W args (.bool true) W' := by
  have hW' := hW
  obtain ⟨p, q, hA, hV, rfl, hfz, hnd⟩ := hW
  rw [hv] at hV
  obtain ⟨rfl, rfl⟩ := trodVars_none hV
  have hfn' : s.fn H (ds ++ []) = { results := [.lit (.bool true)], args := ds } := by rw [List.append_nil]; exact hfn
  refine post_of_mod (pa := p) (pv := []) hW' ?_ ?_ ?_ rfl hm ?_
  · intro b sp hd
    rw [hfn', hrt]
    exact trodAll_cons_mk (shut_bool Tryd.underlying4 _) trodAll_mk0
  · intro sp hsp
    rw [hfn']
    exact DataW.TrodAll.respare Tryd.kids Tryd.full hts (trodAll_mod hm hA) (fun x hx => hsp x (by simpa using hx))
  · intro sp hsp
    rw [hfn', hv]
    rfl
  · intro j t r h1 h2
    rw [hrt] at h1 h2
    obtain rfl : j = 0 := by have := (Array.getElem?_eq_some_iff.1 h1).1; simpa using this
    obtain rfl : 4 = t := by simpa using h1
    obtain rfl : Value.bool true = r := by simpa [Value.resultList] using h2
    exact okWide_bool_mk (t := 4) Tryd.underlying4 true
end

section
abbrev Nm := List UInt8
end

section
open Go.RowKit
set_option linter.unusedVariables false
structure M6 where
  (b0 b1 b2 b3 b4 b5 : UInt8)
  deriving DecidableEq, Inhabited
structure K8 where
  (b0 b1 b2 b3 b4 b5 b6 b7 : UInt8)
  deriving DecidableEq, Inhabited
structure Pr where
  (a b : Nat)
  deriving DecidableEq, Inhabited
structure Ten where
  name : List UInt8
  vni : Nat
  key : K8
  vtep : Nat
  vmac : M6
  host : M6
  pool : List Nat
  lo : Nat
  hi : Nat
  filter : Int
  statics : List Pr
  twices : List Pr
  sess : Int
  queue : Int
  rate : Nat
  burst : Nat
  deriving DecidableEq, Inhabited
def M6.l (m : M6) : List UInt8 := [m.b0, m.b1, m.b2, m.b3, m.b4, m.b5]
def K8.l (m : K8) : List UInt8 := [m.b0, m.b1, m.b2, m.b3, m.b4, m.b5, m.b6, m.b7]
def u8v (b : UInt8) : Value := .int .u8 (b.toNat : Int)
def numCells (l : List Nat) : List Value := l.map fun (n : Nat) => Value.int .u32 (n : Int)
def Pr.cells (p : Pr) : List Value := [.int .u32 (p.a : Int), .int .u32 (p.b : Int)]
def prCells (l : List Pr) : List Value := l.flatMap Pr.cells
theorem Pr.cells_length (p : Pr) : p.cells.length = 2 := rfl
theorem prCells_length (l : List Pr) : (prCells l).length = l.length * 2 := flat_length Pr.cells 2 Pr.cells_length l
/-- A tenant's cells, its three lists' values beside. -/
def Ten.cells (t : Ten) (vp vs vt : Value) : Array Value :=
  #[.string (str t.name), .int .u32 (t.vni : Int), .int .u8 (t.key.b0.toNat : Int), .int .u8 (t.key.b1.toNat : Int), .int .u8 (t.key.b2.toNat : Int), .int .u8 (t.key.b3.toNat : Int), .int .u8 (t.key.b4.toNat : Int), .int .u8 (t.key.b5.toNat : Int), .int .u8 (t.key.b6.toNat : Int), .int .u8 (t.key.b7.toNat : Int),
    .int .u32 (t.vtep : Int), .int .u8 (t.vmac.b0.toNat : Int), .int .u8 (t.vmac.b1.toNat : Int), .int .u8 (t.vmac.b2.toNat : Int), .int .u8 (t.vmac.b3.toNat : Int), .int .u8 (t.vmac.b4.toNat : Int), .int .u8 (t.vmac.b5.toNat : Int),
    .int .u8 (t.host.b0.toNat : Int), .int .u8 (t.host.b1.toNat : Int), .int .u8 (t.host.b2.toNat : Int), .int .u8 (t.host.b3.toNat : Int), .int .u8 (t.host.b4.toNat : Int), .int .u8 (t.host.b5.toNat : Int),
    vp, .int .u16 (t.lo : Int), .int .u16 (t.hi : Int), .int .i64 t.filter, vs, vt, .int .i64 t.sess, .int .i64 t.queue, .int .u32 (t.rate : Int), .int .u32 (t.burst : Int)]
def M6.zero : M6 := ⟨0, 0, 0, 0, 0, 0⟩
def K8.zero : K8 := ⟨0, 0, 0, 0, 0, 0, 0, 0⟩
def Ten.zero : Ten := ⟨[], 0, .zero, 0, .zero, .zero, [], 0, 0, 0, [], [], 0, 0, 0, 0⟩
/-- A value that is a tenant: its lists are rows in S. -/
structure TenV (S : Nat → Prop) (w : World) (t : Ten) (v : Value) : Prop where
  val : ∃ P p Q q R r, v = .agg (t.cells (.slice P t.pool.length p) (.slice Q t.statics.length q) (.slice R t.twices.length r)) ∧ RowAt S w P (numCells t.pool) ∧ RowAt S w Q (prCells t.statics) ∧ RowAt S w R (prCells t.twices)
theorem TenV.keeps {S : Nat → Prop} {w w' : World} {t : Ten} {v : Value} (h : TenV S w t v) (hk : Keeps S w w') : TenV S w' t v := by
  obtain ⟨P, p, Q, q, R, r, e, h1, h2, h3⟩ := h.val
  exact ⟨P, p, Q, q, R, r, e, h1.keeps hk, h2.keeps hk, h3.keeps hk⟩
theorem TenV.mono {S S' : Nat → Prop} {w : World} {t : Ten} {v : Value} (h : TenV S w t v) (hs : ∀ b, b < w.heap.size → S b → S' b) : TenV S' w t v := by
  obtain ⟨P, p, Q, q, R, r, e, h1, h2, h3⟩ := h.val
  exact ⟨P, p, Q, q, R, r, e, h1.mono hs, h2.mono hs, h3.mono hs⟩
theorem stPair : Tryd.prog.stoodInHeld 49 = false := by kernel_rfl
attribute [local go_sem] stPair
theorem gtPair : Tryd.prog.eqGuardType Tryd.prog.depth 49 = false := by kernel_rfl
attribute [local go_sem] gtPair
theorem neqPair (a b c d : Int) (w : World) : (binOp .neq 49 (.agg #[.int .u32 a, .int .u32 b]) (.agg #[.int .u32 c, .int .u32 d])).run Tryd.prog w = .ok (.bool (!(a == c && b == d))) w := by
  go_simp
  by_cases h1 : a = c <;> by_cases h2 : b = d <;> simp [h1, h2]
attribute [local go_sem high] neqPair
end

section
attribute [local go_sem] stPair gtPair
attribute [local go_sem high] neqPair
open Go.ChangeShapes Go.WideShapes Go.ChangeAt Go.RowKit Go.Deep
set_option linter.unusedVariables false
variable {H : Type} {enc : TypeId × Value → H} {w : World}
/-- A tenant's numbers are numbers of their types. -/
structure Ten.wf (t : Ten) : Prop where
  vni : t.vni < 4294967296
  vtep : t.vtep < 4294967296
  pool : ∀ x ∈ t.pool, x < 4294967296
  lo : t.lo < 65536
  hi : t.hi < 65536
  filter : (Lit.int .i64 t.filter).wf = true
  statics : ∀ p ∈ t.statics, p.a < 4294967296 ∧ p.b < 4294967296
  twices : ∀ p ∈ t.twices, p.a < 4294967296 ∧ p.b < 4294967296
  sess : (Lit.int .i64 t.sess).wf = true
  queue : (Lit.int .i64 t.queue).wf = true
  rate : t.rate < 4294967296
  burst : t.burst < 4294967296
theorem trod_str {P : Program} {t : TypeId} {fuel : Nat} {cs : List Value} {x : DataW H × List MemPlace} {base : Nat} {spare : Nat → Bool} {held : Bool} (ht : P.underlying t = some .string) (h : DataW.trod enc P w base spare held fuel t cs = some x) : ∃ s, cs = [.string s] := by
  cases fuel with
  | zero => simp [DataW.trod] at h
  | succ n =>
    unfold DataW.trod at h
    rw [ht] at h
    split at h <;> simp_all
theorem nat_of_u32 {z : Int} (h : (Lit.int .u32 z).wf = true) : ∃ n : Nat, z = n ∧ n < 4294967296 := ⟨z.toNat, by
  have : 0 ≤ z ∧ z ≤ 4294967295 := by simpa [Lit.wf, IntKind.min, IntKind.max, IntKind.signed, IntKind.bits] using h
  omega⟩
theorem nat_of_u16 {z : Int} (h : (Lit.int .u16 z).wf = true) : ∃ n : Nat, z = n ∧ n < 65536 := ⟨z.toNat, by
  have : 0 ≤ z ∧ z ≤ 65535 := by simpa [Lit.wf, IntKind.min, IntKind.max, IntKind.signed, IntKind.bits] using h
  omega⟩
theorem byte_of_u8 {z : Int} (h : (Lit.int .u8 z).wf = true) : ∃ b : UInt8, z = (b.toNat : Int) := by
  have : 0 ≤ z ∧ z ≤ 255 := by simpa [Lit.wf, IntKind.min, IntKind.max, IntKind.signed, IntKind.bits] using h
  refine ⟨UInt8.ofNat z.toNat, ?_⟩
  rw [UInt8.toNat_ofNat']
  omega
theorem co5 : Tryd.prog.cellsOf 5 = 1 := by kernel_rfl
theorem coU32 : Tryd.prog.cellsOf 22 = 1 := by kernel_rfl
theorem coPr : Tryd.prog.cellsOf 49 = 2 := by kernel_rfl
theorem coTen : Tryd.prog.cellsOf 30 = 33 := by kernel_rfl
theorem open_u32 {fuel : Nat} {c : Value} {x : DataW H × List MemPlace} (h : DataW.trod enc Tryd.prog w 0 (fun _ => true) true fuel 22 [c] = some x) : ∃ n : Nat, c = .int .u32 (n : Int) ∧ n < 4294967296 := by
  obtain ⟨z, hz, _, hw⟩ := DataW.trod_int Tryd.underlying22 h
  obtain ⟨n, rfl, hn⟩ := nat_of_u32 hw
  cases hz
  exact ⟨n, rfl, hn⟩
theorem open_u16 {fuel : Nat} {c : Value} {x : DataW H × List MemPlace} (h : DataW.trod enc Tryd.prog w 0 (fun _ => true) true fuel 27 [c] = some x) : ∃ n : Nat, c = .int .u16 (n : Int) ∧ n < 65536 := by
  obtain ⟨z, hz, _, hw⟩ := DataW.trod_int Tryd.underlying27 h
  obtain ⟨n, rfl, hn⟩ := nat_of_u16 hw
  cases hz
  exact ⟨n, rfl, hn⟩
theorem open_i64 {fuel : Nat} {c : Value} {x : DataW H × List MemPlace} (h : DataW.trod enc Tryd.prog w 0 (fun _ => true) true fuel 3 [c] = some x) : ∃ n : Int, c = .int .i64 n ∧ (Lit.int .i64 n).wf = true := by
  obtain ⟨z, hz, _, hw⟩ := DataW.trod_int Tryd.underlying3 h
  cases hz
  exact ⟨z, rfl, hw⟩
theorem open_u8 {fuel : Nat} {c : Value} {x : DataW H × List MemPlace} (h : DataW.trod enc Tryd.prog w 0 (fun _ => true) true fuel 5 [c] = some x) : ∃ b : UInt8, c = .int .u8 (b.toNat : Int) := by
  obtain ⟨z, hz, _, hw⟩ := DataW.trod_int Tryd.underlying5 h
  obtain ⟨n, rfl⟩ := byte_of_u8 hw
  cases hz
  exact ⟨n, rfl⟩
/-- An array of bytes: each of its cells. -/
theorem open_arr {t : TypeId} {n fuel : Nat} {cs : List Value} {x : DataW H × List MemPlace} (ht : Tryd.prog.underlying t = some (.array n 5)) (h : DataW.trod enc Tryd.prog w 0 (fun _ => true) true fuel t cs = some x) : ∀ i c, i < n → cs[i]? = some c → ∃ b : UInt8, c = .int .u8 (b.toNat : Int) := by
  obtain ⟨xs, m, _, _, _, hl, hx⟩ := DataW.trod_array ht h
  intro i c hi hc
  have h1 := hx i hi
  rw [co5, Nat.mul_one] at h1
  have h2 : (cs.drop i).take 1 = [c] := by
    have hlt := (List.getElem?_eq_some_iff.1 hc).1
    rw [List.drop_eq_getElem_cons hlt, (List.getElem?_eq_some_iff.1 hc).2]
    rfl
  rw [h2, List.getElem?_eq_getElem (by omega)] at h1
  exact open_u8 h1
theorem open_nums {fuel : Nat} {c : Value} {x : DataW H × List MemPlace} (h : DataW.trod enc Tryd.prog w 0 (fun _ => true) true fuel 26 [c] = some x) : ∃ (A : Option Addr) (k : Nat) (l : List Nat), c = .slice A l.length k ∧ RowAt (fun _ => True) w A (numCells l) ∧ ∀ x ∈ l, x < 4294967296 := by
  obtain ⟨A, n, k, rfl⟩ : ∃ A n k, c = .slice A n k := by
    rcases open_ints Tryd.underlying26 Tryd.underlying22 coU32 h with ⟨hcs, _⟩ | ⟨a, len', cap', zs, hcs, _⟩
    · cases hcs; exact ⟨_, _, _, rfl⟩
    · cases hcs; exact ⟨_, _, _, rfl⟩
  obtain ⟨zs, hz, _, hrow, hw⟩ := open_row_ints Tryd.underlying26 Tryd.underlying22 coU32 h
  refine ⟨A, k, zs.map (·.toNat), by rw [List.length_map, hz], ?_, fun x hx => by
    obtain ⟨z, hz, rfl⟩ := List.mem_map.1 hx
    obtain ⟨n, rfl, hn⟩ := nat_of_u32 (hw z hz)
    simpa using hn⟩
  have e : numCells (zs.map (·.toNat)) = zs.map fun z => .int .u32 z := by
    simp only [numCells, List.map_map]
    refine List.map_congr_left fun z hz => ?_
    obtain ⟨n, rfl, _⟩ := nat_of_u32 (hw z hz)
    simp
  rw [e]
  exact hrow
set_option maxRecDepth 100000 in
theorem open_prs {fuel : Nat} {c : Value} {x : DataW H × List MemPlace} (h : DataW.trod enc Tryd.prog w 0 (fun _ => true) true fuel 28 [c] = some x) : ∃ (A : Option Addr) (k : Nat) (l : List Pr), c = .slice A l.length k ∧ RowAt (fun _ => True) w A (prCells l) ∧ ∀ p ∈ l, p.a < 4294967296 ∧ p.b < 4294967296 := by
  rcases open_slice_pairs Tryd.underlying28 Tryd.underlying49 coPr rfl rfl coU32 coU32 h with ⟨hcs, hx⟩ | ⟨a, len, cap, m, n, V0, V1, D0, D1, P0, P1, hcs, _, hl, hm, hmm, _, hx⟩
  · cases hcs
    exact ⟨none, 0, [], rfl, .nil _ _ _, by simp⟩
  · cases hcs
    simp only [if_true] at hmm
    have hv : ∀ i, i < len → ∃ p : Pr, V0 i = .int .u32 (p.a : Int) ∧ V1 i = .int .u32 (p.b : Int) ∧ p.a < 4294967296 ∧ p.b < 4294967296 := by
      intro i hi
      obtain ⟨_, _, h2, h3⟩ := hx i (by omega)
      obtain ⟨n0, e0, b0⟩ := open_u32 h2
      obtain ⟨n1, e1, b1⟩ := open_u32 h3
      exact ⟨⟨n0, n1⟩, e0, e1, b0, b1⟩
    obtain ⟨g, hg⟩ : ∃ g : Nat → Pr, ∀ i, i < len → V0 i = .int .u32 ((g i).a : Int) ∧ V1 i = .int .u32 ((g i).b : Int) ∧ (g i).a < 4294967296 ∧ (g i).b < 4294967296 :=
      ⟨fun i => if h : i < len then (hv i h).choose else default, fun i hi => by simp only [hi, dif_pos]; exact (hv i hi).choose_spec⟩
    refine ⟨some a, cap, (List.range len).map g, by simp, ?_, fun p hp => by
      obtain ⟨i, hi, rfl⟩ := List.mem_map.1 hp
      exact (hg i (by simpa using hi)).2.2⟩
    by_cases h0 : len = 0
    · subst h0
      exact .nil _ _ _
    · obtain ⟨b, o, spot⟩ := a
      have hs : spot = none := by
        obtain ⟨h1, _⟩ := hx 0 (by omega)
        simpa [Addr.add] using World.cell?_spot h1
      subst hs
      refine .inr ⟨b, o, rfl, trivial, fun j v hj => ?_⟩
      have hjl := (List.getElem?_eq_some_iff.1 hj).1
      rw [prCells_length, List.length_map, List.length_range] at hjl
      have hi : j / 2 < len := by omega
      have hr : ((List.range len).map g)[j / 2]? = some (g (j / 2)) := by simp [hi]
      have hf := flat_at Pr.cells 2 Pr.cells_length _ (j / 2) (j % 2) _ hr (by omega)
      rw [show j / 2 * 2 + j % 2 = j by omega] at hf
      have hj' : (g (j / 2)).cells[j % 2]? = some v := by rw [← hf]; exact hj
      obtain ⟨h1, h2, _, _⟩ := hx (j / 2) (by omega)
      rw [(hg _ hi).1] at h1
      rw [(hg _ hi).2.1] at h2
      rw [Addr.add_lit] at h1 h2
      have hm2 : j % 2 = 0 ∨ j % 2 = 1 := by omega
      rcases hm2 with e | e
      · rw [e] at hj'
        simp only [Pr.cells, List.getElem?_cons_zero, Option.some.injEq] at hj'
        rw [← hj', show o + j = o + j / 2 * 2 by omega]
        exact h1
      · rw [e] at hj'
        simp only [Pr.cells, List.getElem?_cons_succ, List.getElem?_cons_zero, Option.some.injEq] at hj'
        rw [← hj', show o + j = o + (j / 2 * 2 + 1) by omega]
        exact h2
theorem coStr : Tryd.prog.cellsOf 9 = 1 := by kernel_rfl
theorem coK8 : Tryd.prog.cellsOf 23 = 8 := by kernel_rfl
theorem coM6 : Tryd.prog.cellsOf 25 = 6 := by kernel_rfl
theorem coLU : Tryd.prog.cellsOf 26 = 1 := by kernel_rfl
theorem coU16 : Tryd.prog.cellsOf 27 = 1 := by kernel_rfl
theorem coI : Tryd.prog.cellsOf 3 = 1 := by kernel_rfl
theorem coLP : Tryd.prog.cellsOf 28 = 1 := by kernel_rfl
theorem list33 {α : Type} : ∀ (l : List α), l.length = 33 → ∃ c0 c1 c2 c3 c4 c5 c6 c7 c8 c9 c10 c11 c12 c13 c14 c15 c16 c17 c18 c19 c20 c21 c22 c23 c24 c25 c26 c27 c28 c29 c30 c31 c32, l = [c0, c1, c2, c3, c4, c5, c6, c7, c8, c9, c10, c11, c12, c13, c14, c15, c16, c17, c18, c19, c20, c21, c22, c23, c24, c25, c26, c27, c28, c29, c30, c31, c32]
  | c0 :: c1 :: c2 :: c3 :: c4 :: c5 :: c6 :: c7 :: c8 :: c9 :: c10 :: c11 :: c12 :: c13 :: c14 :: c15 :: c16 :: c17 :: c18 :: c19 :: c20 :: c21 :: c22 :: c23 :: c24 :: c25 :: c26 :: c27 :: c28 :: c29 :: c30 :: c31 :: c32 :: [], _ => ⟨c0, c1, c2, c3, c4, c5, c6, c7, c8, c9, c10, c11, c12, c13, c14, c15, c16, c17, c18, c19, c20, c21, c22, c23, c24, c25, c26, c27, c28, c29, c30, c31, c32, rfl⟩
set_option maxRecDepth 100000 in
set_option maxHeartbeats 2000000 in
theorem open_ten {fuel : Nat} {cs : List Value} {x : DataW H × List MemPlace} (h : DataW.trod enc Tryd.prog w 0 (fun _ => true) true fuel 30 cs = some x) : ∃ t : Ten, TenV (fun _ => True) w t (.agg cs.toArray) ∧ t.wf := by
  obtain ⟨xs, n, _, _, hl, hlen, hf⟩ := DataW.trod_struct Tryd.underlying30 h
  rw [coTen] at hl
  obtain ⟨c0, c1, c2, c3, c4, c5, c6, c7, c8, c9, c10, c11, c12, c13, c14, c15, c16, c17, c18, c19, c20, c21, c22, c23, c24, c25, c26, c27, c28, c29, c30, c31, c32, rfl⟩ := list33 cs hl
  have hg : ∀ i, i < 16 → ∃ y, xs[i]? = some y := fun i hi => ⟨_, List.getElem?_eq_getElem (by rw [hlen]; exact hi)⟩
  obtain ⟨y0, hy0⟩ := hg 0 (by decide)
  have t0 : DataW.trod enc Tryd.prog w 0 (fun _ => true) true n 9 [c0] = some y0 := by
    have : DataW.trod enc Tryd.prog w 0 (fun _ => true) true n 9 ((List.drop 0 [c0, c1, c2, c3, c4, c5, c6, c7, c8, c9, c10, c11, c12, c13, c14, c15, c16, c17, c18, c19, c20, c21, c22, c23, c24, c25, c26, c27, c28, c29, c30, c31, c32]).take (Tryd.prog.cellsOf 9)) = xs[0]? := hf 0 _ rfl
    rw [hy0] at this
    rw [coStr] at this
    exact this
  obtain ⟨y1, hy1⟩ := hg 1 (by decide)
  have t1 : DataW.trod enc Tryd.prog w 0 (fun _ => true) true n 22 [c1] = some y1 := by
    have : DataW.trod enc Tryd.prog w 0 (fun _ => true) true n 22 ((List.drop 1 [c0, c1, c2, c3, c4, c5, c6, c7, c8, c9, c10, c11, c12, c13, c14, c15, c16, c17, c18, c19, c20, c21, c22, c23, c24, c25, c26, c27, c28, c29, c30, c31, c32]).take (Tryd.prog.cellsOf 22)) = xs[1]? := hf 1 _ rfl
    rw [hy1] at this
    rw [coU32] at this
    exact this
  obtain ⟨y2, hy2⟩ := hg 2 (by decide)
  have t2 : DataW.trod enc Tryd.prog w 0 (fun _ => true) true n 23 [c2, c3, c4, c5, c6, c7, c8, c9] = some y2 := by
    have : DataW.trod enc Tryd.prog w 0 (fun _ => true) true n 23 ((List.drop 2 [c0, c1, c2, c3, c4, c5, c6, c7, c8, c9, c10, c11, c12, c13, c14, c15, c16, c17, c18, c19, c20, c21, c22, c23, c24, c25, c26, c27, c28, c29, c30, c31, c32]).take (Tryd.prog.cellsOf 23)) = xs[2]? := hf 2 _ rfl
    rw [hy2] at this
    rw [coK8] at this
    exact this
  obtain ⟨y3, hy3⟩ := hg 3 (by decide)
  have t3 : DataW.trod enc Tryd.prog w 0 (fun _ => true) true n 22 [c10] = some y3 := by
    have : DataW.trod enc Tryd.prog w 0 (fun _ => true) true n 22 ((List.drop 10 [c0, c1, c2, c3, c4, c5, c6, c7, c8, c9, c10, c11, c12, c13, c14, c15, c16, c17, c18, c19, c20, c21, c22, c23, c24, c25, c26, c27, c28, c29, c30, c31, c32]).take (Tryd.prog.cellsOf 22)) = xs[3]? := hf 3 _ rfl
    rw [hy3] at this
    rw [coU32] at this
    exact this
  obtain ⟨y4, hy4⟩ := hg 4 (by decide)
  have t4 : DataW.trod enc Tryd.prog w 0 (fun _ => true) true n 25 [c11, c12, c13, c14, c15, c16] = some y4 := by
    have : DataW.trod enc Tryd.prog w 0 (fun _ => true) true n 25 ((List.drop 11 [c0, c1, c2, c3, c4, c5, c6, c7, c8, c9, c10, c11, c12, c13, c14, c15, c16, c17, c18, c19, c20, c21, c22, c23, c24, c25, c26, c27, c28, c29, c30, c31, c32]).take (Tryd.prog.cellsOf 25)) = xs[4]? := hf 4 _ rfl
    rw [hy4] at this
    rw [coM6] at this
    exact this
  obtain ⟨y5, hy5⟩ := hg 5 (by decide)
  have t5 : DataW.trod enc Tryd.prog w 0 (fun _ => true) true n 25 [c17, c18, c19, c20, c21, c22] = some y5 := by
    have : DataW.trod enc Tryd.prog w 0 (fun _ => true) true n 25 ((List.drop 17 [c0, c1, c2, c3, c4, c5, c6, c7, c8, c9, c10, c11, c12, c13, c14, c15, c16, c17, c18, c19, c20, c21, c22, c23, c24, c25, c26, c27, c28, c29, c30, c31, c32]).take (Tryd.prog.cellsOf 25)) = xs[5]? := hf 5 _ rfl
    rw [hy5] at this
    rw [coM6] at this
    exact this
  obtain ⟨y6, hy6⟩ := hg 6 (by decide)
  have t6 : DataW.trod enc Tryd.prog w 0 (fun _ => true) true n 26 [c23] = some y6 := by
    have : DataW.trod enc Tryd.prog w 0 (fun _ => true) true n 26 ((List.drop 23 [c0, c1, c2, c3, c4, c5, c6, c7, c8, c9, c10, c11, c12, c13, c14, c15, c16, c17, c18, c19, c20, c21, c22, c23, c24, c25, c26, c27, c28, c29, c30, c31, c32]).take (Tryd.prog.cellsOf 26)) = xs[6]? := hf 6 _ rfl
    rw [hy6] at this
    rw [coLU] at this
    exact this
  obtain ⟨y7, hy7⟩ := hg 7 (by decide)
  have t7 : DataW.trod enc Tryd.prog w 0 (fun _ => true) true n 27 [c24] = some y7 := by
    have : DataW.trod enc Tryd.prog w 0 (fun _ => true) true n 27 ((List.drop 24 [c0, c1, c2, c3, c4, c5, c6, c7, c8, c9, c10, c11, c12, c13, c14, c15, c16, c17, c18, c19, c20, c21, c22, c23, c24, c25, c26, c27, c28, c29, c30, c31, c32]).take (Tryd.prog.cellsOf 27)) = xs[7]? := hf 7 _ rfl
    rw [hy7] at this
    rw [coU16] at this
    exact this
  obtain ⟨y8, hy8⟩ := hg 8 (by decide)
  have t8 : DataW.trod enc Tryd.prog w 0 (fun _ => true) true n 27 [c25] = some y8 := by
    have : DataW.trod enc Tryd.prog w 0 (fun _ => true) true n 27 ((List.drop 25 [c0, c1, c2, c3, c4, c5, c6, c7, c8, c9, c10, c11, c12, c13, c14, c15, c16, c17, c18, c19, c20, c21, c22, c23, c24, c25, c26, c27, c28, c29, c30, c31, c32]).take (Tryd.prog.cellsOf 27)) = xs[8]? := hf 8 _ rfl
    rw [hy8] at this
    rw [coU16] at this
    exact this
  obtain ⟨y9, hy9⟩ := hg 9 (by decide)
  have t9 : DataW.trod enc Tryd.prog w 0 (fun _ => true) true n 3 [c26] = some y9 := by
    have : DataW.trod enc Tryd.prog w 0 (fun _ => true) true n 3 ((List.drop 26 [c0, c1, c2, c3, c4, c5, c6, c7, c8, c9, c10, c11, c12, c13, c14, c15, c16, c17, c18, c19, c20, c21, c22, c23, c24, c25, c26, c27, c28, c29, c30, c31, c32]).take (Tryd.prog.cellsOf 3)) = xs[9]? := hf 9 _ rfl
    rw [hy9] at this
    rw [coI] at this
    exact this
  obtain ⟨y10, hy10⟩ := hg 10 (by decide)
  have t10 : DataW.trod enc Tryd.prog w 0 (fun _ => true) true n 28 [c27] = some y10 := by
    have : DataW.trod enc Tryd.prog w 0 (fun _ => true) true n 28 ((List.drop 27 [c0, c1, c2, c3, c4, c5, c6, c7, c8, c9, c10, c11, c12, c13, c14, c15, c16, c17, c18, c19, c20, c21, c22, c23, c24, c25, c26, c27, c28, c29, c30, c31, c32]).take (Tryd.prog.cellsOf 28)) = xs[10]? := hf 10 _ rfl
    rw [hy10] at this
    rw [coLP] at this
    exact this
  obtain ⟨y11, hy11⟩ := hg 11 (by decide)
  have t11 : DataW.trod enc Tryd.prog w 0 (fun _ => true) true n 28 [c28] = some y11 := by
    have : DataW.trod enc Tryd.prog w 0 (fun _ => true) true n 28 ((List.drop 28 [c0, c1, c2, c3, c4, c5, c6, c7, c8, c9, c10, c11, c12, c13, c14, c15, c16, c17, c18, c19, c20, c21, c22, c23, c24, c25, c26, c27, c28, c29, c30, c31, c32]).take (Tryd.prog.cellsOf 28)) = xs[11]? := hf 11 _ rfl
    rw [hy11] at this
    rw [coLP] at this
    exact this
  obtain ⟨y12, hy12⟩ := hg 12 (by decide)
  have t12 : DataW.trod enc Tryd.prog w 0 (fun _ => true) true n 3 [c29] = some y12 := by
    have : DataW.trod enc Tryd.prog w 0 (fun _ => true) true n 3 ((List.drop 29 [c0, c1, c2, c3, c4, c5, c6, c7, c8, c9, c10, c11, c12, c13, c14, c15, c16, c17, c18, c19, c20, c21, c22, c23, c24, c25, c26, c27, c28, c29, c30, c31, c32]).take (Tryd.prog.cellsOf 3)) = xs[12]? := hf 12 _ rfl
    rw [hy12] at this
    rw [coI] at this
    exact this
  obtain ⟨y13, hy13⟩ := hg 13 (by decide)
  have t13 : DataW.trod enc Tryd.prog w 0 (fun _ => true) true n 3 [c30] = some y13 := by
    have : DataW.trod enc Tryd.prog w 0 (fun _ => true) true n 3 ((List.drop 30 [c0, c1, c2, c3, c4, c5, c6, c7, c8, c9, c10, c11, c12, c13, c14, c15, c16, c17, c18, c19, c20, c21, c22, c23, c24, c25, c26, c27, c28, c29, c30, c31, c32]).take (Tryd.prog.cellsOf 3)) = xs[13]? := hf 13 _ rfl
    rw [hy13] at this
    rw [coI] at this
    exact this
  obtain ⟨y14, hy14⟩ := hg 14 (by decide)
  have t14 : DataW.trod enc Tryd.prog w 0 (fun _ => true) true n 22 [c31] = some y14 := by
    have : DataW.trod enc Tryd.prog w 0 (fun _ => true) true n 22 ((List.drop 31 [c0, c1, c2, c3, c4, c5, c6, c7, c8, c9, c10, c11, c12, c13, c14, c15, c16, c17, c18, c19, c20, c21, c22, c23, c24, c25, c26, c27, c28, c29, c30, c31, c32]).take (Tryd.prog.cellsOf 22)) = xs[14]? := hf 14 _ rfl
    rw [hy14] at this
    rw [coU32] at this
    exact this
  obtain ⟨y15, hy15⟩ := hg 15 (by decide)
  have t15 : DataW.trod enc Tryd.prog w 0 (fun _ => true) true n 22 [c32] = some y15 := by
    have : DataW.trod enc Tryd.prog w 0 (fun _ => true) true n 22 ((List.drop 32 [c0, c1, c2, c3, c4, c5, c6, c7, c8, c9, c10, c11, c12, c13, c14, c15, c16, c17, c18, c19, c20, c21, c22, c23, c24, c25, c26, c27, c28, c29, c30, c31, c32]).take (Tryd.prog.cellsOf 22)) = xs[15]? := hf 15 _ rfl
    rw [hy15] at this
    rw [coU32] at this
    exact this
  clear hf hg h hl hlen
  obtain ⟨s, hs⟩ := trod_str Tryd.underlying9 t0
  cases hs
  obtain ⟨vni, rfl, bvni⟩ := open_u32 t1
  obtain ⟨key0, rfl⟩ := open_arr Tryd.underlying23 t2 0 _ (by decide) rfl
  obtain ⟨key1, rfl⟩ := open_arr Tryd.underlying23 t2 1 _ (by decide) rfl
  obtain ⟨key2, rfl⟩ := open_arr Tryd.underlying23 t2 2 _ (by decide) rfl
  obtain ⟨key3, rfl⟩ := open_arr Tryd.underlying23 t2 3 _ (by decide) rfl
  obtain ⟨key4, rfl⟩ := open_arr Tryd.underlying23 t2 4 _ (by decide) rfl
  obtain ⟨key5, rfl⟩ := open_arr Tryd.underlying23 t2 5 _ (by decide) rfl
  obtain ⟨key6, rfl⟩ := open_arr Tryd.underlying23 t2 6 _ (by decide) rfl
  obtain ⟨key7, rfl⟩ := open_arr Tryd.underlying23 t2 7 _ (by decide) rfl
  obtain ⟨vtep, rfl, bvtep⟩ := open_u32 t3
  obtain ⟨vmac0, rfl⟩ := open_arr Tryd.underlying25 t4 0 _ (by decide) rfl
  obtain ⟨vmac1, rfl⟩ := open_arr Tryd.underlying25 t4 1 _ (by decide) rfl
  obtain ⟨vmac2, rfl⟩ := open_arr Tryd.underlying25 t4 2 _ (by decide) rfl
  obtain ⟨vmac3, rfl⟩ := open_arr Tryd.underlying25 t4 3 _ (by decide) rfl
  obtain ⟨vmac4, rfl⟩ := open_arr Tryd.underlying25 t4 4 _ (by decide) rfl
  obtain ⟨vmac5, rfl⟩ := open_arr Tryd.underlying25 t4 5 _ (by decide) rfl
  obtain ⟨host0, rfl⟩ := open_arr Tryd.underlying25 t5 0 _ (by decide) rfl
  obtain ⟨host1, rfl⟩ := open_arr Tryd.underlying25 t5 1 _ (by decide) rfl
  obtain ⟨host2, rfl⟩ := open_arr Tryd.underlying25 t5 2 _ (by decide) rfl
  obtain ⟨host3, rfl⟩ := open_arr Tryd.underlying25 t5 3 _ (by decide) rfl
  obtain ⟨host4, rfl⟩ := open_arr Tryd.underlying25 t5 4 _ (by decide) rfl
  obtain ⟨host5, rfl⟩ := open_arr Tryd.underlying25 t5 5 _ (by decide) rfl
  obtain ⟨P, p, pool, rfl, rP, bpool⟩ := open_nums t6
  obtain ⟨lo, rfl, blo⟩ := open_u16 t7
  obtain ⟨hi, rfl, bhi⟩ := open_u16 t8
  obtain ⟨filter, rfl, bfilter⟩ := open_i64 t9
  obtain ⟨Q, q, statics, rfl, rQ, bstatics⟩ := open_prs t10
  obtain ⟨R, r, twices, rfl, rR, btwices⟩ := open_prs t11
  obtain ⟨sess, rfl, bsess⟩ := open_i64 t12
  obtain ⟨queue, rfl, bqueue⟩ := open_i64 t13
  obtain ⟨rate, rfl, brate⟩ := open_u32 t14
  obtain ⟨burst, rfl, bburst⟩ := open_u32 t15
  exact ⟨⟨s.data.toList, vni, ⟨key0, key1, key2, key3, key4, key5, key6, key7⟩, vtep, ⟨vmac0, vmac1, vmac2, vmac3, vmac4, vmac5⟩, ⟨host0, host1, host2, host3, host4, host5⟩, pool, lo, hi, filter, statics, twices, sess, queue, rate, burst⟩, ⟨P, p, Q, q, R, r, rfl, rP, rQ, rR⟩, ⟨bvni, bvtep, bpool, blo, bhi, bfilter, bstatics, btwices, bsess, bqueue, brate, bburst⟩⟩
end

section
attribute [local go_sem] stPair gtPair
attribute [local go_sem high] neqPair
open Go.RowKit
set_option linter.unusedVariables false
theorem szU8 : ∀ w, (sizeOf 5).run Tryd.prog w = .ok 1 w := fun w => by kernel_rfl
theorem gtK8 : Tryd.prog.eqGuardType Tryd.prog.depth 23 = false := by kernel_rfl
attribute [local go_sem] gtK8
theorem gtM6 : Tryd.prog.eqGuardType Tryd.prog.depth 25 = false := by kernel_rfl
attribute [local go_sem] gtM6
theorem k8_beq (a b : K8) : (a.l == b.l) = decide (a = b) := by
  obtain ⟨a0, a1, a2, a3, a4, a5, a6, a7⟩ := a
  obtain ⟨b0, b1, b2, b3, b4, b5, b6, b7⟩ := b
  rw [Bool.eq_iff_iff]
  simp [K8.l]
theorem m6_beq (a b : M6) : (a.l == b.l) = decide (a = b) := by
  obtain ⟨a0, a1, a2, a3, a4, a5⟩ := a
  obtain ⟨b0, b1, b2, b3, b4, b5⟩ := b
  rw [Bool.eq_iff_iff]
  simp [M6.l]
theorem eqK8 (a b : K8) (w : World) : (binOp .eql 23 (.agg #[.int .u8 (a.b0.toNat : Int), .int .u8 (a.b1.toNat : Int), .int .u8 (a.b2.toNat : Int), .int .u8 (a.b3.toNat : Int), .int .u8 (a.b4.toNat : Int), .int .u8 (a.b5.toNat : Int), .int .u8 (a.b6.toNat : Int), .int .u8 (a.b7.toNat : Int)]) (.agg #[.int .u8 (b.b0.toNat : Int), .int .u8 (b.b1.toNat : Int), .int .u8 (b.b2.toNat : Int), .int .u8 (b.b3.toNat : Int), .int .u8 (b.b4.toNat : Int), .int .u8 (b.b5.toNat : Int), .int .u8 (b.b6.toNat : Int), .int .u8 (b.b7.toNat : Int)])).run Tryd.prog w = .ok (.bool (decide (a = b))) w := by
  rw [← k8_beq]
  exact run_eql_bytes w 23 5 8 Tryd.underlying23 Tryd.underlying5 szU8 a.l b.l rfl rfl
attribute [local go_sem high] eqK8
theorem eqM6 (a b : M6) (w : World) : (binOp .eql 25 (.agg #[.int .u8 (a.b0.toNat : Int), .int .u8 (a.b1.toNat : Int), .int .u8 (a.b2.toNat : Int), .int .u8 (a.b3.toNat : Int), .int .u8 (a.b4.toNat : Int), .int .u8 (a.b5.toNat : Int)]) (.agg #[.int .u8 (b.b0.toNat : Int), .int .u8 (b.b1.toNat : Int), .int .u8 (b.b2.toNat : Int), .int .u8 (b.b3.toNat : Int), .int .u8 (b.b4.toNat : Int), .int .u8 (b.b5.toNat : Int)])).run Tryd.prog w = .ok (.bool (decide (a = b))) w := by
  rw [← m6_beq]
  exact run_eql_bytes w 25 5 6 Tryd.underlying25 Tryd.underlying5 szU8 a.l b.l rfl rfl
attribute [local go_sem high] eqM6
theorem str_beq (l m : List UInt8) : ((str l).toList == (str m).toList) = decide (l = m) := by
  rw [ByteArray.toList_eq, ByteArray.toList_eq, Bool.eq_iff_iff]
  simp [str]
theorem eqStr (l m : List UInt8) (w : World) : (binOp .eql 9 (.string (str l)) (.string (str m))).run Tryd.prog w = .ok (.bool (decide (l = m))) w := by
  rw [binOp_string_eql]
  simp only [Sem.run_pure, str_beq]
set_option maxRecDepth 100000 in
theorem box_ten (CA : Array Value) (h : CA.size = 33) : ∀ W, (Instr.box 30 (.agg CA)).run Tryd.prog W = .ok (.pointer (some ⟨W.heap.size, 0, none⟩)) (W.alloc (.cells CA 30)) := by
  intro W
  go_simp
end

section
attribute [local go_sem] stPair gtPair gtK8 gtM6
attribute [local go_sem high] neqPair eqK8 eqM6
open Go.RowKit
set_option linter.unusedVariables false
/-- A name's bytes behind its length. -/
def nameB' (l : List UInt8) : List UInt8 := be 1 (min l.length 255) ++ l.take 255
end

section
attribute [local go_sem] stPair gtPair gtK8 gtM6
attribute [local go_sem high] neqPair eqK8 eqM6
open Go.RowKit
set_option linter.unusedVariables false
def nums4 (l : List Nat) : List UInt8 := l.flatMap (be 4)
def prs8 (l : List Pr) : List UInt8 := l.flatMap fun p => be 4 p.a ++ be 4 p.b
end

section
attribute [local go_sem] stPair gtPair gtK8 gtM6
attribute [local go_sem high] neqPair eqK8 eqM6
open Go.RowKit
set_option linter.unusedVariables false
def light (t : Ten) : Bool := decide (t.name.length ≤ 300) && decide (t.pool.length ≤ 300) && decide (t.statics.length ≤ 300) && decide (t.twices.length ≤ 300)
set_option maxRecDepth 100000 in
theorem light_ok {S : Nat → Prop} {w : World} (a : Ten) (va : Value) (ha : TenV S w a va) :
    Calls Tryd.prog 10 #[va] w fun e w' => e = .returned (.bool (light a)) ∧ Mod No w w' := by
  obtain ⟨P, p, Q, q, R, r, rfl, h1, h2, h3⟩ := ha.val
  obtain ⟨CA, hCA⟩ : ∃ CA, CA = a.cells (.slice P a.pool.length p) (.slice Q a.statics.length q) (.slice R a.twices.length r) := ⟨_, rfl⟩
  have bA := box_ten CA (by rw [hCA]; rfl)
  rw [← hCA]
  have c0 : CA[0]? = some (Value.string (str a.name)) := by rw [hCA]; rfl
  have c1 : CA[23]? = some (Value.slice P a.pool.length p) := by rw [hCA]; rfl
  have c2 : CA[27]? = some (Value.slice Q a.statics.length q) := by rw [hCA]; rfl
  have c3 : CA[28]? = some (Value.slice R a.twices.length r) := by rw [hCA]; rfl
  have hs : (str a.name).size = a.name.length := by simp [str, ByteArray.size]
  have l0 : decide ((a.name.length : Int) ≤ 300) = decide (a.name.length ≤ 300) := by rw [decide_eq_decide]; omega
  have l1 : decide ((a.pool.length : Int) ≤ 300) = decide (a.pool.length ≤ 300) := by rw [decide_eq_decide]; omega
  have l2 : decide ((a.statics.length : Int) ≤ 300) = decide (a.statics.length ≤ 300) := by rw [decide_eq_decide]; omega
  have l3 : decide ((a.twices.length : Int) ≤ 300) = decide (a.twices.length ≤ 300) := by rw [decide_eq_decide]; omega
  have hl : light a = (decide (a.name.length ≤ 300) && decide (a.pool.length ≤ 300) && decide (a.statics.length ≤ 300) && decide (a.twices.length ≤ 300)) := rfl
  rw [hl]
  generalize decide (a.name.length ≤ 300) = b0 at l0 ⊢
  generalize decide (a.pool.length ≤ 300) = b1 at l1 ⊢
  generalize decide (a.statics.length ≤ 300) = b2 at l2 ⊢
  generalize decide (a.twices.length ≤ 300) = b3 at l3 ⊢
  clear ha h1 h2 h3 hCA hl
  cases b0
  · go_enter Tryd.func10, Tryd.ntmps10
    go_wp2
    go_ret
    exact ⟨by simp, (Mod.refl _ _).alloc _⟩
  cases b1
  · go_enter Tryd.func10, Tryd.ntmps10
    go_wp2
    go_ret
    exact ⟨by simp, (Mod.refl _ _).alloc _⟩
  cases b2
  · go_enter Tryd.func10, Tryd.ntmps10
    go_wp2
    go_ret
    exact ⟨by simp, (Mod.refl _ _).alloc _⟩
  cases b3
  all_goals
    go_enter Tryd.func10, Tryd.ntmps10
    go_wp2
    go_ret
    exact ⟨by simp, (Mod.refl _ _).alloc _⟩
end

section
attribute [local go_sem] stPair gtPair gtK8 gtM6
attribute [local go_sem high] neqPair eqK8 eqM6
open Go.RowKit
set_option linter.unusedVariables false
theorem results_cell_tmp {P : Program} {fn : Func} {p q : Tmp} {ty : TypeId} (h : fn.results = #[.cell p ty, .tmp q]) (tmps : Array Value) (w : World) (g : Nat) (t : TypeId) (cs : Array Value) (fr : Nat × Nat) (d : TypeDesc)
    (hp : tmps.getD p undef = .pointer (some ⟨g, 0, none⟩)) (hg : w.heap[g]? = some (.cells cs t fr))
    (hu : P.underlying ty = some d) (hd : (match d with | .struct _ | .array _ _ => true | _ => false) = true) (hi : (P.info? ty).map (·.size) = some cs.size) :
    (results fn tmps).run P w = .ok (.tuple #[.agg cs, tmps.getD q undef]) w := by
  have hp' : tmps[p]?.getD undef = .pointer (some ⟨g, 0, none⟩) := by simpa using hp
  simp [results, h, hp', asAddr, run_loadVar_row w g t ty cs fr d hg hu hd hi]
section
variable {P : Program} {ops : Array Oper} {Q : Exit → Act → World → Prop}
end
end

section
attribute [local go_sem] stPair gtPair gtK8 gtM6
attribute [local go_sem high] neqPair eqK8 eqM6
open Go.RowKit
set_option linter.unusedVariables false
theorem run_store_func {P : Program} {w : World} {a : Addr} {m : Mode} (f : Fn) (ts cs : Array Value) : (store a (.func f ts cs) m).run P w = stored P w a (.func f ts cs) m := run_store P w a _ m rfl
attribute [local go_sem] run_store_func
end

section
attribute [local go_sem] stPair gtPair gtK8 gtM6 run_store_func
attribute [local go_sem high] neqPair eqK8 eqM6
open Go.RowKit
set_option linter.unusedVariables false
/-- A number as its low 64 bits. -/
def u64n (z : Int) : Nat := (IntKind.u64.wrap z).toNat
/-- A tenant's bytes, field by field. -/
def wfields (t : Ten) : List (List UInt8) :=
  [nameB' t.name, be 4 t.vni, t.key.l, be 4 t.vtep, t.vmac.l, t.host.l, be 2 t.lo, be 2 t.hi, be 1 (u64n t.filter), be 2 (u64n t.sess), be 2 (u64n t.queue), be 4 t.rate, be 4 t.burst,
    be 1 (min t.pool.length 255), be 1 (min t.statics.length 255), be 1 (min t.twices.length 255), nums4 (t.pool.take 255), prs8 (t.statics.take 255), prs8 (t.twices.take 255)]
/-- Each number lies in its type. -/
structure Ten.Ok (t : Ten) : Prop where
  vni : t.vni < 4294967296
  vtep : t.vtep < 4294967296
  lo : t.lo < 65536
  hi : t.hi < 65536
  rate : t.rate < 4294967296
  burst : t.burst < 4294967296
  pool : ∀ x ∈ t.pool, x < 4294967296
  statics : ∀ x ∈ t.statics, x.a < 4294967296 ∧ x.b < 4294967296
  twices : ∀ x ∈ t.twices, x.a < 4294967296 ∧ x.b < 4294967296
section
variable {w0 : World} {n C base T o : Nat} {v0 : Value} {pre post : List Value} {tt : TypeId} {vp vs vt : Value} {t t1 : Ten} {np ns nt : Nat} {X : List UInt8} {v : Value} {w : World}
end
section
variable {w0 : World} {n C base T o : Nat} {v0 : Value} {pre post : List Value} {tt : TypeId} {vp vs vt : Value} {t : Ten} {L : List UInt8} {v : Value} {w : World}
end
end

section
attribute [local go_sem] stPair gtPair gtK8 gtM6 run_store_func
attribute [local go_sem high] neqPair eqK8 eqM6
open Go.RowKit
set_option linter.unusedVariables false
abbrev St := Nat × Bool
end

section
attribute [local go_sem] stPair gtPair gtK8 gtM6 run_store_func
attribute [local go_sem high] neqPair eqK8 eqM6
open Go.RowKit
set_option linter.unusedVariables false
def M6.of (l : List UInt8) : M6 := ⟨l.getD 0 0, l.getD 1 0, l.getD 2 0, l.getD 3 0, l.getD 4 0, l.getD 5 0⟩
def K8.of (l : List UInt8) : K8 := ⟨l.getD 0 0, l.getD 1 0, l.getD 2 0, l.getD 3 0, l.getD 4 0, l.getD 5 0, l.getD 6 0, l.getD 7 0⟩
/-- A tenant that is being read: its fields so far, the three counts, the reader's state. -/
structure RS where
  t : Ten
  np : Nat
  ns : Nat
  nt : Nat
  s : St
end

section
attribute [local go_sem] stPair gtPair gtK8 gtM6 run_store_func
attribute [local go_sem high] neqPair eqK8 eqM6
open Go.RowKit
set_option linter.unusedVariables false
set_option linter.unusedSimpArgs false
/-- Where field k begins. -/
def pos (L : List UInt8) (t : Ten) (k : Nat) : St := ((L ++ ((wfields t).take k).flatten).length, false)
end

section
attribute [local go_sem] stPair gtPair gtK8 gtM6
attribute [local go_sem high] neqPair eqK8 eqM6
open Go.RowKit
set_option linter.unusedVariables false
theorem tenSize : (Tryd.prog.info? 30).map (·.size) = some 33 := by kernel_rfl
theorem load_ten {W : World} {b : Nat} {CA : Array Value} (h : W.heap[b]? = some (.cells CA 30 (0, 0))) (hc : CA.size = 33) :
    (Instr.loadAt 30 (.pointer (some ⟨b, 0, none⟩))).run Tryd.prog W = .ok (.agg CA) W := by
  simp only [Instr.loadAt, Instr.sureAddr, Sem.run_bind, Sem.run_pure, Result.andThen_ok]
  exact run_loadVar_row W b _ _ CA (0, 0) _ h Tryd.underlying30 rfl (by rw [tenSize, hc])
/-- A tenant loaded: under a name of its own, which the walk does not lay open. -/
def tenLoad (v : Value) : Sem Value := Instr.loadAt 30 v
theorem load_fold (v : Value) : Instr.loadAt 30 v = tenLoad v := rfl
attribute [local go_sem ↓] load_fold
theorem tenLoad_run {W : World} {b : Nat} {CA : Array Value} (h : W.heap[b]? = some (.cells CA 30 (0, 0))) (hc : CA.size = 33) : (tenLoad (.pointer (some ⟨b, 0, none⟩))).run Tryd.prog W = .ok (.agg CA) W := load_ten h hc
end

section
attribute [local go_sem] stPair gtPair gtK8 gtM6 run_store_func
attribute [local go_sem high] neqPair eqK8 eqM6
attribute [local go_sem ↓] load_fold
open Go.RowKit
set_option linter.unusedVariables false
/-- A tenant with its three lists' values. -/
structure TV where
  t : Ten
  vp : Value
  vs : Value
  vt : Value
def TV.cells (x : TV) : List Value := (x.t.cells x.vp x.vs x.vt).toList
theorem TV.len (x : TV) : x.cells.length = 33 := rfl
def tvCells (l : List TV) : List Value := l.flatMap TV.cells
def TV.Rows (S : Nat → Prop) (w : World) (x : TV) : Prop :=
  ∃ P p Q q R r, x.vp = .slice P x.t.pool.length p ∧ x.vs = .slice Q x.t.statics.length q ∧ x.vt = .slice R x.t.twices.length r ∧ RowAt S w P (numCells x.t.pool) ∧ RowAt S w Q (prCells x.t.statics) ∧ RowAt S w R (prCells x.t.twices)
theorem TV.Rows.imp {S S' : Nat → Prop} {w : World} {x : TV} (h : x.Rows S w) (hs : ∀ b, S b → S' b) : x.Rows S' w := by
  obtain ⟨P, p, Q, q, R, r, e1, e2, e3, r1, r2, r3⟩ := h
  exact ⟨P, p, Q, q, R, r, e1, e2, e3, r1.mono (fun b _ => hs b), r2.mono (fun b _ => hs b), r3.mono (fun b _ => hs b)⟩
theorem TV.Rows.lt {S S' : Nat → Prop} {w : World} {x : TV} (h : x.Rows S w) (hs : ∀ b, b < w.heap.size → S b → S' b) : x.Rows S' w := by
  obtain ⟨P, p, Q, q, R, r, e1, e2, e3, r1, r2, r3⟩ := h
  exact ⟨P, p, Q, q, R, r, e1, e2, e3, r1.mono hs, r2.mono hs, r3.mono hs⟩
theorem TV.Rows.keeps {S : Nat → Prop} {w w' : World} {x : TV} (h : x.Rows S w) (hk : Keeps S w w') : x.Rows S w' := by
  obtain ⟨P, p, Q, q, R, r, e1, e2, e3, r1, r2, r3⟩ := h
  exact ⟨P, p, Q, q, R, r, e1, e2, e3, r1.keeps hk, r2.keeps hk, r3.keeps hk⟩
/-! a tenant's operations under names of their own, which the walk does not lay open -/
def tenStore (p v : Value) : Sem Unit := Instr.storeAt 30 p v
theorem store_fold (p v : Value) : Instr.storeAt 30 p v = tenStore p v := rfl
attribute [local go_sem ↓] store_fold
def tenAlloc (v : Value) : Sem Value := Instr.alloc 30 true v
theorem alloc_fold (v : Value) : Instr.alloc 30 true v = tenAlloc v := rfl
attribute [local go_sem ↓] alloc_fold
def zTen : Array Value := Ten.zero.cells (.slice none 0 0) (.slice none 0 0) (.slice none 0 0)
set_option maxRecDepth 100000 in
theorem tenAlloc_run (W : World) : (tenAlloc (.tuple #[])).run Tryd.prog W = .ok (.pointer (some ⟨W.heap.size, 0, none⟩)) (W.alloc (.cells zTen 30)) := by kernel_rfl
theorem ten_one (t : Ten) (P Q R : Option Addr) (a b c d e f : Nat) : (t.cells (.slice P a b) (.slice Q c d) (.slice R e f)).all (·.oneCell') = true := by
  simp [Ten.cells, Value.oneCell']
theorem TV.one {S : Nat → Prop} {w : World} {x : TV} (h : x.Rows S w) : x.cells.toArray.all (·.oneCell') = true := by
  obtain ⟨P, p, Q, q, R, r, e1, e2, e3, _⟩ := h
  simp only [TV.cells, e1, e2, e3, Array.toArray_toList]
  exact ten_one _ _ _ _ _ _ _ _ _ _
theorem setRow_alloc (W : World) (a b : Array Value) (t : TypeId) : (W.alloc (.cells a t)).setRow W.heap.size b = W.alloc (.cells b t) := by
  unfold World.setRow World.alloc
  congr 1
  apply Array.ext_getElem?
  intro i
  rw [Array.getElem?_modify, Array.getElem?_push, Array.getElem?_push]
  by_cases h : W.heap.size = i
  · subst h; simp
  · have h' : ¬ i = W.heap.size := fun e => h e.symm
    simp [h, h']
theorem tenStore_new (W : World) (CA : Array Value) (hc : CA.size = 33) (h1 : CA.all (·.oneCell') = true) : (tenStore (.pointer (some ⟨W.heap.size, 0, none⟩)) (.agg CA)).run Tryd.prog (W.alloc (.cells zTen 30)) = .ok () (W.alloc (.cells CA 30)) := by
  simp only [tenStore, Instr.storeAt, Instr.sureAddr, Sem.run_bind, Sem.run_pure, Result.andThen_ok]
  rw [← setRow_alloc W zTen CA]
  exact run_storeVar_row _ _ _ _ zTen CA (at10 W _) (by rw [tenSize, hc]) (by rw [hc]; rfl) h1
theorem tenLoad_mid (W : World) (b o : Nat) (cs : List Value) (hl : cs.length = 33) (h : ∀ j v, cs[j]? = some v → W.cell? ⟨b, o + j, none⟩ = some v) : (tenLoad (.pointer (some ⟨b, o, none⟩))).run Tryd.prog W = .ok (.agg cs.toArray) W :=
  run_loadAt_mid W b o _ cs _ h Tryd.underlying30 rfl (by rw [tenSize, hl])
end

section
attribute [local go_sem] stPair gtPair gtK8 gtM6 run_store_func
attribute [local go_sem high] neqPair eqK8 eqM6
attribute [local go_sem ↓] load_fold store_fold alloc_fold
open Go.RowKit
set_option linter.unusedVariables false
theorem infoTen : (Tryd.prog.info? 30).map (fun i => (i.zero, i.size, i.bytes)) = some (some (.agg zTen), 33, 160) := by kernel_rfl
theorem list33' {α : Type} : ∀ (l : List α), l.length = 33 → ∃ c0 c1 c2 c3 c4 c5 c6 c7 c8 c9 c10 c11 c12 c13 c14 c15 c16 c17 c18 c19 c20 c21 c22 c23 c24 c25 c26 c27 c28 c29 c30 c31 c32, l = [c0, c1, c2, c3, c4, c5, c6, c7, c8, c9, c10, c11, c12, c13, c14, c15, c16, c17, c18, c19, c20, c21, c22, c23, c24, c25, c26, c27, c28, c29, c30, c31, c32]
  | c0 :: c1 :: c2 :: c3 :: c4 :: c5 :: c6 :: c7 :: c8 :: c9 :: c10 :: c11 :: c12 :: c13 :: c14 :: c15 :: c16 :: c17 :: c18 :: c19 :: c20 :: c21 :: c22 :: c23 :: c24 :: c25 :: c26 :: c27 :: c28 :: c29 :: c30 :: c31 :: c32 :: [], _ => ⟨c0, c1, c2, c3, c4, c5, c6, c7, c8, c9, c10, c11, c12, c13, c14, c15, c16, c17, c18, c19, c20, c21, c22, c23, c24, c25, c26, c27, c28, c29, c30, c31, c32, rfl⟩
set_option maxRecDepth 100000 in
theorem ten_build (CA : Array Value) (h : CA.size = 33) : ∀ W, (Instr.buildSlice 37 1 #[(0, .agg CA)]).run Tryd.prog W = .ok (.slice (some ⟨W.heap.size, 0, none⟩) 1 1) (W.alloc (.cells CA 30)) := by
  intro W
  obtain ⟨ie, hie, hz0, hz1, hz2⟩ := info_parts infoTen
  refine Go.run_buildSlice W _ 30 1 _ CA ie _ Tryd.underlying37 hie hz0 (by rw [hz1]; decide) (by rw [hz1]; decide) ?_
  rw [hz1]
  obtain ⟨l⟩ := CA
  obtain ⟨c0, c1, c2, c3, c4, c5, c6, c7, c8, c9, c10, c11, c12, c13, c14, c15, c16, c17, c18, c19, c20, c21, c22, c23, c24, c25, c26, c27, c28, c29, c30, c31, c32, rfl⟩ := list33' l (by simpa using h)
  kernel_rfl
end

section
attribute [local go_sem] stPair gtPair gtK8 gtM6 run_store_func
attribute [local go_sem high] neqPair eqK8 eqM6
attribute [local go_sem ↓] load_fold store_fold alloc_fold
open Go.RowKit
set_option linter.unusedVariables false
/-- Settings as data, but for their tenants. -/
structure Con where
  ip : Nat
  mac : M6
  omac : M6
  nmac : M6
  key : K8
  drain : Nat
  deriving DecidableEq, Inhabited
def Con.cells (c : Con) (vt : Value) : Array Value :=
  #[.int .u32 (c.ip : Int), u8v c.mac.b0, u8v c.mac.b1, u8v c.mac.b2, u8v c.mac.b3, u8v c.mac.b4, u8v c.mac.b5,
    u8v c.omac.b0, u8v c.omac.b1, u8v c.omac.b2, u8v c.omac.b3, u8v c.omac.b4, u8v c.omac.b5,
    u8v c.nmac.b0, u8v c.nmac.b1, u8v c.nmac.b2, u8v c.nmac.b3, u8v c.nmac.b4, u8v c.nmac.b5,
    u8v c.key.b0, u8v c.key.b1, u8v c.key.b2, u8v c.key.b3, u8v c.key.b4, u8v c.key.b5, u8v c.key.b6, u8v c.key.b7, .int .u32 (c.drain : Int), vt]
section
variable {w0 : World} {n C base T : Nat} {c : Con} {vt : Value} {l : List TV} {nt : Nat} {X : List UInt8} {v : Value} {w : World}
end
end

section
attribute [local go_sem] stPair gtPair gtK8 gtM6 run_store_func
attribute [local go_sem high] neqPair eqK8 eqM6
attribute [local go_sem ↓] load_fold store_fold alloc_fold
open Go.RowKit
set_option linter.unusedVariables false
theorem str_size (l : List UInt8) : (str l).size = l.length := by simp [str, ByteArray.size]
theorem take_snoc' {α : Type} {l : List α} {j : Nat} {z : α} (h : l[j]? = some z) : l.take (j + 1) = l.take j ++ [z] := by
  obtain ⟨hlx, ex⟩ := List.getElem?_eq_some_iff.1 h
  rw [List.take_succ_eq_append_getElem hlx, ex]
/-- A value that is so many bytes, its own row above the base. -/
def OwnB (w : World) (base : Nat) (v : Value) (L : List UInt8) : Prop := w.ownsRow base 5 1 v L.length (bcells L)
theorem OwnB.open {w : World} {base : Nat} {v : Value} {L : List UInt8} (h : OwnB w base v L) : ∃ A c, v = .slice A L.length c ∧ L.length ≤ c ∧ RowAt (fun b => base ≤ b) w A (bcells L) := RowAt.of_owns h
theorem OwnB.at {w : World} {base : Nat} {v : Value} {L : List UInt8} (h : OwnB w base v L) (hne : L ≠ []) : ∃ g c, v = .slice (some ⟨g, 0, none⟩) L.length c ∧ base ≤ g ∧ g < w.heap.size ∧ L.length ≤ c ∧ ∀ j u, (bcells L)[j]? = some u → w.cell? ⟨g, j, none⟩ = some u := by
  rcases h.2 with ⟨rfl, h0⟩ | ⟨g, cap, cur, rfl, hb, hg, hn, _⟩
  · exact absurd (List.eq_nil_of_length_eq_zero h0) hne
  · refine ⟨g, cap, rfl, hb, lt_of_block hg, hn, fun j u hj => ?_⟩
    have := h.cells (g := g) rfl j u hj
    rwa [Addr.add_lit, Nat.zero_add] at this
theorem OwnB.mod {F : Nat → Prop} {w w' : World} {base : Nat} {v : Value} {L : List UInt8} (h : OwnB w base v L) (hm : Mod F w w') (hF : ∀ b, base ≤ b → b < w.heap.size → ¬ F b) : OwnB w' base v L :=
  own_mod h hm fun k hk => by
    rcases h.2 with ⟨rfl, _⟩ | ⟨g, cap, cur, rfl, hb, hg, _⟩
    · simp [Value.ownBlock] at hk
    · obtain rfl : g = k := by simpa [Value.ownBlock] using hk
      exact hF g hb (lt_of_block hg)
theorem own_base {w : World} {base base' : Nat} {e : TypeId} {size : Nat} {v : Value} {n : Nat} {xs : List Value} (h : w.ownsRow base e size v n xs) (hb : base' ≤ base) : w.ownsRow base' e size v n xs := by
  refine ⟨h.1, ?_⟩
  rcases h.2 with hn | ⟨g, cap, cur, e, hg, rest⟩
  · exact .inl hn
  · exact .inr ⟨g, cap, cur, e, Nat.le_trans hb hg, rest⟩
theorem conSize : (Tryd.prog.info? 39).map (·.size) = some 29 := by kernel_rfl
/-- A change's cells. -/
def cChg (put : Bool) (name : List UInt8) (x : TV) : Array Value := #[.bool put, .string (str name)] ++ x.cells.toArray
end

section
attribute [local go_sem] stPair gtPair gtK8 gtM6 run_store_func
attribute [local go_sem high] neqPair eqK8 eqM6
attribute [local go_sem ↓] load_fold store_fold alloc_fold
open Go.ChangeShapes Go.WideShapes Go.ChangeAt Go.RowKit Go.Deep
set_option linter.unusedVariables false
variable {H : Type} {enc : TypeId × Value → H} {w : World}
theorem Ten.wf.ok {t : Ten} (h : t.wf) : t.Ok := ⟨h.vni, h.vtep, h.lo, h.hi, h.rate, h.burst, h.pool, h.statics, h.twices⟩
/-- What an argument's tenant gives. -/
structure TV.Open (w : World) (x : TV) : Prop where
  rows : x.Rows (fun _ => True) w
  wf : x.t.wf
theorem open_tv {fuel : Nat} {cs : List Value} {x : DataW H × List MemPlace} (h : DataW.trod enc Tryd.prog w 0 (fun _ => true) true fuel 30 cs = some x) : ∃ x : TV, cs = x.cells ∧ x.Open w := by
  obtain ⟨t, ⟨P, p, Q, q, R, r, e, h1, h2, h3⟩, hw⟩ := open_ten h
  refine ⟨⟨t, .slice P t.pool.length p, .slice Q t.statics.length q, .slice R t.twices.length r⟩, ?_, ⟨⟨P, p, Q, q, R, r, rfl, rfl, rfl, h1, h2, h3⟩, hw⟩⟩
  have := congrArg Array.toList (Value.agg.inj e)
  simpa [TV.cells] using this
theorem TV.Open.val {w : World} {x : TV} (h : x.Open w) : TenV (fun _ => True) w x.t (.agg x.cells.toArray) := by
  obtain ⟨P, p, Q, q, R, r, e1, e2, e3, r1, r2, r3⟩ := h.rows
  exact ⟨P, p, Q, q, R, r, by simp [TV.cells, e1, e2, e3], r1, r2, r3⟩
/-- What is read lies in blocks that are there. -/
theorem TV.Open.here {w : World} {x : TV} (h : x.Open w) : x.Rows (· < w.heap.size) w := by
  obtain ⟨P, p, Q, q, R, r, e1, e2, e3, r1, r2, r3⟩ := h.rows
  exact ⟨P, p, Q, q, R, r, e1, e2, e3, r1.mono (fun b hb _ => hb), r2.mono (fun b hb _ => hb), r3.mono (fun b hb _ => hb)⟩
theorem open_tens {fuel : Nat} {c : Value} {x : DataW H × List MemPlace} (h : DataW.trod enc Tryd.prog w 0 (fun _ => true) true fuel 37 [c] = some x) :
    ∃ (A : Option Addr) (k : Nat) (l : List TV), c = .slice A l.length k ∧ l.length ≤ 9223372036854775807 ∧ RowAt (fun _ => True) w A (tvCells l) ∧ ∀ x ∈ l, x.Open w := by
  rcases open_slice Tryd.underlying37 h with ⟨hcs, hx⟩ | ⟨a, len, cap, m, n, D, Pl, hcs, _, hl, hm, hmm, _, hx⟩
  · cases hcs
    exact ⟨none, 0, [], rfl, by simp, .nil _ _ _, by simp⟩
  · cases hcs
    simp only [if_true] at hmm
    have hv : ∀ i, i < len → ∃ x : TV, x.Open w ∧ w.cells? 0 (a.add (i * 33)) 33 = some x.cells := by
      intro i hi
      obtain ⟨cs', h1, h2⟩ := hx i (by omega)
      rw [coTen] at h1
      obtain ⟨x, rfl, hxo⟩ := open_tv h2
      exact ⟨x, hxo, h1⟩
    obtain ⟨g, hg⟩ : ∃ g : Nat → TV, ∀ i, i < len → (g i).Open w ∧ w.cells? 0 (a.add (i * 33)) 33 = some (g i).cells :=
      ⟨fun i => if h : i < len then (hv i h).choose else ⟨default, .nilFunc, .nilFunc, .nilFunc⟩, fun i hi => by simp only [hi, dif_pos]; exact (hv i hi).choose_spec⟩
    refine ⟨some a, cap, (List.range len).map g, by simp, by simp; unfold maxLen at hm; omega, ?_, fun x hx => by
      obtain ⟨i, hi, rfl⟩ := List.mem_map.1 hx
      exact (hg i (by simpa using hi)).1⟩
    by_cases h0 : len = 0
    · subst h0
      exact .nil _ _ _
    · have hcell : ∀ i, i < len → ∀ j, j < 33 → w.cell? ((a.add (i * 33)).add j) = (g i).cells[j]? := by
        intro i hi j hj
        obtain ⟨h1, h2, h3⟩ := World.cells?_some (hg i hi).2
        exact h3 j hj
      obtain ⟨b, o, spot⟩ := a
      have hs : spot = none := by
        have h1 := hcell 0 (by omega) 0 (by decide)
        have h2 : ∃ v, (g 0).cells[0]? = some v := ⟨_, List.getElem?_eq_getElem (by rw [TV.len]; decide)⟩
        obtain ⟨v, hv⟩ := h2
        rw [hv] at h1
        simpa [Addr.add] using World.cell?_spot h1
      subst hs
      refine .inr ⟨b, o, rfl, trivial, fun j v hj => ?_⟩
      have hjl := (List.getElem?_eq_some_iff.1 hj).1
      rw [tvCells, flat_length TV.cells 33 TV.len, List.length_map, List.length_range] at hjl
      have hi : j / 33 < len := by omega
      have hr : ((List.range len).map g)[j / 33]? = some (g (j / 33)) := by simp [hi]
      have hf := flat_at TV.cells 33 TV.len _ (j / 33) (j % 33) _ hr (by omega)
      rw [show j / 33 * 33 + j % 33 = j by omega] at hf
      have hj' : (g (j / 33)).cells[j % 33]? = some v := by rw [← hf]; exact hj
      have h1 := hcell (j / 33) hi (j % 33) (by omega)
      rw [hj', Addr.add_lit, Addr.add_lit, show o + j / 33 * 33 + j % 33 = o + j by omega] at h1
      exact h1
theorem coLT : Tryd.prog.cellsOf 37 = 1 := by kernel_rfl
theorem coCon : Tryd.prog.cellsOf 39 = 29 := by kernel_rfl
theorem list29 {α : Type} : ∀ (l : List α), l.length = 29 → ∃ c0 c1 c2 c3 c4 c5 c6 c7 c8 c9 c10 c11 c12 c13 c14 c15 c16 c17 c18 c19 c20 c21 c22 c23 c24 c25 c26 c27 c28, l = [c0, c1, c2, c3, c4, c5, c6, c7, c8, c9, c10, c11, c12, c13, c14, c15, c16, c17, c18, c19, c20, c21, c22, c23, c24, c25, c26, c27, c28]
  | c0 :: c1 :: c2 :: c3 :: c4 :: c5 :: c6 :: c7 :: c8 :: c9 :: c10 :: c11 :: c12 :: c13 :: c14 :: c15 :: c16 :: c17 :: c18 :: c19 :: c20 :: c21 :: c22 :: c23 :: c24 :: c25 :: c26 :: c27 :: c28 :: [], _ => ⟨c0, c1, c2, c3, c4, c5, c6, c7, c8, c9, c10, c11, c12, c13, c14, c15, c16, c17, c18, c19, c20, c21, c22, c23, c24, c25, c26, c27, c28, rfl⟩
set_option maxRecDepth 100000 in
set_option maxHeartbeats 2000000 in
theorem open_con {fuel : Nat} {cs : List Value} {x : DataW H × List MemPlace} (h : DataW.trod enc Tryd.prog w 0 (fun _ => true) true fuel 39 cs = some x) :
    ∃ (c : Con) (A : Option Addr) (k : Nat) (l : List TV), cs.toArray = c.cells (.slice A l.length k) ∧ c.ip < 4294967296 ∧ c.drain < 4294967296 ∧ l.length ≤ 9223372036854775807 ∧ RowAt (fun _ => True) w A (tvCells l) ∧ ∀ x ∈ l, x.Open w := by
  obtain ⟨xs, n, _, _, hl, hlen, hf⟩ := DataW.trod_struct Tryd.underlying39 h
  rw [coCon] at hl
  obtain ⟨c0, c1, c2, c3, c4, c5, c6, c7, c8, c9, c10, c11, c12, c13, c14, c15, c16, c17, c18, c19, c20, c21, c22, c23, c24, c25, c26, c27, c28, rfl⟩ := list29 cs hl
  have hg : ∀ i, i < 7 → ∃ y, xs[i]? = some y := fun i hi => ⟨_, List.getElem?_eq_getElem (by rw [hlen]; exact hi)⟩
  obtain ⟨y0, hy0⟩ := hg 0 (by decide)
  have t0 : DataW.trod enc Tryd.prog w 0 (fun _ => true) true n 22 [c0] = some y0 := by
    have : DataW.trod enc Tryd.prog w 0 (fun _ => true) true n 22 ((List.drop 0 [c0, c1, c2, c3, c4, c5, c6, c7, c8, c9, c10, c11, c12, c13, c14, c15, c16, c17, c18, c19, c20, c21, c22, c23, c24, c25, c26, c27, c28]).take (Tryd.prog.cellsOf 22)) = xs[0]? := hf 0 _ rfl
    rw [hy0] at this
    rw [coU32] at this
    exact this
  obtain ⟨y1, hy1⟩ := hg 1 (by decide)
  have t1 : DataW.trod enc Tryd.prog w 0 (fun _ => true) true n 25 [c1, c2, c3, c4, c5, c6] = some y1 := by
    have : DataW.trod enc Tryd.prog w 0 (fun _ => true) true n 25 ((List.drop 1 [c0, c1, c2, c3, c4, c5, c6, c7, c8, c9, c10, c11, c12, c13, c14, c15, c16, c17, c18, c19, c20, c21, c22, c23, c24, c25, c26, c27, c28]).take (Tryd.prog.cellsOf 25)) = xs[1]? := hf 1 _ rfl
    rw [hy1] at this
    rw [coM6] at this
    exact this
  obtain ⟨y2, hy2⟩ := hg 2 (by decide)
  have t2 : DataW.trod enc Tryd.prog w 0 (fun _ => true) true n 25 [c7, c8, c9, c10, c11, c12] = some y2 := by
    have : DataW.trod enc Tryd.prog w 0 (fun _ => true) true n 25 ((List.drop 7 [c0, c1, c2, c3, c4, c5, c6, c7, c8, c9, c10, c11, c12, c13, c14, c15, c16, c17, c18, c19, c20, c21, c22, c23, c24, c25, c26, c27, c28]).take (Tryd.prog.cellsOf 25)) = xs[2]? := hf 2 _ rfl
    rw [hy2] at this
    rw [coM6] at this
    exact this
  obtain ⟨y3, hy3⟩ := hg 3 (by decide)
  have t3 : DataW.trod enc Tryd.prog w 0 (fun _ => true) true n 25 [c13, c14, c15, c16, c17, c18] = some y3 := by
    have : DataW.trod enc Tryd.prog w 0 (fun _ => true) true n 25 ((List.drop 13 [c0, c1, c2, c3, c4, c5, c6, c7, c8, c9, c10, c11, c12, c13, c14, c15, c16, c17, c18, c19, c20, c21, c22, c23, c24, c25, c26, c27, c28]).take (Tryd.prog.cellsOf 25)) = xs[3]? := hf 3 _ rfl
    rw [hy3] at this
    rw [coM6] at this
    exact this
  obtain ⟨y4, hy4⟩ := hg 4 (by decide)
  have t4 : DataW.trod enc Tryd.prog w 0 (fun _ => true) true n 23 [c19, c20, c21, c22, c23, c24, c25, c26] = some y4 := by
    have : DataW.trod enc Tryd.prog w 0 (fun _ => true) true n 23 ((List.drop 19 [c0, c1, c2, c3, c4, c5, c6, c7, c8, c9, c10, c11, c12, c13, c14, c15, c16, c17, c18, c19, c20, c21, c22, c23, c24, c25, c26, c27, c28]).take (Tryd.prog.cellsOf 23)) = xs[4]? := hf 4 _ rfl
    rw [hy4] at this
    rw [coK8] at this
    exact this
  obtain ⟨y5, hy5⟩ := hg 5 (by decide)
  have t5 : DataW.trod enc Tryd.prog w 0 (fun _ => true) true n 22 [c27] = some y5 := by
    have : DataW.trod enc Tryd.prog w 0 (fun _ => true) true n 22 ((List.drop 27 [c0, c1, c2, c3, c4, c5, c6, c7, c8, c9, c10, c11, c12, c13, c14, c15, c16, c17, c18, c19, c20, c21, c22, c23, c24, c25, c26, c27, c28]).take (Tryd.prog.cellsOf 22)) = xs[5]? := hf 5 _ rfl
    rw [hy5] at this
    rw [coU32] at this
    exact this
  obtain ⟨y6, hy6⟩ := hg 6 (by decide)
  have t6 : DataW.trod enc Tryd.prog w 0 (fun _ => true) true n 37 [c28] = some y6 := by
    have : DataW.trod enc Tryd.prog w 0 (fun _ => true) true n 37 ((List.drop 28 [c0, c1, c2, c3, c4, c5, c6, c7, c8, c9, c10, c11, c12, c13, c14, c15, c16, c17, c18, c19, c20, c21, c22, c23, c24, c25, c26, c27, c28]).take (Tryd.prog.cellsOf 37)) = xs[6]? := hf 6 _ rfl
    rw [hy6] at this
    rw [coLT] at this
    exact this
  clear hf hg h hl hlen
  obtain ⟨ip, rfl, bip⟩ := open_u32 t0
  obtain ⟨mac0, rfl⟩ := open_arr Tryd.underlying25 t1 0 _ (by decide) rfl
  obtain ⟨mac1, rfl⟩ := open_arr Tryd.underlying25 t1 1 _ (by decide) rfl
  obtain ⟨mac2, rfl⟩ := open_arr Tryd.underlying25 t1 2 _ (by decide) rfl
  obtain ⟨mac3, rfl⟩ := open_arr Tryd.underlying25 t1 3 _ (by decide) rfl
  obtain ⟨mac4, rfl⟩ := open_arr Tryd.underlying25 t1 4 _ (by decide) rfl
  obtain ⟨mac5, rfl⟩ := open_arr Tryd.underlying25 t1 5 _ (by decide) rfl
  obtain ⟨omac0, rfl⟩ := open_arr Tryd.underlying25 t2 0 _ (by decide) rfl
  obtain ⟨omac1, rfl⟩ := open_arr Tryd.underlying25 t2 1 _ (by decide) rfl
  obtain ⟨omac2, rfl⟩ := open_arr Tryd.underlying25 t2 2 _ (by decide) rfl
  obtain ⟨omac3, rfl⟩ := open_arr Tryd.underlying25 t2 3 _ (by decide) rfl
  obtain ⟨omac4, rfl⟩ := open_arr Tryd.underlying25 t2 4 _ (by decide) rfl
  obtain ⟨omac5, rfl⟩ := open_arr Tryd.underlying25 t2 5 _ (by decide) rfl
  obtain ⟨nmac0, rfl⟩ := open_arr Tryd.underlying25 t3 0 _ (by decide) rfl
  obtain ⟨nmac1, rfl⟩ := open_arr Tryd.underlying25 t3 1 _ (by decide) rfl
  obtain ⟨nmac2, rfl⟩ := open_arr Tryd.underlying25 t3 2 _ (by decide) rfl
  obtain ⟨nmac3, rfl⟩ := open_arr Tryd.underlying25 t3 3 _ (by decide) rfl
  obtain ⟨nmac4, rfl⟩ := open_arr Tryd.underlying25 t3 4 _ (by decide) rfl
  obtain ⟨nmac5, rfl⟩ := open_arr Tryd.underlying25 t3 5 _ (by decide) rfl
  obtain ⟨key0, rfl⟩ := open_arr Tryd.underlying23 t4 0 _ (by decide) rfl
  obtain ⟨key1, rfl⟩ := open_arr Tryd.underlying23 t4 1 _ (by decide) rfl
  obtain ⟨key2, rfl⟩ := open_arr Tryd.underlying23 t4 2 _ (by decide) rfl
  obtain ⟨key3, rfl⟩ := open_arr Tryd.underlying23 t4 3 _ (by decide) rfl
  obtain ⟨key4, rfl⟩ := open_arr Tryd.underlying23 t4 4 _ (by decide) rfl
  obtain ⟨key5, rfl⟩ := open_arr Tryd.underlying23 t4 5 _ (by decide) rfl
  obtain ⟨key6, rfl⟩ := open_arr Tryd.underlying23 t4 6 _ (by decide) rfl
  obtain ⟨key7, rfl⟩ := open_arr Tryd.underlying23 t4 7 _ (by decide) rfl
  obtain ⟨drain, rfl, bdrain⟩ := open_u32 t5
  obtain ⟨A, k, l, rfl, hlen, hrow, hl⟩ := open_tens t6
  exact ⟨⟨ip, ⟨mac0, mac1, mac2, mac3, mac4, mac5⟩, ⟨omac0, omac1, omac2, omac3, omac4, omac5⟩, ⟨nmac0, nmac1, nmac2, nmac3, nmac4, nmac5⟩, ⟨key0, key1, key2, key3, key4, key5, key6, key7⟩, drain⟩, A, k, l, rfl, bip, bdrain, hlen, hrow, hl⟩
theorem open_bool {fuel : Nat} {c : Value} {x : DataW H × List MemPlace} (h : DataW.trod enc Tryd.prog w 0 (fun _ => true) true fuel 4 [c] = some x) : ∃ b, c = .bool b := by
  obtain ⟨b, e, _⟩ := DataW.trod_bool Tryd.underlying4 h
  cases e
  exact ⟨b, rfl⟩
end

section
attribute [local go_sem] stPair gtPair gtK8 gtM6 run_store_func
attribute [local go_sem high] neqPair eqK8 eqM6
attribute [local go_sem ↓] load_fold store_fold alloc_fold
open Go.RowKit
set_option linter.unusedVariables false
def tenSlice (v : Value) : Sem Value := Instr.buildSlice 37 1 #[(0, v)]
theorem slice_op_fold (ρ : Operand → Value) (x : Operand) (dst : Option Tmp) (ty : TypeId) (pos : String) (after : Array Edge) (g : Option (Nat × Bool)) :
    execOp ρ { dst := dst, op := .buildSlice 37 1 #[(0, x)], type := ty, pos := pos, after := after, guard := g } = (do pure (Next.value (← tenSlice (ρ x))) : Sem Next) := by
  show (do pure (Next.value (← Instr.buildSlice 37 1 (#[(0, x)].map fun (i, x) => (i, ρ x)))) : Sem Next) = _
  have hm : (#[((0 : Nat), x)].map fun (i, x) => (i, ρ x)) = #[(0, ρ x)] := by simp
  rw [hm]
  rfl
attribute [local go_sem ↓] slice_op_fold
/-- What becomes of a list of tenants that is read: its values, each with rows of its own. -/
structure TVs (w : World) (base : Nat) (v : Value) (l : List TV) : Prop where
  own : w.ownsRow base 30 33 v l.length (tvCells l)
  rows : ∀ x ∈ l, x.Rows (fun b => base ≤ b ∧ v.ownBlock ≠ some b) w
end

section
attribute [local go_sem] stPair gtPair gtK8 gtM6 run_store_func
attribute [local go_sem high] neqPair eqK8 eqM6
attribute [local go_sem ↓] load_fold store_fold alloc_fold slice_op_fold
open Go.RowKit
set_option linter.unusedVariables false
/-- Settings that are being read. -/
structure CS where
  c : Con
  nt : Nat
  l : List Ten
  s : St
def Con.zero : Con := ⟨0, .zero, .zero, .zero, .zero, 0⟩
section
variable {w0 : World} {n C T : Nat} {A : Option Addr} {c : Nat} {B : List UInt8} {S : Nat → Prop} {r : CS} {vt : Value} {l : List TV} {w : World}
theorem TVs.mod {F : Nat → Prop} {w w' : World} {base : Nat} {v : Value} {l : List TV} (h : TVs w base v l) (hm : Mod F w w') (hF : ∀ b, base ≤ b → b < w.heap.size → ¬ F b) : TVs w' base v l :=
  ⟨own_mod h.own hm fun k hk => by
    rcases h.own.2 with ⟨rfl, _⟩ | ⟨g, cap, cur, rfl, hb, hg, _⟩
    · simp [Value.ownBlock] at hk
    · obtain rfl : g = k := by simpa [Value.ownBlock] using hk
      exact hF g hb (lt_of_block hg), fun x hx => (h.rows x hx).keeps (hm.keeps fun b hb hs => hF b hs.1 hb)⟩
end
section
variable {w0 : World} {n C T : Nat} {A : Option Addr} {c : Nat} {B : List UInt8} {S : Nat → Prop} {s : St} {w : World}
end
end

section
attribute [local go_sem] stPair gtPair gtK8 gtM6 run_store_func
attribute [local go_sem high] neqPair eqK8 eqM6
attribute [local go_sem ↓] load_fold store_fold alloc_fold
open Go.RowKit
set_option linter.unusedVariables false
def conLoad (v : Value) : Sem Value := Instr.loadAt 39 v
theorem con_load_fold (v : Value) : Instr.loadAt 39 v = conLoad v := rfl
attribute [local go_sem ↓] con_load_fold
theorem conLoad_run {W : World} {b : Nat} {CA : Array Value} (h : W.heap[b]? = some (.cells CA 39 (0, 0))) (hc : CA.size = 29) : (conLoad (.pointer (some ⟨b, 0, none⟩))).run Tryd.prog W = .ok (.agg CA) W := by
  simp only [conLoad, Instr.loadAt, Instr.sureAddr, Sem.run_bind, Sem.run_pure, Result.andThen_ok]
  exact run_loadVar_row W b _ _ CA (0, 0) _ h Tryd.underlying39 rfl (by rw [conSize, hc])
/-- All light, and no more than so many? -/
def lights (l : List TV) (most : Nat) : Bool := (l.take most).all (fun x => light x.t) && decide (l.length ≤ most)
theorem lights_of {l : List TV} {most : Nat} (h : lights l most = true) : l.length ≤ most ∧ ∀ x ∈ l, light x.t = true := by
  simp only [lights, Bool.and_eq_true, decide_eq_true_eq, List.all_eq_true] at h
  refine ⟨h.2, fun x hx => h.1 x ?_⟩
  rw [List.take_of_length_le h.2]
  exact hx
set_option maxRecDepth 100000 in
theorem lights_ok {w : World} (l : List TV) (most : Nat) (hm : most ≤ 1000) (hl : l.length ≤ 9223372036854775807) {A : Option Addr} {c : Nat} (hrow : RowAt (fun _ => True) w A (tvCells l)) (ho : ∀ x ∈ l, x.Open w) :
    Calls Tryd.prog 15 #[.slice A l.length c, .int .i64 most] w fun e w' => e = .returned (.bool (lights l most)) ∧ Mod No w w' := by
  obtain ⟨n, hn⟩ : ∃ n, n = l.length := ⟨_, rfl⟩
  rw [← hn] at hl
  rw [← hn]
  have HN := Lib.hid hn
  have H0 := Lib.hid (And.intro (hrow.mono (S' := fun b => b < w.heap.size) (fun b hb _ => hb)) ho)
  obtain ⟨r, hr⟩ : ∃ r, r = lights l most := ⟨_, rfl⟩
  rw [← hr]
  have HR := Lib.hid hr
  clear hn hrow ho hr
  go_enter Tryd.func15, Tryd.ntmps15
  go_wp2
  go_loopw [5] (fun i wr => ∃ j : Nat, i = .int .i64 j ∧ j ≤ n ∧ j ≤ most ∧ ((l.take j).all (fun x => light x.t)) = true ∧ Mod No w wr) (fun i _ => most - (intOf i).toNat)
  case atStart => exact ⟨0, rfl, by omega, by omega, by simp, Mod.refl _ _⟩
  case round =>
    obtain ⟨j, rfl, hj, hjm, hall, hmw⟩ := hrel
    have HA := Lib.hid (And.intro hall hmw)
    clear hall hmw
    by_cases hlt : j < n
    · by_cases hlm : j < most
      · obtain ⟨z, hz⟩ : ∃ z, l[j]? = some z := ⟨_, List.getElem?_eq_getElem (by have := HN.out; omega)⟩
        have hkp : ∀ S, Keeps S w wr := fun S => HA.out.2.keeps (fun _ _ _ f => f)
        obtain ⟨b, o', rfl, _, hblt, hx0⟩ := (H0.out.1.keeps (hkp _)).elem TV.cells 33 TV.len (by omega) hz
        have hld := tenLoad_mid wr b (o' + j * 33) z.cells rfl hx0
        have hzo := H0.out.2 z (List.mem_of_getElem? hz)
        have hT := light_ok z.t (.agg z.cells.toArray) (hzo.val.keeps (hkp _))
        obtain ⟨TA, hTA⟩ : ∃ TA, TA = z.cells.toArray := ⟨_, rfl⟩
        rw [← hTA] at hT hld
        obtain ⟨lz, hlz⟩ : ∃ lz, lz = light z.t := ⟨_, rfl⟩
        rw [← hlz] at hT
        have HT := Lib.hid hT
        have HZ := Lib.hid (And.intro hz hlz)
        have p1 : (0:Int) ≤ j := by omega
        have p2 : (j:Int) < n := by omega
        have p3 : (j:Int) < most := by omega
        clear hz hkp hx0 hzo hT hTA hlz
        cases lz
        · go_wp2_with (first | (go_at_call 10; refine HT.out.mono ?_; rintro e w1 ⟨rfl, m1⟩; have H1 := Lib.hid m1; clear m1) | fail)
          go_ret
          refine ⟨?_, HA.out.2.trans H1.out⟩
          have : lights l most = false := by
            cases hq : lights l most with
            | false => rfl
            | true => have := (lights_of hq).2 z (List.mem_of_getElem? HZ.out.1); rw [← HZ.out.2] at this; simp at this
          rw [HR.out, this]; rfl
        · go_wp2_with (first | (go_at_call 10; refine HT.out.mono ?_; rintro e w1 ⟨rfl, m1⟩; have H1 := Lib.hid m1; clear m1) | fail)
          refine ⟨⟨j + 1, by go_num, by omega, by omega, ?_, HA.out.2.trans H1.out⟩, by simp [intOf]; omega⟩
          rw [take_snoc' HZ.out.1, List.all_append, HA.out.1]
          simp [← HZ.out.2]
      · obtain rfl : j = most := by omega
        have p0 : ¬ ((n : Int) ≤ j) := by omega
        have p1 : decide ((n : Int) ≤ j) = false := by simpa using p0
        have hres : lights l j = false := by simp only [lights, ← HN.out]; simp; intro _; omega
        have H9 := Lib.hid hres
        clear hres
        go_wp2
        go_ret
        exact ⟨by rw [HR.out, H9.out]; rfl, HA.out.2⟩
    · obtain rfl : n = j := by omega
      have p0 : ((n : Int) ≤ most) := by omega
      have p1 : decide ((n : Int) ≤ most) = true := by simpa using p0
      have hres : lights l most = true := by
        have e : l.take most = l.take n := by rw [List.take_of_length_le (by have := HN.out; omega), List.take_of_length_le (by have := HN.out; omega)]
        simp only [lights, e, HA.out.1, ← HN.out, Bool.true_and, decide_eq_true_eq]
        omega
      have H9 := Lib.hid hres
      clear hres
      go_wp2
      go_ret
      exact ⟨by rw [HR.out, H9.out]; rfl, HA.out.2⟩
end

section
attribute [local go_sem] stPair gtPair gtK8 gtM6 run_store_func
attribute [local go_sem high] neqPair eqK8 eqM6
attribute [local go_sem ↓] load_fold store_fold alloc_fold slice_op_fold con_load_fold
open Go.RowKit
set_option linter.unusedVariables false
def tenZero : Sem Value := Instr.build 30 #[]
theorem ten_zero_fold (ρ : Operand → Value) (dst : Option Tmp) (ty : TypeId) (pos : String) (after : Array Edge) (g : Option (Nat × Bool)) :
    execOp ρ { dst := dst, op := .build 30 #[], type := ty, pos := pos, after := after, guard := g } = (do pure (Next.value (← tenZero)) : Sem Next) := by
  show (do pure (Next.value (← Instr.build 30 (#[].map fun (i, x) => (i, ρ x)))) : Sem Next) = _
  simp only [Array.map_empty]
  rfl
attribute [local go_sem ↓] ten_zero_fold
set_option maxRecDepth 100000 in
theorem tenZero_run : ∀ W, tenZero.run Tryd.prog W = .ok (.agg zTen) W := fun W => by kernel_rfl
def TV.zero : TV := ⟨.zero, .slice none 0 0, .slice none 0 0, .slice none 0 0⟩
end

section
attribute [local go_sem] stPair gtPair gtK8 gtM6 run_store_func
attribute [local go_sem high] neqPair eqK8 eqM6
attribute [local go_sem ↓] load_fold store_fold alloc_fold slice_op_fold con_load_fold ten_zero_fold
open Go.RowKit
set_option linter.unusedVariables false
def conAlloc (v : Value) : Sem Value := Instr.alloc 39 true v
theorem con_alloc_fold (v : Value) : Instr.alloc 39 true v = conAlloc v := rfl
attribute [local go_sem ↓] con_alloc_fold
def conStore (p v : Value) : Sem Unit := Instr.storeAt 39 p v
theorem con_store_fold (p v : Value) : Instr.storeAt 39 p v = conStore p v := rfl
attribute [local go_sem ↓] con_store_fold
def conZero : Sem Value := Instr.build 39 #[]
theorem con_zero_fold (ρ : Operand → Value) (dst : Option Tmp) (ty : TypeId) (pos : String) (after : Array Edge) (g : Option (Nat × Bool)) :
    execOp ρ { dst := dst, op := .build 39 #[], type := ty, pos := pos, after := after, guard := g } = (do pure (Next.value (← conZero)) : Sem Next) := by
  show (do pure (Next.value (← Instr.build 39 (#[].map fun (i, x) => (i, ρ x)))) : Sem Next) = _
  simp only [Array.map_empty]
  rfl
attribute [local go_sem ↓] con_zero_fold
end

section
attribute [local go_sem] stPair gtPair gtK8 gtM6 run_store_func
attribute [local go_sem high] neqPair eqK8 eqM6
attribute [local go_sem ↓] load_fold store_fold alloc_fold slice_op_fold con_load_fold ten_zero_fold con_alloc_fold con_store_fold con_zero_fold
open Go.RowKit
set_option linter.unusedVariables false
theorem int_dec {p : Prop} [Decidable p] (h : p) : decide p = true := decide_eq_true h
theorem int_ndec {p : Prop} [Decidable p] (h : ¬ p) : decide p = false := decide_eq_false h
def PlaceP (n : Nat) (w : World) (e : Ending) (w' : World) : Prop := ∃ j : Nat, e = .returned (.int .i64 (j : Int)) ∧ j < n ∧ w' = w
theorem place_ok (w : World) (k : Int) (n : Nat) (h0 : 0 < n) (hn : n ≤ 100000000) : Calls Tryd.prog 12 #[.int .i64 k, .int .i64 n] w (PlaceP n w) := by
  have hne : ¬ (n : Int) = 0 := by omega
  have p0 : (0 : Int) < n := by omega
  have hlt := Int.tmod_lt_of_pos k p0
  have hgt := Int.lt_tmod_of_pos k p0
  obtain ⟨m, hm⟩ : ∃ m, k.tmod n = m := ⟨_, rfl⟩
  rw [hm] at hlt hgt
  by_cases hneg : m < 0
  · have d := int_dec hneg
    have HF := Lib.hid (show PlaceP n w (.returned (.int .i64 (m + n))) w from ⟨(m + n).toNat, by congr 2; omega, by omega, rfl⟩)
    go_enter Tryd.func12, Tryd.ntmps12
    go_wp2
    go_ret
    exact HF.out
  · have d := int_ndec hneg
    have HF := Lib.hid (show PlaceP n w (.returned (.int .i64 m)) w from ⟨m.toNat, by congr 2; omega, by omega, rfl⟩)
    go_enter Tryd.func12, Tryd.ntmps12
    go_wp2
    go_ret
    exact HF.out
end

section
attribute [local go_sem] stPair gtPair gtK8 gtM6 run_store_func
attribute [local go_sem high] neqPair eqK8 eqM6
attribute [local go_sem ↓] load_fold store_fold alloc_fold slice_op_fold con_load_fold ten_zero_fold con_alloc_fold con_store_fold con_zero_fold
open Go.RowKit
set_option linter.unusedVariables false
theorem TV.Rows.size {S : Nat → Prop} {w : World} {x : TV} (h : x.Rows S w) : x.cells.toArray.size = 33 := rfl
/-- Tenants' values: each with rows that are there. -/
def TVl (S : Nat → Prop) (w : World) (A : Option Addr) (l : List TV) : Prop := RowAt S w A (tvCells l) ∧ ∀ x ∈ l, x.Rows S w
theorem TVl.keeps {S : Nat → Prop} {w w' : World} {A : Option Addr} {l : List TV} (h : TVl S w A l) (hk : Keeps S w w') : TVl S w' A l := ⟨h.1.keeps hk, fun x hx => (h.2 x hx).keeps hk⟩
theorem TVl.nil (S : Nat → Prop) (w : World) (A : Option Addr) : TVl S w A [] := ⟨.nil _ _ _, by simp⟩
end

section
open Go.RowKit
set_option linter.unusedVariables false
theorem wrap_u32 (x : Nat) (h : x < 4294967296) : IntKind.u32.wrap (x : Int) = x := by simp [IntKind.wrap, IntKind.bits, IntKind.signed]; omega
theorem wrap_u16 (x : Nat) (h : x < 65536) : IntKind.u16.wrap (x : Int) = x := by simp [IntKind.wrap, IntKind.bits, IntKind.signed]; omega
theorem wrap_u8 (x : Nat) (h : x < 256) : IntKind.u8.wrap (x : Int) = x := by simp [IntKind.wrap, IntKind.bits, IntKind.signed]; omega
theorem wrap_i64 (x : Nat) (h : x < 9223372036854775808) : IntKind.i64.wrap (x : Int) = x := IntWalk.i64_in _ (by omega)
theorem and_u16 (x y : Nat) (hx : x < 65536) (hy : y < 65536) : bits .and .u16 (x : Int) (y : Int) = ((x &&& y : Nat) : Int) := by
  have h : bits .and .u16 (x : Int) (y : Int) = IntKind.u16.wrap ((BitVec.ofInt 16 (x : Int) &&& BitVec.ofInt 16 (y : Int)).toNat) := rfl
  rw [h, BitVec.ofInt_natCast, BitVec.ofInt_natCast, BitVec.toNat_and, BitVec.toNat_ofNat, BitVec.toNat_ofNat, Nat.mod_eq_of_lt (by omega), Nat.mod_eq_of_lt (by omega)]
  exact wrap_u16 _ (Nat.lt_of_le_of_lt Nat.and_le_left hx)
theorem and_u32 (x y : Nat) (hx : x < 4294967296) (hy : y < 4294967296) : bits .and .u32 (x : Int) (y : Int) = ((x &&& y : Nat) : Int) := by
  have h : bits .and .u32 (x : Int) (y : Int) = IntKind.u32.wrap ((BitVec.ofInt 32 (x : Int) &&& BitVec.ofInt 32 (y : Int)).toNat) := rfl
  rw [h, BitVec.ofInt_natCast, BitVec.ofInt_natCast, BitVec.toNat_and, BitVec.toNat_ofNat, BitVec.toNat_ofNat, Nat.mod_eq_of_lt (by omega), Nat.mod_eq_of_lt (by omega)]
  exact wrap_u32 _ (Nat.lt_of_le_of_lt Nat.and_le_left hx)
theorem and_i64 (x y : Nat) (hx : x < 9223372036854775808) (hy : y < 9223372036854775808) : bits .and .i64 (x : Int) (y : Int) = ((x &&& y : Nat) : Int) := by
  have h : bits .and .i64 (x : Int) (y : Int) = IntKind.i64.wrap ((BitVec.ofInt 64 (x : Int) &&& BitVec.ofInt 64 (y : Int)).toNat) := rfl
  rw [h, BitVec.ofInt_natCast, BitVec.ofInt_natCast, BitVec.toNat_and, BitVec.toNat_ofNat, BitVec.toNat_ofNat, Nat.mod_eq_of_lt (by omega), Nat.mod_eq_of_lt (by omega)]
  exact wrap_i64 _ (Nat.lt_of_le_of_lt Nat.and_le_left hx)
theorem or_u32 (x y : Nat) (hx : x < 4294967296) (hy : y < 4294967296) : bits .or .u32 (x : Int) (y : Int) = ((x ||| y : Nat) : Int) := by
  have h : bits .or .u32 (x : Int) (y : Int) = IntKind.u32.wrap ((BitVec.ofInt 32 (x : Int) ||| BitVec.ofInt 32 (y : Int)).toNat) := rfl
  rw [h, BitVec.ofInt_natCast, BitVec.ofInt_natCast, BitVec.toNat_or, BitVec.toNat_ofNat, BitVec.toNat_ofNat, Nat.mod_eq_of_lt (by omega), Nat.mod_eq_of_lt (by omega)]
  exact wrap_u32 _ (Nat.or_lt_two_pow (n := 32) hx hy)
/-- An address of four bytes. -/
def addr4 (a b c d : Nat) : Nat := a * 16777216 + b * 65536 + c * 256 + d
theorem or_shl (x y i : Nat) (h : y < 2 ^ i) : x * 2 ^ i ||| y = x * 2 ^ i + y := by
  rw [← Nat.shiftLeft_eq, ← Nat.shiftLeft_add_eq_or_of_lt h]
set_option maxRecDepth 100000 in
theorem addr_ok {a b c d : Nat} (ha : a < 256) (hb : b < 256) (hc : c < 256) (hd : d < 256) (w : World) :
    Calls Tryd.prog 23 #[.int .u8 (a : Int), .int .u8 (b : Int), .int .u8 (c : Int), .int .u8 (d : Int)] w fun e w' => e = .returned (.int .u32 (addr4 a b c d : Nat)) ∧ w' = w := by
  have c1 : IntKind.u32.wrap (a : Int) = a := wrap_u32 a (by omega)
  have c2 : IntKind.u32.wrap (b : Int) = b := wrap_u32 b (by omega)
  have c3 : IntKind.u32.wrap (c : Int) = c := wrap_u32 c (by omega)
  have c4 : IntKind.u32.wrap (d : Int) = d := wrap_u32 d (by omega)
  have s1 : IntKind.u32.wrap ((a : Int) * 16777216) = ((a * 16777216 : Nat) : Int) := by rw [show ((a : Int) * 16777216) = ((a * 16777216 : Nat) : Int) by omega]; exact wrap_u32 _ (by omega)
  have s2 : IntKind.u32.wrap ((b : Int) * 65536) = ((b * 65536 : Nat) : Int) := by rw [show ((b : Int) * 65536) = ((b * 65536 : Nat) : Int) by omega]; exact wrap_u32 _ (by omega)
  have s3 : IntKind.u32.wrap ((c : Int) * 256) = ((c * 256 : Nat) : Int) := by rw [show ((c : Int) * 256) = ((c * 256 : Nat) : Int) by omega]; exact wrap_u32 _ (by omega)
  have o1 : bits .or .u32 ((a * 16777216 : Nat) : Int) ((b * 65536 : Nat) : Int) = ((a * 16777216 + b * 65536 : Nat) : Int) := by
    rw [or_u32 _ _ (by omega) (by omega)]
    have := or_shl a (b * 65536) 24 (by omega)
    rw [show (2 : Nat) ^ 24 = 16777216 from rfl] at this
    rw [this]
  have o2 : bits .or .u32 ((a * 16777216 + b * 65536 : Nat) : Int) ((c * 256 : Nat) : Int) = ((a * 16777216 + b * 65536 + c * 256 : Nat) : Int) := by
    rw [or_u32 _ _ (by omega) (by omega)]
    have := or_shl (a * 256 + b) (c * 256) 16 (by omega)
    rw [show (2 : Nat) ^ 16 = 65536 from rfl, show (a * 256 + b) * 65536 = a * 16777216 + b * 65536 by omega] at this
    rw [this]
  have o3 : bits .or .u32 ((a * 16777216 + b * 65536 + c * 256 : Nat) : Int) (d : Int) = ((addr4 a b c d : Nat) : Int) := by
    rw [or_u32 _ _ (by omega) (by omega)]
    have := or_shl (a * 65536 + b * 256 + c) d 8 (by omega)
    rw [show (2 : Nat) ^ 8 = 256 from rfl, show (a * 65536 + b * 256 + c) * 256 = a * 16777216 + b * 65536 + c * 256 by omega] at this
    rw [this]
    rfl
  obtain ⟨r, hr⟩ : ∃ r : Int, r = ((addr4 a b c d : Nat) : Int) := ⟨_, rfl⟩
  obtain ⟨x3, h3⟩ : ∃ r : Int, r = ((a * 16777216 + b * 65536 + c * 256 : Nat) : Int) := ⟨_, rfl⟩
  obtain ⟨x2, h2⟩ : ∃ r : Int, r = ((a * 16777216 + b * 65536 : Nat) : Int) := ⟨_, rfl⟩
  obtain ⟨y1, e1⟩ : ∃ r : Int, r = ((a * 16777216 : Nat) : Int) := ⟨_, rfl⟩
  obtain ⟨y2, e2⟩ : ∃ r : Int, r = ((b * 65536 : Nat) : Int) := ⟨_, rfl⟩
  obtain ⟨y3, e3⟩ : ∃ r : Int, r = ((c * 256 : Nat) : Int) := ⟨_, rfl⟩
  rw [← hr]
  rw [← hr, ← h3] at o3
  rw [← h3, ← h2, ← e3] at o2
  rw [← h2, ← e1, ← e2] at o1
  rw [← e1] at s1
  rw [← e2] at s2
  rw [← e3] at s3
  clear ha hb hc hd hr h3 h2 e1 e2 e3
  go_enter Tryd.func23, Tryd.ntmps23
  go_wp2
  go_ret
  exact ⟨rfl, rfl⟩
/-- The i-th tenant's name. -/
def seatName (i : Nat) : List UInt8 := [UInt8.ofNat (97 + i % 8)]
theorem seatName_ok {i : Nat} (hi : i < 9223372036854775800) (w : World) :
    Calls Tryd.prog 35 #[.int .i64 (i : Int)] w fun e w' => e = .returned (.string (str (seatName i))) ∧ w' = w := by
  obtain ⟨r, hr⟩ : ∃ r, r = i % 8 := ⟨_, rfl⟩
  have ht : ((i : Int)).tmod 8 = ((r : Nat) : Int) := by rw [hr]; exact (Int.ofNat_tmod i 8).symm
  have h8 : r = 0 ∨ r = 1 ∨ r = 2 ∨ r = 3 ∨ r = 4 ∨ r = 5 ∨ r = 6 ∨ r = 7 := by omega
  unfold seatName
  rw [← hr]
  obtain ⟨z, hz⟩ : ∃ z : Int, z = (i : Int) := ⟨_, rfl⟩
  rw [← hz] at ht ⊢
  clear hr hi hz
  rcases h8 with rfl | rfl | rfl | rfl | rfl | rfl | rfl | rfl
  all_goals
    go_enter Tryd.func35, Tryd.ntmps35
    go_wp2
    go_ret
    exact ⟨rfl, rfl⟩
end

section
open Go.RowKit
set_option linter.unusedVariables false
/-- Elements: their cells; what they point to. -/
structure Shp (α : Type) where
  cells : α → List Value
  R : (Nat → Prop) → World → α → Prop
  size : Nat
  len : ∀ x, (cells x).length = size
  pos : 0 < size
  keep : ∀ {S w w' x}, R S w x → Keeps S w w' → R S w' x
  lt : ∀ {S S' w x}, R S w x → (∀ b, b < w.heap.size → S b → S' b) → R S' w x
  one : ∀ {S w x}, R S w x → ∀ u ∈ cells x, u.oneCell' = true
/-- A list of one's own. -/
structure OL {α : Type} (H : Shp α) (e : TypeId) (w : World) (base : Nat) (v : Value) (l : List α) : Prop where
  own : w.ownsRow base e H.size v l.length (l.flatMap H.cells)
  rows : ∀ x ∈ l, H.R (fun b => base ≤ b ∧ v.ownBlock ≠ some b) w x
section
variable {P : Program} {α : Type} {H : Shp α} {e : TypeId} {w w' : World} {base : Nat} {v : Value} {l : List α}
theorem OL.nil (H : Shp α) (e : TypeId) (w : World) (base : Nat) : OL H e w base (.slice none 0 0) [] := ⟨⟨by simp, .inl ⟨rfl, rfl⟩⟩, by simp⟩
theorem OL.block (h : OL H e w base v l) {b : Nat} (hb : v.ownBlock = some b) : base ≤ b ∧ b < w.heap.size := by
  rcases h.own.2 with ⟨rfl, _⟩ | ⟨g, cap, cur, rfl, hg, hgg, _⟩
  · simp [Value.ownBlock] at hb
  · obtain rfl : g = b := by simpa [Value.ownBlock] using hb
    exact ⟨hg, lt_of_block hgg⟩
theorem OL.mod {F : Nat → Prop} (h : OL H e w base v l) (hm : Mod F w w') (hF : ∀ b, base ≤ b → b < w.heap.size → ¬ F b) : OL H e w' base v l :=
  ⟨own_mod h.own hm (fun k hk => hF k (h.block hk).1 (h.block hk).2), fun x hx => H.keep (h.rows x hx) (hm.keeps (fun b hb hs => hF b hs.1 hb))⟩
/-- One more. -/
theorem OL.push (h : OL H e w base v l) {x : α} (hx : H.R (fun b => base ≤ b ∧ v.ownBlock ≠ some b) w x) {t : TypeId} (ty : TypeId) (i : TypeInfo) (z : Value) (bytes : Nat) (ht : P.underlying t = some (.slice e)) (hi : P.info? e = some i) (hz : i.zero = some z)
    (hsize : i.size = H.size) (hby : i.bytes = bytes) (hzs : z.cells.size = H.size) (h63 : l.length + 1 ≤ maxLen) (hbytes : (l.length + 1) * bytes ≤ 140737488355328) (hbase : base ≤ w.heap.size) :
    ∃ v' w', (Builtin.append_ #[t, t] ty #[v, .slice (some ⟨w.heap.size, 0, none⟩) 1 1]).run P (w.alloc (.cells (H.cells x).toArray e)) = .ok v' w' ∧ OL H e w' base v' (l ++ [x]) ∧ Mod (fun b => v.ownBlock = some b) w w' := by
  have m1 : Mod No w (w.alloc (.cells (H.cells x).toArray e)) := (Mod.refl _ _).alloc _
  have hr : RowAt (fun b => b = w.heap.size) (w.alloc (.cells (H.cells x).toArray e)) (some ⟨w.heap.size, 0, none⟩) (H.cells x) :=
    .inr ⟨w.heap.size, 0, rfl, rfl, fun j u hj => by rw [Nat.zero_add]; exact (blk_cell (at10 w _) j).trans (by simpa using hj)⟩
  obtain ⟨v', w', h1, h2, h3, h4⟩ := run_append_row (P := P) _ base t ty e i z H.size bytes ht hi hz hsize hby hzs H.pos v l.length _ (own_mod h.own m1 (fun k _ f => f)) _ 1 1 (H.cells x) hr (by rw [H.len, Nat.one_mul]) (H.one hx) h63 hbytes (by simp; omega)
  have hm : Mod (fun b => v.ownBlock = some b) w w' := Mod.grown ((Mod.refl _ w).alloc _) h3 (fun k hk => .inr hk)
  refine ⟨v', w', h1, ⟨by simpa using h2, fun y hy => ?_⟩, hm⟩
  have hy' : H.R (fun b => base ≤ b ∧ v.ownBlock ≠ some b) w y := by
    rcases List.mem_append.1 hy with hy | hy
    · exact h.rows y hy
    · obtain rfl : y = x := by simpa using hy
      exact hx
  refine H.lt (H.keep (H.lt (S' := fun b => (base ≤ b ∧ v.ownBlock ≠ some b) ∧ b < w.heap.size) hy' (fun b hb hs => ⟨hs, hb⟩)) (hm.keeps (fun b _ hs f => hs.1.2 f))) (fun b hb hs => ⟨hs.1.1, fun f => ?_⟩)
  rcases h4 with h4 | h4
  · exact hs.1.2 (by rw [← h4]; exact f)
  · rw [h4] at f
    have := Option.some.inj f
    have h5 := hs.2
    simp at this
    omega
/-- A new element's rows, made behind the list. -/
theorem OL.fresh (h : OL H e w base v l) {x : α} {B : Nat} (hB : base ≤ B) (hw : ∀ k, v.ownBlock = some k → k < B) (hx : H.R (fun b => B ≤ b) w' x) : H.R (fun b => base ≤ b ∧ v.ownBlock ≠ some b) w' x :=
  H.lt hx (fun b _ hb => ⟨by have hb' : B ≤ b := hb; omega, fun f => by have := hw b f; have hb' : B ≤ b := hb; omega⟩)
theorem OL.open (h : OL H e w base v l) : ∃ A c, v = .slice A l.length c ∧ l.length ≤ c ∧ RowAt (fun b => base ≤ b) w A (l.flatMap H.cells) ∧ ∀ x ∈ l, H.R (fun b => base ≤ b) w x := by
  obtain ⟨A, c, rfl, hc, hr⟩ := RowAt.of_owns h.own
  exact ⟨A, c, rfl, hc, hr, fun x hx => H.lt (h.rows x hx) (fun b _ hb => hb.1)⟩
/-- What turns is one's own. -/
theorem OL.quiet {w0 : World} (h : OL H e w w0.heap.size v l) (h0 : Mod No w0 w) (hm : Mod (fun b => v.ownBlock = some b) w w') : Mod No w0 w' :=
  h0.trans' hm (fun i hi f => by have := (h.block f).1; omega)
end
/-! ### tenants -/
def shTen : Shp TV where
  cells := TV.cells
  R := fun S w x => x.Rows S w
  size := 33
  len := TV.len
  pos := by decide
  keep := fun h k => h.keeps k
  lt := fun h k => h.lt k
  one := fun h u hu => (Array.all_eq_true_iff_forall_mem.1 (TV.one h)) u (by simpa using hu)
theorem push_ten {w : World} {base : Nat} {v : Value} {l : List TV} (h : OL shTen 30 w base v l) {x : TV} (hx : x.Rows (fun b => base ≤ b ∧ v.ownBlock ≠ some b) w) (ty : TypeId) (hl : l.length ≤ 1000000) (hbase : base ≤ w.heap.size) :
    ∃ v' w', (Builtin.append_ #[37, 37] ty #[v, .slice (some ⟨w.heap.size, 0, none⟩) 1 1]).run Tryd.prog (w.alloc (.cells x.cells.toArray 30)) = .ok v' w' ∧ OL shTen 30 w' base v' (l ++ [x]) ∧ Mod (fun b => v.ownBlock = some b) w w' := by
  obtain ⟨i0, hi, hz0, hz1, hz2⟩ := info_parts infoTen
  exact h.push (H := shTen) hx ty i0 _ 160 Tryd.underlying37 hi hz0 hz1 hz2 (by rfl) (by unfold maxLen; omega) (by omega) hbase
/-! ### changes -/
structure Cg where
  put : Bool
  name : List UInt8
  x : TV
def Cg.cells (c : Cg) : List Value := (cChg c.put c.name c.x).toList
end

section
open Go.RowKit Go.MapKept Go.ChangeMaps
set_option linter.unusedVariables false
attribute [local go_sem ↓] Go.wp_at_zero Go.wp_at_succ
attribute [local go_sem ↓] store_fold alloc_fold load_fold
theorem setCell_blk {W : World} {b i : Nat} {cs : Array Value} {t : TypeId} {fr : Nat × Nat} (h : W.heap[b]? = some (.cells cs t fr)) (v : Value) : (W.setCell ⟨b, i, none⟩ v).heap[b]? = some (.cells (cs.setIfInBounds i v) t fr) := by
  simp only [World.setCell]
  rw [Array.getElem?_modify, if_pos rfl, h]
  rfl
theorem tenStore_run {W : World} {b : Nat} {old CA : Array Value} (h : W.heap[b]? = some (.cells old 30 (0, 0))) (ho : old.size = 33) (hc : CA.size = 33) (h1 : CA.all (·.oneCell') = true) : (tenStore (.pointer (some ⟨b, 0, none⟩)) (.agg CA)).run Tryd.prog W = .ok () (W.setRow b CA) := by
  simp only [tenStore, Instr.storeAt, Instr.sureAddr, Sem.run_bind, Sem.run_pure, Result.andThen_ok]
  exact run_storeVar_row W b _ _ old CA h (by rw [tenSize, hc]) (by rw [ho, hc]) h1
theorem Mod.setRow {F : Nat → Prop} {a w : World} (h : Mod F a w) {b : Nat} (hp : a.heap.size ≤ b ∨ F b) (cs : Array Value) : Mod F a (w.setRow b cs) :=
  h.trans' (G := fun x => x = b) ⟨rfl, rfl, rfl, by simp [World.setRow], fun k hk hf => by
    have h' : ¬ b = k := fun e => hf e.symm
    simp [World.setRow, Array.getElem?_modify, h']⟩ (fun i hi hg => by subst hg; rcases hp with hp | hp; omega; exact hp)
theorem nums_one (l : List Nat) : ∀ u ∈ numCells l, u.oneCell' = true := by
  intro u hu
  obtain ⟨n, _, rfl⟩ := List.mem_map.1 hu
  rfl
end

section
open Go.RowKit Go.MapKept Go.ChangeMaps
set_option linter.unusedVariables false
attribute [local go_sem ↓] Go.wp_at_zero Go.wp_at_succ
attribute [local go_sem ↓] store_fold alloc_fold load_fold
def TV.nm (x : TV) : Nm := x.t.name
def tKey (n : Nm) : Value := .string (str n)
def TV.val (x : TV) : Value := .agg x.cells.toArray
def tEnts (l : List TV) : List (Value × Value) := l.map fun x => (tKey x.nm, x.val)
/-- A map of tenants: its entries in the order of laying. -/
structure TMap (S : Nat → Prop) (w : World) (b : Nat) (l : List TV) : Prop where
  gm : GMap Tryd.prog 9 w b (tEnts l)
  rows : ∀ x ∈ l, x.Rows S w
section
variable {S : Nat → Prop} {w w' : World} {b : Nat} {l : List TV}
theorem TMap.mod {F : Nat → Prop} (h : TMap S w b l) (hm : Mod F w w') (hb : ¬ F b) (hS : ∀ j, S j → ¬ F j) : TMap S w' b l := ⟨h.gm.mod hm hb, fun x hx => (h.rows x hx).keeps (hm.keeps (fun b _ hs => hS b hs))⟩
end
end

section
open Go.RowKit Go.MapKept Go.ChangeMaps
set_option linter.unusedVariables false
attribute [local go_sem ↓] Go.wp_at_zero Go.wp_at_succ
attribute [local go_sem ↓] store_fold alloc_fold load_fold slice_op_fold
/-- A list of changes' values: each with rows that are there. -/
def CVl (S : Nat → Prop) (w : World) (A : Option Addr) (l : List Cg) : Prop := RowAt S w A (l.flatMap Cg.cells) ∧ ∀ x ∈ l, x.x.Rows S w
theorem CVl.keeps {S : Nat → Prop} {w w' : World} {A : Option Addr} {l : List Cg} (h : CVl S w A l) (hk : Keeps S w w') : CVl S w' A l := ⟨h.1.keeps hk, fun x hx => (h.2 x hx).keeps hk⟩
theorem CVl.nil (S : Nat → Prop) (w : World) (A : Option Addr) : CVl S w A [] := ⟨.nil _ _ _, by simp⟩
theorem CVl.imp {S S' : Nat → Prop} {w : World} {A : Option Addr} {l : List Cg} (h : CVl S w A l) (hs : ∀ b, b < w.heap.size → S b → S' b) : CVl S' w A l := ⟨h.1.mono hs, fun x hx => (h.2 x hx).lt hs⟩
theorem TVl.imp {S S' : Nat → Prop} {w : World} {A : Option Addr} {l : List TV} (h : TVl S w A l) (hs : ∀ b, b < w.heap.size → S b → S' b) : TVl S' w A l := ⟨h.1.mono hs, fun x hx => (h.2 x hx).lt hs⟩
section
variable {α β : Type} {nm : α → Nm} {nb : β → Nm} {f : α → β}
end
end

section
open Go.RowKit Go.MapKept Go.ChangeMaps
set_option linter.unusedVariables false
attribute [local go_sem ↓] Go.wp_at_zero Go.wp_at_succ
attribute [local go_sem ↓] store_fold alloc_fold load_fold slice_op_fold
theorem TV.Rows.val {S : Nat → Prop} {w : World} {x : TV} (h : x.Rows S w) : TenV S w x.t (.agg x.cells.toArray) := by
  obtain ⟨P, p, Q, q, R, r, e1, e2, e3, r1, r2, r3⟩ := h
  exact ⟨P, p, Q, q, R, r, by simp [TV.cells, e1, e2, e3], r1, r2, r3⟩
end

section
open Go.RowKit
set_option linter.unusedVariables false
attribute [local go_sem ↓] Go.wp_at_zero Go.wp_at_succ
attribute [local go_sem ↓] store_fold alloc_fold load_fold slice_op_fold ten_zero_fold
theorem less_str (a b : Nm) : Op.bytesLess (str a).toList (str b).toList = decide (a < b) := by
  rw [bytesLess_eq, ByteArray.toList_eq, ByteArray.toList_eq]
  rfl
theorem grab_w {P : Program} {c : Code} {Q : Exit → Act → World → Prop} {a : Act} {W : World} (h : ∀ w0, w0 = W → Code.wp P c Q a w0) : Code.wp P c Q a W := h _ rfl
/-! ### append onto a full row: where the new one lies -/
section
variable {P : Program}
theorem run_append_full2 {S S' : Nat → Prop} (w : World) (t ty e : TypeId) (i : TypeInfo) (z : Value) (size bytes : Nat) (ht : P.underlying t = some (.slice e)) (hi : P.info? e = some i) (hz : i.zero = some z)
    (hsize : i.size = size) (hby : i.bytes = bytes) (hsz : 0 < size) (A : Option Addr) (n : Nat) (xs : List Value) (hx : RowAt S w A xs) (hxl : xs.length = n * size)
    (A2 : Option Addr) (m c2 : Nat) (news : List Value) (hr : RowAt S' w A2 news) (hl : news.length = m * size) (h1 : ∀ u ∈ news, u.oneCell' = true)
    (h63 : n + m ≤ maxLen) (hbytes : (n + m) * bytes ≤ 140737488355328) :
    ∃ A' c' w', (Builtin.append_ #[t, t] ty #[.slice A n n, .slice A2 m c2]).run P w = .ok (.slice A' (n + m) c') w' ∧ Mod No w w' ∧ n + m ≤ c' ∧
      ((m = 0 ∧ w' = w ∧ A' = A) ∨ ∃ cur : Array Value, A' = some ⟨w.heap.size, 0, none⟩ ∧ w'.heap[w.heap.size]? = some (.cells cur e (0, 0)) ∧ ∀ (j : Nat) (u : Value), (xs ++ news)[j]? = some u → cur[j]? = some u) := by
  subst hsize hby
  have hsrc := src_row (P := P) ht c2 hr hl h1 hsz
  have hn0 : A = none → n = 0 := fun h => by
    subst h
    rcases hx with h0 | ⟨b, o, e, _⟩
    · subst h0
      rcases Nat.mul_eq_zero.1 hxl.symm with h | h
      · exact h
      · omega
    · cases e
  rcases Nat.eq_zero_or_pos m with rfl | hm
  · obtain rfl : news = [] := List.eq_nil_of_length_eq_zero (by simpa using hl)
    refine ⟨A, n, w, ?_, Mod.refl _ _, by omega, .inl ⟨rfl, rfl, rfl⟩⟩
    cases A with
    | none =>
      have := hn0 rfl
      subst this
      have h4 := hsrc.cells
      simp [Builtin.append_, run_underlying ht, sizeOf, typeInfo, hi, h4, Builtin.lenOf]
    | some b =>
      have h4 := hsrc.cells
      simp [Builtin.append_, run_underlying ht, sizeOf, typeInfo, hi, h4, storeCells, Builtin.lenOf]
  · have hold : (Builtin.firstCells i.size n (.slice A n n)).run P w.drew = .ok xs.toArray w.drew := by
      rcases hx with h0 | ⟨b, o, e, _, hc⟩
      · subst h0
        have hn : n = 0 := by
          rcases Nat.mul_eq_zero.1 hxl.symm with h | h
          · exact h
          · omega
        subst hn
        cases A with
        | none => exact run_firstCells_none w.drew _ 0 0 0
        | some ad => exact run_firstCells_some w.drew _ 0 ad 0 0 [] hxl (fun j u hj => by simp at hj)
      · subst e
        exact run_firstCells_some w.drew _ n _ n n xs hxl (fun j u hj => by rw [Addr.add_lit]; exact hc j u hj)
    have h := run_append_grow_src (P := P) w t t ty e i z ht hi hz A n n xs hold (.slice A2 m c2) m news hsrc (by omega) (by unfold maxLen at h63; omega) (growslice_fits (by omega) hbytes)
    refine ⟨_, _, _, h, (Mod.refl No w).drew.alloc _, grownCap_ge _ _ _ _, .inr ⟨_, rfl, at10 w.drew _, fun j u hj => ?_⟩⟩
    rw [Array.getElem?_append_left (by simpa using (List.getElem?_eq_some_iff.1 hj).1)]
    simpa using hj
end
/-! ### cells of one's own, which may be written -/
def Lies (base : Nat) (w : World) (A : Option Addr) (cs : List Value) : Prop :=
  cs = [] ∨ ∃ b o cur, A = some ⟨b, o, none⟩ ∧ base ≤ b ∧ w.heap[b]? = some (.cells cur 30 (0, 0)) ∧ ∀ j u, cs[j]? = some u → cur[o + j]? = some u
section
variable {base : Nat} {w w' : World} {A : Option Addr} {cs : List Value}
theorem Lies.row (h : Lies base w A cs) : RowAt (fun b => base ≤ b) w A cs := by
  rcases h with h | ⟨b, o, cur, e, hb, hg, hc⟩
  · exact .inl h
  · exact .inr ⟨b, o, e, hb, fun j u hj => (blk_cell hg _).trans (hc j u hj)⟩
theorem Lies.mod {F : Nat → Prop} (h : Lies base w A cs) (hm : Mod F w w') (hF : ∀ b, base ≤ b → ¬ F b) : Lies base w' A cs := by
  rcases h with h | ⟨b, o, cur, e, hb, hg, hc⟩
  · exact .inl h
  · exact .inr ⟨b, o, cur, e, hb, hm.obj hg (hF b hb), hc⟩
theorem Lies.take (h : Lies base w A cs) (k : Nat) : Lies base w A (cs.take k) := by
  rcases h with h | ⟨b, o, cur, e, hb, hg, hc⟩
  · subst h; simp; exact .inl rfl
  · refine .inr ⟨b, o, cur, e, hb, hg, fun j u hj => hc j u ?_⟩
    have hjk : j < k := by
      have := (List.getElem?_eq_some_iff.1 hj).1
      simp at this
      omega
    rwa [List.getElem?_take_of_lt hjk] at hj
end
theorem tv_len (l : List TV) : (tvCells l).length = l.length * 33 := flat_length TV.cells 33 TV.len l
theorem tv_take (l : List TV) (k : Nat) (hk : k ≤ l.length) : (tvCells l).take (k * 33) = tvCells (l.take k) := by
  have e1 : tvCells l = tvCells (l.take k) ++ tvCells (l.drop k) := by unfold tvCells; rw [← List.flatMap_append, List.take_append_drop]
  have e2 : (tvCells (l.take k)).length = k * 33 := by rw [tv_len, List.length_take]; omega
  rw [e1, List.take_append_of_le_length (by omega), List.take_of_length_le (by omega)]
theorem tv_drop (l : List TV) (k : Nat) (hk : k ≤ l.length) : (tvCells l).drop (k * 33) = tvCells (l.drop k) := by
  have e1 : tvCells l = tvCells (l.take k) ++ tvCells (l.drop k) := by unfold tvCells; rw [← List.flatMap_append, List.take_append_drop]
  have e2 : (tvCells (l.take k)).length = k * 33 := by rw [tv_len, List.length_take]; omega
  rw [e1, List.drop_append_of_le_length (by omega), List.drop_of_length_le (by omega), List.nil_append]
/-- The reference's list: its cells its own, what they point to as it came. -/
structure RLs (S : Nat → Prop) (base : Nat) (w : World) (v : Value) (l : List TV) : Prop where
  blk : ∃ A c, v = .slice A l.length c ∧ l.length ≤ c ∧ Lies base w A (tvCells l)
  rows : ∀ x ∈ l, x.Rows S w
theorem RLs.nil (S : Nat → Prop) (base : Nat) (w : World) : RLs S base w (.slice none 0 0) [] := ⟨⟨none, 0, rfl, Nat.le_refl _, .inl rfl⟩, by simp⟩
theorem RLs.mod {S : Nat → Prop} {base : Nat} {w w' : World} {v : Value} {l : List TV} {F : Nat → Prop} (h : RLs S base w v l) (hm : Mod F w w') (hF : ∀ b, base ≤ b → ¬ F b) (hS : ∀ b, S b → ¬ F b) : RLs S base w' v l := by
  obtain ⟨A, c, e, hc, hl⟩ := h.blk
  exact ⟨⟨A, c, e, hc, hl.mod hm hF⟩, fun x hx => (h.rows x hx).keeps (hm.keeps (fun b _ hs => hS b hs))⟩
end

section
open Go.RowKit
set_option linter.unusedVariables false
attribute [local go_sem ↓] Go.wp_at_zero Go.wp_at_succ
theorem Mod.setAt {b i : Nat} {a W : World} (h : Mod (fun j => j = b) a W) (v : Value) : Mod (fun j => j = b) a (W.setCell ⟨b, i, none⟩ v) := Mod.setCell h (.inr rfl) v
theorem Mod.rowAt (W : World) (b : Nat) (cs : Array Value) : Mod (fun j => j = b) W (W.setRow b cs) := Mod.setRow (F := fun j => j = b) (Mod.refl _ _) (.inr rfl) cs
/-- A tenant of which seven fields are told. -/
def tB7 (a b c d e f g : Value) : Sem Value := Instr.build 30 #[(0, a), (1, b), (2, c), (3, d), (4, e), (5, f), (9, g)]
theorem t_b7_fold (ρ : Operand → Value) (a b c d e f g : Operand) (dst : Option Tmp) (ty : TypeId) (pos : String) (after : Array Edge) (gd : Option (Nat × Bool)) :
    execOp ρ { dst := dst, op := .build 30 #[(0, a), (1, b), (2, c), (3, d), (4, e), (5, f), (9, g)], type := ty, pos := pos, after := after, guard := gd } = (do pure (Next.value (← tB7 (ρ a) (ρ b) (ρ c) (ρ d) (ρ e) (ρ f) (ρ g))) : Sem Next) := by
  show (do pure (Next.value (← Instr.build 30 (#[(0, a), (1, b), (2, c), (3, d), (4, e), (5, f), (9, g)].map fun (i, x) => (i, ρ x)))) : Sem Next) = _
  have hm : (#[((0 : Nat), a), (1, b), (2, c), (3, d), (4, e), (5, f), (9, g)].map fun (i, x) => (i, ρ x)) = #[(0, ρ a), (1, ρ b), (2, ρ c), (3, ρ d), (4, ρ e), (5, ρ f), (9, ρ g)] := by simp
  rw [hm]
  rfl
set_option maxRecDepth 100000 in
theorem tB7_run (s : ByteArray) (v : Int) (k0 k1 k2 k3 k4 k5 k6 k7 : Value) (vt : Int) (a0 a1 a2 a3 a4 a5 b0 b1 b2 b3 b4 b5 : Value) (f : Int) (W : World) :
    (tB7 (.string s) (.int .u32 v) (.agg #[k0, k1, k2, k3, k4, k5, k6, k7]) (.int .u32 vt) (.agg #[a0, a1, a2, a3, a4, a5]) (.agg #[b0, b1, b2, b3, b4, b5]) (.int .i64 f)).run Tryd.prog W =
      .ok (.agg #[.string s, .int .u32 v, k0, k1, k2, k3, k4, k5, k6, k7, .int .u32 vt, a0, a1, a2, a3, a4, a5, b0, b1, b2, b3, b4, b5, .slice none 0 0, .int .u16 0, .int .u16 0, .int .i64 f, .slice none 0 0, .slice none 0 0, .int .i64 0, .int .i64 0, .int .u32 0, .int .u32 0]) W := by
  kernel_rfl
attribute [local go_sem ↓] t_b7_fold store_fold alloc_fold load_fold
end

end Go.Proofs.YtfpfpeachmcfeaaDoor
