/-
  Lib, App, CloneT, DfPure, DfShelf, CfgA, CfgE, Chain, Open, AppF, SliceG, OpenG, GMap, GIter, Post, CfgG in one text (pack.py).
-/
import Derived.WalkKit
import Derived.ProofKit
import Derived.Maps.Keyed
import Derived.Deep.Draws
import Derived.Maps.AppendAt
import Derived.Lib.AppendZerosOnto
import Derived.Lib.AppendZeros
import Derived.Lib.SliceRun
import Derived.Shelf.SlMaps.Clone
import Derived.Ground.SlmcProg
import Derived.Shelf.SlIter.Nil
import Derived.Shelf.SortM.Plain
import Derived.Shelf.SortM.SortNone
import Derived.Ground.GgzProg
import Derived.Ground.SlgmProg
import Derived.Test.YtkiikbajbikdeaaProg
import Derived.Test.YtkiikbajbikdeaaRows
import Derived.Test.YtkiikbajbikdeaaChecked
import Derived.Deep.LoopGhost
import Derived.Deep.QuietTactic
import Derived.Deep.RegionHeld3
import Derived.Deep.AppendLies
import Derived.Deep.RegionLaw
import Derived.Laws.CopyOwn
import Derived.Laws.IdiomStrings
import Derived.Lib.SlBytesRow
import Derived.BigQuiet
import Derived.WalkSpells
import Derived.Lib.Hide
import Derived.Outline
import Derived.Deep.DeepCutAuto
import Derived.StillTailTactics
import Derived.ChangeSame
import Derived.ChangeSlices
import Derived.WideShapes
import Derived.Deep.SlicePairs
import Derived.Deep.AppendSrc
import Derived.Laws.AppendOwn
import Derived.Deep.Slices
import Derived.Maps.RangeRun
import Derived.Below
import Derived.ReadAgain
import Derived.Handed
import Derived.OpenShut
namespace Go.Proofs.Ytkiikbajbikdeaa

section
open Go.RowKit Go.MapKept Go.ChangeMaps
set_option linter.unusedVariables false
/-! ### which blocks may have turned -/
/-- Of the blocks that were there only those of F may have turned; new ones may have come. -/
structure Mod (F : Nat → Prop) (w w' : World) : Prop where
  os : w'.os = w.os
  tape : w'.tape = w.tape
  output : w'.output = w.output
  size : w.heap.size ≤ w'.heap.size
  block : ∀ b, b < w.heap.size → ¬ F b → w'.heap[b]? = w.heap[b]?
def No : Nat → Prop := fun _ => False
theorem Mod.refl (F : Nat → Prop) (w : World) : Mod F w w := ⟨rfl, rfl, rfl, Nat.le_refl _, fun _ _ _ => rfl⟩
theorem Mod.trans {F : Nat → Prop} {a b c : World} (h : Mod F a b) (k : Mod F b c) : Mod F a c :=
  ⟨k.os.trans h.os, k.tape.trans h.tape, k.output.trans h.output, Nat.le_trans h.size k.size, fun i hi hf => (k.block i (Nat.lt_of_lt_of_le hi h.size) hf).trans (h.block i hi hf)⟩
/-- What is turned later, if it was there before, is F's. -/
theorem Mod.trans' {F G : Nat → Prop} {a b c : World} (h : Mod F a b) (k : Mod G b c) (hg : ∀ i, i < a.heap.size → G i → F i) : Mod F a c :=
  ⟨k.os.trans h.os, k.tape.trans h.tape, k.output.trans h.output, Nat.le_trans h.size k.size, fun i hi hf => (k.block i (Nat.lt_of_lt_of_le hi h.size) (fun g => hf (hg i hi g))).trans (h.block i hi hf)⟩
theorem Mod.mono {F G : Nat → Prop} {a b : World} (h : Mod F a b) (hg : ∀ i, F i → G i) : Mod G a b := ⟨h.os, h.tape, h.output, h.size, fun i hi hf => h.block i hi (fun g => hf (hg i g))⟩
theorem Mod.drew {F : Nat → Prop} {a w : World} (h : Mod F a w) : Mod F a w.drew := ⟨h.os, h.tape, h.output, h.size, h.block⟩
theorem Mod.drewN {F : Nat → Prop} {a w : World} (h : Mod F a w) (n : Nat) : Mod F a (w.drewN n) := ⟨h.os, h.tape, h.output, h.size, h.block⟩
theorem Mod.alloc {F : Nat → Prop} {a w : World} (h : Mod F a w) (o : Obj) : Mod F a (w.alloc o) :=
  h.trans ⟨rfl, rfl, rfl, by simp, fun k hk _ => Below.heap_alloc _ _ _ (by omega)⟩
theorem Mod.setCell {F : Nat → Prop} {a w : World} (h : Mod F a w) {p : Addr} (hp : a.heap.size ≤ p.block ∨ F p.block) (u : Value) : Mod F a (w.setCell p u) :=
  h.trans' (G := fun b => b = p.block) ⟨rfl, rfl, rfl, by simp [World.setCell], fun k hk hf => Below.heap_setCell _ _ _ _ hf⟩ (fun i hi hg => by subst hg; rcases hp with hp | hp; omega; exact hp)
theorem Mod.setBlock {F : Nat → Prop} {a w : World} (h : Mod F a w) {b : Nat} (hp : a.heap.size ≤ b ∨ F b) (o : Obj) : Mod F a (setBlock w b o) :=
  h.trans' (G := fun x => x = b) ⟨rfl, rfl, rfl, by simp [ChangeMaps.setBlock], fun k hk hf => by
    have hf : ¬ b = k := fun e => hf e.symm
    simp [ChangeMaps.setBlock, hf]⟩ (fun i hi hg => by subst hg; rcases hp with hp | hp; omega; exact hp)
theorem Mod.grown {F : Nat → Prop} {a w w' : World} {row : Option Nat} (h : Mod F a w) (hg : w.grownBy w' row) (hr : ∀ k, row = some k → a.heap.size ≤ k ∨ F k) : Mod F a w' :=
  h.trans' (G := fun k => row = some k) ⟨hg.os, hg.tape, hg.output, hg.size, fun k hk hf => hg.block k hk (fun e => hf e.symm)⟩ (fun i hi hgi => by rcases hr i hgi with h1 | h1; omega; exact h1)
theorem Mod.of_below {F : Nat → Prop} {w w' : World} (h : Below w.heap.size w w') : Mod F w w' := ⟨h.os, h.tape, h.output, h.size, fun k hk _ => h.block k hk⟩
theorem Mod.cell {F : Nat → Prop} {w w' : World} (h : Mod F w w') {p : Addr} {v : Value} (hc : w.cell? p = some v) (hf : ¬ F p.block) : w'.cell? p = some v :=
  (World.cell?_of_block (w := w) (h.block p.block (World.block_lt_of_cell? _ _ hc) hf)).trans hc
theorem Mod.obj {F : Nat → Prop} {w w' : World} (h : Mod F w w') {b : Nat} {o : Obj} (hc : w.heap[b]? = some o) (hf : ¬ F b) : w'.heap[b]? = some o :=
  (h.block b (lt_of_block hc) hf).trans hc
/-! the blocks that a call has just laid -/
theorem at10 (w : World) (a : Obj) : (w.alloc a).heap[w.heap.size]? = some a := by show (w.heap.push a)[w.heap.size]? = some a; simp
theorem at20 (w : World) (a b : Obj) : ((w.alloc a).alloc b).heap[w.heap.size]? = some a := (Below.heap_alloc _ _ _ (by simp)).trans (at10 w a)
theorem at21 (w : World) (a b : Obj) : ((w.alloc a).alloc b).heap[w.heap.size + 1]? = some b := by show ((w.heap.push a).push b)[w.heap.size + 1]? = some b; rw [Array.getElem?_push, if_pos (by simp)]
theorem at10d (w : World) (a : Obj) : (w.alloc a).drew.heap[w.heap.size]? = some a := at10 w a
theorem at20d (w : World) (a b : Obj) : ((w.alloc a).alloc b).drew.heap[w.heap.size]? = some a := at20 w a b
theorem at21d (w : World) (a b : Obj) : ((w.alloc a).alloc b).drew.heap[w.heap.size + 1]? = some b := at21 w a b
/-- A block that is known whole: its cells; none is frozen. -/
theorem blk_cell {w : World} {b : Nat} {cs : Array Value} {t : TypeId} (h : w.heap[b]? = some (.cells cs t (0, 0))) (j : Nat) : w.cell? ⟨b, j, none⟩ = cs[j]? := by simp [World.cell?, h]
theorem blk_free {w : World} {b : Nat} {cs : Array Value} {t : TypeId} (h : w.heap[b]? = some (.cells cs t (0, 0))) (j : Nat) : w.frozen? ⟨b, j, none⟩ = false := by simp [World.frozen?, h]
/-- The blocks of S are as they were. -/
def Keeps (S : Nat → Prop) (w w' : World) : Prop := ∀ b o, S b → w.heap[b]? = some o → w'.heap[b]? = some o
theorem Keeps.refl (S : Nat → Prop) (w : World) : Keeps S w w := fun _ _ _ h => h
theorem Keeps.trans {S : Nat → Prop} {a b c : World} (h : Keeps S a b) (k : Keeps S b c) : Keeps S a c := fun i o hs ho => k i o hs (h i o hs ho)
theorem Mod.keeps {F S : Nat → Prop} {w w' : World} (h : Mod F w w') (hd : ∀ b, b < w.heap.size → S b → ¬ F b) : Keeps S w w' := fun b o hs ho => h.obj ho (hd b (lt_of_block ho) hs)
/-! ### rows of cells that are read -/
/-- The cells 'cs' stand at the address A, in a block of S. (Of no cells nothing is asked.) -/
def RowAt (S : Nat → Prop) (w : World) (A : Option Addr) (cs : List Value) : Prop :=
  cs = [] ∨ ∃ b o, A = some ⟨b, o, none⟩ ∧ S b ∧ ∀ j v, cs[j]? = some v → w.cell? ⟨b, o + j, none⟩ = some v
theorem RowAt.nil (S : Nat → Prop) (w : World) (A : Option Addr) : RowAt S w A [] := .inl rfl
theorem RowAt.keeps {S : Nat → Prop} {w w' : World} {A : Option Addr} {cs : List Value} (h : RowAt S w A cs) (hk : Keeps S w w') : RowAt S w' A cs := by
  rcases h with h | ⟨b, o, e, hs, hc⟩
  · exact .inl h
  · refine .inr ⟨b, o, e, hs, fun j v hj => ?_⟩
    have h1 := hc j v hj
    have hlt := World.block_lt_of_cell? _ _ h1
    simp only [World.cell?] at h1 ⊢
    cases ho : w.heap[b]? with
    | none => simp [ho] at h1
    | some x => rw [hk b x hs ho]; rw [ho] at h1; exact h1
theorem RowAt.mono {S S' : Nat → Prop} {w : World} {A : Option Addr} {cs : List Value} (h : RowAt S w A cs) (hs : ∀ b, b < w.heap.size → S b → S' b) : RowAt S' w A cs := by
  rcases h with h | ⟨b, o, e, h1, hc⟩
  · exact .inl h
  · cases cs with
    | nil => exact .inl rfl
    | cons c cs => exact .inr ⟨b, o, e, hs b (World.block_lt_of_cell? _ _ (hc 0 c rfl)) h1, hc⟩
/-- Where there is a cell, there is an address. -/
theorem RowAt.open {S : Nat → Prop} {w : World} {A : Option Addr} {cs : List Value} (h : RowAt S w A cs) (hne : cs ≠ []) : ∃ b o, A = some ⟨b, o, none⟩ ∧ S b ∧ b < w.heap.size ∧ ∀ j v, cs[j]? = some v → w.cell? ⟨b, o + j, none⟩ = some v := by
  rcases h with h | ⟨b, o, e, h1, hc⟩
  · exact absurd h hne
  · cases cs with
    | nil => exact absurd rfl hne
    | cons c cs => exact ⟨b, o, e, h1, World.block_lt_of_cell? _ _ (hc 0 c rfl), hc⟩
/-- Elements of k cells each, laid one behind the other: cell j of element i. -/
theorem flat_at {α : Type} (f : α → List Value) (k : Nat) (hk : ∀ x, (f x).length = k) : ∀ (l : List α) (i j : Nat) (x : α), l[i]? = some x → j < k → (l.flatMap f)[i * k + j]? = (f x)[j]?
  | [], i, j, x, h, _ => by simp at h
  | y :: r, 0, j, x, h, hj => by
    obtain rfl : y = x := by simpa using h
    simp only [List.flatMap_cons, Nat.zero_mul, Nat.zero_add]
    rw [List.getElem?_append_left (by rw [hk]; exact hj)]
  | y :: r, i + 1, j, x, h, hj => by
    have h' : r[i]? = some x := by simpa using h
    simp only [List.flatMap_cons]
    rw [List.getElem?_append_right (by rw [hk]; have : (i + 1) * k = i * k + k := Nat.succ_mul i k; omega), hk]
    have e : (i + 1) * k + j - k = i * k + j := by have : (i + 1) * k = i * k + k := Nat.succ_mul i k; omega
    rw [e]
    exact flat_at f k hk r i j x h' hj
theorem flat_length {α : Type} (f : α → List Value) (k : Nat) (hk : ∀ x, (f x).length = k) : ∀ (l : List α), (l.flatMap f).length = l.length * k
  | [] => by simp
  | y :: r => by rw [List.flatMap_cons, List.length_append, hk, flat_length f k hk r, List.length_cons, Nat.succ_mul]; omega
/-- Element i of a row: its address, its cells. -/
theorem RowAt.elem {α : Type} (f : α → List Value) (k : Nat) (hk : ∀ x, (f x).length = k) (hk0 : 0 < k) {S : Nat → Prop} {w : World} {A : Option Addr} {l : List α} (h : RowAt S w A (l.flatMap f)) {i : Nat} {x : α} (hi : l[i]? = some x) :
    ∃ b o, A = some ⟨b, o, none⟩ ∧ S b ∧ b < w.heap.size ∧ ∀ j v, (f x)[j]? = some v → w.cell? ⟨b, o + i * k + j, none⟩ = some v := by
  have hne : l.flatMap f ≠ [] := by
    intro e
    have := flat_length f k hk l
    rw [e] at this
    have hlt := (List.getElem?_eq_some_iff.1 hi).1
    have : 0 < l.length * k := Nat.mul_pos (by omega) hk0
    simp at *
    omega
  obtain ⟨b, o, e, hs, hlt, hc⟩ := h.open hne
  refine ⟨b, o, e, hs, hlt, fun j v hj => ?_⟩
  have hjk : j < k := by rw [← hk x]; exact (List.getElem?_eq_some_iff.1 hj).1
  rw [Nat.add_assoc]
  exact hc _ _ ((flat_at f k hk l i j x hi hjk).trans hj)
/-- What the call owns is a row. -/
theorem RowAt.of_owns {w : World} {base : Nat} {e : TypeId} {size : Nat} {v : Value} {n : Nat} {xs : List Value} (h : w.ownsRow base e size v n xs) : ∃ A c, v = .slice A n c ∧ n ≤ c ∧ RowAt (fun b => base ≤ b) w A xs := by
  have hl := h.1
  rcases h.2 with ⟨rfl, rfl⟩ | ⟨g, cap, cur, rfl, hb, hg, hn, _⟩
  · exact ⟨none, 0, rfl, Nat.le_refl _, .inl (List.eq_nil_of_length_eq_zero (by simpa using hl))⟩
  · refine ⟨_, cap, rfl, hn, .inr ⟨g, 0, rfl, hb, fun j u hj => ?_⟩⟩
    have := h.cells (g := g) rfl j u hj
    rwa [Addr.add_lit] at this
/-- Two lists, element by element. -/
def All2 {α β : Type} (R : α → β → Prop) : List α → List β → Prop
  | [], [] => True
  | x :: l, y :: m => R x y ∧ All2 R l m
  | _, _ => False
theorem All2.length {α β : Type} {R : α → β → Prop} : ∀ {l : List α} {m : List β}, All2 R l m → l.length = m.length
  | [], [], _ => rfl
  | _ :: _, _ :: _, h => by simp [All2.length h.2]
theorem All2.imp {α β : Type} {R R' : α → β → Prop} (hr : ∀ x y, R x y → R' x y) : ∀ {l : List α} {m : List β}, All2 R l m → All2 R' l m
  | [], [], _ => trivial
  | _ :: _, _ :: _, h => ⟨hr _ _ h.1, All2.imp hr h.2⟩
theorem All2.append {α β : Type} {R : α → β → Prop} : ∀ {l l' : List α} {m m' : List β}, All2 R l m → All2 R l' m' → All2 R (l ++ l') (m ++ m')
  | [], _, [], _, _, h => h
  | _ :: _, _, _ :: _, _, h, h' => ⟨h.1, All2.append h.2 h'⟩
theorem All2.eraseIdx {α β : Type} {R : α → β → Prop} : ∀ {l : List α} {m : List β} (_ : All2 R l m) (i : Nat), All2 R (l.eraseIdx i) (m.eraseIdx i)
  | [], [], _, _ => by simp [All2]
  | _ :: _, _ :: _, h, 0 => h.2
  | _ :: l, _ :: m, h, i + 1 => ⟨h.1, All2.eraseIdx h.2 i⟩
theorem All2.set {α β : Type} {R : α → β → Prop} {x : α} {y : β} (hxy : R x y) : ∀ {l : List α} {m : List β} (_ : All2 R l m) (i : Nat), All2 R (l.set i x) (m.set i y)
  | [], [], _, _ => by simp [All2]
  | _ :: _, _ :: _, h, 0 => ⟨hxy, h.2⟩
  | _ :: l, _ :: m, h, i + 1 => ⟨h.1, All2.set hxy h.2 i⟩
/-! ### a map's block -/
section
variable {P : Program} {t k e : TypeId} {w : World} {b : Nat} {es : Array MapEntry} {clock : Nat}
theorem setBlock_self (hb : w.heap[b]? = some (.map es clock)) : setBlock w b (.map es clock) = w := by
  have hlt := lt_of_block hb
  have : w.heap.setIfInBounds b (.map es clock) = w.heap := by
    apply Array.ext_getElem?
    intro i
    by_cases h : b = i
    · subst h; rw [Array.getElem?_setIfInBounds, if_pos rfl, if_pos hlt, hb]
    · simp [h]
  simp [ChangeMaps.setBlock, this]
/-- All keys of the block are keys of their type. -/
def KeysOk (P : Program) (k : TypeId) (es : Array MapEntry) : Prop := ∀ x ∈ es.toList, ∃ l, keyOf P k x.key = some l
theorem find_hit (K : Maps.Keyed P k) (hs : Stamped es clock) (hes : KeysOk P k es) {key : Value} {kl : Lit} (hk : keyOf P k key = some kl) {j : Nat} {e0 : MapEntry} (hj : es[j]? = some e0) (he : e0.key = key) (w : World) :
    (Instr.findKey k key es.toList).run P w = .ok (some (j, e0.val)) w := by
  have hj' : es.toList[j]? = some e0 := by simpa using hj
  rcases K.find w hk es.toList hes with ⟨_, h2⟩ | ⟨i, e1, h1, h2, h3⟩
  · exact absurd he (h2 e0 (List.mem_of_getElem? hj'))
  · have hij : i = j := by
      have hn := hs.2.2
      have e2 : (es.toList.map (·.key))[i]? = (es.toList.map (·.key))[j]? := by simp only [List.getElem?_map, h2, hj', Option.map_some, h3, he]
      exact (List.getElem?_inj (by simpa using (List.getElem?_eq_some_iff.1 h2).1) hn).1 e2
    subst hij
    rw [h2] at hj'
    cases hj'
    exact h1
theorem find_miss (K : Maps.Keyed P k) (hes : KeysOk P k es) {key : Value} {kl : Lit} (hk : keyOf P k key = some kl) (hn : ∀ x ∈ es.toList, x.key ≠ key) (w : World) :
    (Instr.findKey k key es.toList).run P w = .ok none w := by
  rcases K.find w hk es.toList hes with ⟨h1, _⟩ | ⟨i, e1, h1, h2, h3⟩
  · exact h1
  · exact absurd h3 (hn e1 (List.mem_of_getElem? h2))
theorem lookup_hit (K : Maps.Keyed P k) (ht : P.underlying t = some (.map k e)) (hs : Stamped es clock) (hes : KeysOk P k es) {key : Value} {kl : Lit} (hk : keyOf P k key = some kl) {j : Nat} {e0 : MapEntry} (hj : es[j]? = some e0) (he : e0.key = key) (c : Bool) :
    ∀ w : World, w.heap[b]? = some (.map es clock) → (Instr.lookup t (.map (some b)) key c).run P w = .ok (if c then .tuple #[e0.val, .bool true] else e0.val) w := by
  intro w hb
  simp [Instr.lookup, run_underlying ht, MapKept.run_getObj_map hb, K.check w _ hk, find_hit K hs hes hk hj he w, Result.andThen]
theorem lookup_miss (K : Maps.Keyed P k) (ht : P.underlying t = some (.map k e)) {z : Value} (hz : ∀ w, (zeroValue e).run P w = .ok z w) (hes : KeysOk P k es) {key : Value} {kl : Lit} (hk : keyOf P k key = some kl) (hn : ∀ x ∈ es.toList, x.key ≠ key) (c : Bool) :
    ∀ w : World, w.heap[b]? = some (.map es clock) → (Instr.lookup t (.map (some b)) key c).run P w = .ok (if c then .tuple #[z, .bool false] else z) w := by
  intro w hb
  simp [Instr.lookup, run_underlying ht, MapKept.run_getObj_map hb, K.check w _ hk, find_miss K hes hk hn w, hz, Result.andThen]
theorem mapUpdate_hit (K : Maps.Keyed P k) (ht : P.underlying t = some (.map k e)) (hs : Stamped es clock) (hes : KeysOk P k es) {key : Value} {kl : Lit} (hk : keyOf P k key = some kl) {j : Nat} {e0 : MapEntry} (hj : es[j]? = some e0) (he : e0.key = key) (v : Value) :
    ∀ w : World, w.heap[b]? = some (.map es clock) → (Instr.mapUpdate t (.map (some b)) key v).run P w = .ok () (setBlock w b (.map (es.modify j (fun x => { x with val := v })) clock)) := by
  intro w hb
  have hm : es.modify j (fun x => { x with key := key, val := v }) = es.modify j (fun x => { x with val := v }) := by
    apply Array.ext_getElem?
    intro i
    rw [Array.getElem?_modify, Array.getElem?_modify]
    split
    · rename_i h; subst h; rw [hj]; simp [he]
    · rfl
  simp [Instr.mapUpdate, run_underlying ht, MapKept.run_getObj_map hb, K.check w _ hk, find_hit K hs hes hk hj he w, hj, he, K.stays w hk, MapKept.run_setObj_map _ hb, hm, Result.andThen, ChangeMaps.setBlock]
theorem mapUpdate_miss (K : Maps.Keyed P k) (ht : P.underlying t = some (.map k e)) (hes : KeysOk P k es) {key : Value} {kl : Lit} (hk : keyOf P k key = some kl) (hn : ∀ x ∈ es.toList, x.key ≠ key) (v : Value) :
    ∀ w : World, w.heap[b]? = some (.map es clock) → (Instr.mapUpdate t (.map (some b)) key v).run P w = .ok () (setBlock w b (.map (es.push ⟨key, v, clock⟩) (clock + 1))) := by
  intro w hb
  simp [Instr.mapUpdate, run_underlying ht, MapKept.run_getObj_map hb, K.check w _ hk, find_miss K hes hk hn w, MapKept.run_setObj_map _ hb, Result.andThen, ChangeMaps.setBlock]
theorem delete_hit {ty : TypeId} (K : Maps.Keyed P k) (ht : P.underlying t = some (.map k e)) (hs : Stamped es clock) (hes : KeysOk P k es) {key : Value} {kl : Lit} (hk : keyOf P k key = some kl) {j : Nat} {e0 : MapEntry} (hj : es[j]? = some e0) (he : e0.key = key) :
    ∀ w : World, w.heap[b]? = some (.map es clock) → (Builtin.delete_ #[t, k] ty #[.map (some b), key]).run P w = .ok (.tuple #[]) (setBlock w b (.map (es.eraseIdxIfInBounds j) clock)) := by
  intro w hb
  simp [Builtin.delete_, run_underlying ht, MapKept.run_getObj_map hb, K.check w _ hk, find_hit K hs hes hk hj he w, MapKept.run_setObj_map _ hb, Result.andThen, ChangeMaps.setBlock]
theorem delete_miss {ty : TypeId} (K : Maps.Keyed P k) (ht : P.underlying t = some (.map k e)) (hes : KeysOk P k es) {key : Value} {kl : Lit} (hk : keyOf P k key = some kl) (hn : ∀ x ∈ es.toList, x.key ≠ key) :
    ∀ w : World, w.heap[b]? = some (.map es clock) → (Builtin.delete_ #[t, k] ty #[.map (some b), key]).run P w = .ok (.tuple #[]) w := by
  intro w hb
  have h0 : ({ w with heap := w.heap.setIfInBounds b (.map es clock) } : World) = w := setBlock_self hb
  simp [Builtin.delete_, run_underlying ht, MapKept.run_getObj_map hb, K.check w _ hk, find_miss K hes hk hn w, MapKept.run_setObj_map _ hb, h0, Result.andThen]
theorem len_map {ty : TypeId} (ht : P.underlying t = some (.map k e)) (es : Array MapEntry) (clock : Nat) :
    ∀ w : World, w.heap[b]? = some (.map es clock) → (Builtin.len_ #[t] ty #[.map (some b)]).run P w = .ok (.int .i64 es.size) w := by
  intro w hb
  simp [Builtin.len_, run_underlying ht, MapKept.run_getObj_map hb, Result.andThen, goInt]
end
/-! a map's block in new worlds: the walk's simp takes these -/
theorem heap_setBlock_self {w : World} {b : Nat} (o : Obj) (h : b < w.heap.size) : (setBlock w b o).heap[b]? = some o := by
  simp [ChangeMaps.setBlock, h]
theorem size_setBlock {w : World} {b : Nat} (o : Obj) : (setBlock w b o).heap.size = w.heap.size := by simp [ChangeMaps.setBlock]
end

section
open Go.RowKit
set_option linter.unusedVariables false
section
variable {P : Program}
theorem append_nothing (w : World) (base : Nat) (t ty e : TypeId) (i : TypeInfo) (size : Nat) (ht : P.underlying t = some (.slice e)) (hi : P.info? e = some i)
    (v : Value) (n : Nat) (xs : List Value) (hown : w.ownsRow base e size v n xs) (c : Nat) : (Builtin.append_ #[t, t] ty #[v, .slice none 0 c]).run P w = .ok v w := by
  rcases hown.2 with ⟨rfl, rfl⟩ | ⟨g, cap, cur, rfl, _, _, hn, _⟩
  · simp [Builtin.append_, run_underlying ht, sizeOf, typeInfo, hi, Builtin.lenOf, Builtin.firstCells]
  · simp [Builtin.append_, run_underlying ht, sizeOf, typeInfo, hi, Builtin.lenOf, Builtin.firstCells, hn, storeCells]
/-- append, whatever the source: nil, empty, or a row. -/
theorem run_append_row {S : Nat → Prop} (w : World) (base : Nat) (t ty e : TypeId) (i : TypeInfo) (z : Value) (size bytes : Nat) (ht : P.underlying t = some (.slice e)) (hi : P.info? e = some i) (hz : i.zero = some z)
    (hsize : i.size = size) (hby : i.bytes = bytes) (hzs : z.cells.size = size) (hsz : 0 < size) (v : Value) (n : Nat) (xs : List Value) (hown : w.ownsRow base e size v n xs)
    (A : Option Addr) (m c : Nat) (news : List Value) (hr : RowAt S w A news) (hl : news.length = m * size) (h1 : ∀ u ∈ news, u.oneCell' = true)
    (h63 : n + m ≤ maxLen) (hbytes : (n + m) * bytes ≤ 140737488355328) (hbase : base ≤ w.heap.size) :
    ∃ v' w', (Builtin.append_ #[t, t] ty #[v, .slice A m c]).run P w = .ok v' w' ∧ w'.ownsRow base e size v' (n + m) (xs ++ news) ∧ w.grownBy w' v.ownBlock ∧ (v'.ownBlock = v.ownBlock ∨ v'.ownBlock = some w.heap.size) := by
  have some_ : ∀ ad : Addr, A = some ad → (∀ j u, news[j]? = some u → w.cell? (ad.add j) = some u) → ∃ v' w', (Builtin.append_ #[t, t] ty #[v, .slice A m c]).run P w = .ok v' w' ∧ w'.ownsRow base e size v' (n + m) (xs ++ news) ∧ w.grownBy w' v.ownBlock ∧ (v'.ownBlock = v.ownBlock ∨ v'.ownBlock = some w.heap.size) := by
    intro ad e1 hc
    subst e1
    obtain ⟨v', w', a1, a2, a3, _, a5⟩ := run_append_own_at (P := P) w base t ty e i z size bytes ht hi hz hsize hby hzs hsz v n xs hown ad m c news hl hc h1 h63 hbytes hbase
    exact ⟨v', w', a1, a2, a3, a5⟩
  rcases hr with h0 | ⟨b, o, e1, _, hc⟩
  · subst h0
    cases A with
    | some ad => exact some_ ad rfl (fun j u hj => by simp at hj)
    | none =>
      have hm : m = 0 := by
        rcases Nat.mul_eq_zero.1 hl.symm with h | h
        · exact h
        · omega
      subst hm
      exact ⟨v, w, append_nothing w base t ty e i size ht hi v n xs hown c, by simpa using hown, World.grownBy.refl w _, .inl rfl⟩
  · exact some_ _ e1 (fun j u hj => by rw [Addr.add_lit]; exact hc j u hj)
end
end

section
open Go.RowKit
set_option linter.unusedVariables false
theorem infoKN32 : (Try.prog.info? 26).map (fun i => (i.zero, i.size, i.bytes)) = some (some (.int .u32 0), 1, 4) := by kernel_rfl
set_option maxRecDepth 100000 in
theorem clone_okN32 {S : Nat → Prop} {w : World} {A : Option Addr} {n c : Nat} (cs : List Value) (hrow : RowAt S w A cs) (hl : cs.length = n * 1) (h1 : ∀ u ∈ cs, u.oneCell' = true) (hn : n ≤ 100000000) :
    Calls Try.prog 36 #[.slice A n c] w fun e w' => ∃ v, e = .returned v ∧ w'.ownsRow w.heap.size 26 1 v n cs ∧ Mod No w w' := by
  cases A with
  | none =>
    have hcs : cs = [] := by
      rcases hrow with h | ⟨b, o, e, _⟩
      · exact h
      · cases e
    have hn0 : n = 0 := by rw [hcs] at hl; simp at hl; omega
    subst hcs
    subst hn0
    clear hrow hl h1 hn
    have hq : ∀ W, (binOp .eql 30 (.slice none 0 c) (.slice none 0 0)).run Try.prog W = .ok (.bool true) W := fun W => Lib.run_eql_slice_nil W 30 _ none 0 c 0 0 Try.underlying30
    go_enter Try.func36, Try.ntmps36
    go_wp2
    go_ret
    exact ⟨_, rfl, ⟨rfl, .inl ⟨rfl, rfl⟩⟩, Mod.refl _ _⟩
  | some ad =>
    have hq : ∀ W, (binOp .eql 30 (.slice (some ad) n c) (.slice none 0 0)).run Try.prog W = .ok (.bool false) W := fun W => Lib.run_eql_slice_nil W 30 _ (some ad) n c 0 0 Try.underlying30
    obtain ⟨i0, hi, hz0, hz1, hz2⟩ := info_parts infoKN32
    have hr1 := hrow.keeps (((Mod.refl No w).alloc (.cells #[] 26)).keeps (fun _ _ _ f => f))
    have ho : (w.alloc (.cells #[] 26)).ownsRow w.heap.size 26 1 (.slice (some ⟨w.heap.size, 0, none⟩) 0 0) 0 [] :=
      ⟨rfl, .inr ⟨w.heap.size, 0, #[], rfl, Nat.le_refl _, at10 w _, Nat.le_refl _, by decide, rfl, rfl⟩⟩
    obtain ⟨v2, w2, hrun, ho2, hg2, hb2⟩ := run_append_row (P := Try.prog) (w.alloc (.cells #[] 26)) w.heap.size 30 30 26 i0 _ 1 4 Try.underlying30 hi hz0 hz1 hz2 (by simp [Value.cells]) (by decide) _ _ _ ho (some ad) n c cs hr1 hl h1 (by unfold maxLen; omega) (by omega) (by simp)
    rw [Nat.zero_add, List.nil_append] at ho2
    have hm2 : Mod No w w2 := ((Mod.refl No w).alloc (.cells #[] 26)).trans' (F := No) (G := fun b => b = w.heap.size) (Mod.grown (Mod.refl _ _) hg2 (fun q hq => .inr (by simpa [Value.ownBlock] using hq.symm))) (fun i hi hg => by omega)
    have HF := Lib.hid (And.intro ho2 hm2)
    clear hrow hl h1 hr1 ho ho2 hg2 hb2 hm2 hi hz0 hz1 hz2
    go_enter Try.func36, Try.ntmps36
    go_wp2_with (at_builtin; refine Lib.wpList_append_run _ (by rfl) _ _ _ _ (by rfl) _ _ (by rfl) (by rfl) _ _ hrun ?_)
    go_ret
    exact ⟨_, rfl, HF.out.1, HF.out.2⟩
theorem infoKPr : (Try.prog.info? 68).map (fun i => (i.zero, i.size, i.bytes)) = some (some (.agg #[.int .u32 0, .int .u32 0]), 2, 8) := by kernel_rfl
set_option maxRecDepth 100000 in
theorem clone_okPr {S : Nat → Prop} {w : World} {A : Option Addr} {n c : Nat} (cs : List Value) (hrow : RowAt S w A cs) (hl : cs.length = n * 2) (h1 : ∀ u ∈ cs, u.oneCell' = true) (hn : n ≤ 100000000) :
    Calls Try.prog 37 #[.slice A n c] w fun e w' => ∃ v, e = .returned v ∧ w'.ownsRow w.heap.size 68 2 v n cs ∧ Mod No w w' := by
  cases A with
  | none =>
    have hcs : cs = [] := by
      rcases hrow with h | ⟨b, o, e, _⟩
      · exact h
      · cases e
    have hn0 : n = 0 := by rw [hcs] at hl; simp at hl; omega
    subst hcs
    subst hn0
    clear hrow hl h1 hn
    have hq : ∀ W, (binOp .eql 32 (.slice none 0 c) (.slice none 0 0)).run Try.prog W = .ok (.bool true) W := fun W => Lib.run_eql_slice_nil W 32 _ none 0 c 0 0 Try.underlying32
    go_enter Try.func37, Try.ntmps37
    go_wp2
    go_ret
    exact ⟨_, rfl, ⟨rfl, .inl ⟨rfl, rfl⟩⟩, Mod.refl _ _⟩
  | some ad =>
    have hq : ∀ W, (binOp .eql 32 (.slice (some ad) n c) (.slice none 0 0)).run Try.prog W = .ok (.bool false) W := fun W => Lib.run_eql_slice_nil W 32 _ (some ad) n c 0 0 Try.underlying32
    obtain ⟨i0, hi, hz0, hz1, hz2⟩ := info_parts infoKPr
    have hr1 := hrow.keeps (((Mod.refl No w).alloc (.cells #[] 68)).keeps (fun _ _ _ f => f))
    have ho : (w.alloc (.cells #[] 68)).ownsRow w.heap.size 68 2 (.slice (some ⟨w.heap.size, 0, none⟩) 0 0) 0 [] :=
      ⟨rfl, .inr ⟨w.heap.size, 0, #[], rfl, Nat.le_refl _, at10 w _, Nat.le_refl _, by decide, rfl, rfl⟩⟩
    obtain ⟨v2, w2, hrun, ho2, hg2, hb2⟩ := run_append_row (P := Try.prog) (w.alloc (.cells #[] 68)) w.heap.size 32 32 68 i0 _ 2 8 Try.underlying32 hi hz0 hz1 hz2 (by simp [Value.cells]) (by decide) _ _ _ ho (some ad) n c cs hr1 hl h1 (by unfold maxLen; omega) (by omega) (by simp)
    rw [Nat.zero_add, List.nil_append] at ho2
    have hm2 : Mod No w w2 := ((Mod.refl No w).alloc (.cells #[] 68)).trans' (F := No) (G := fun b => b = w.heap.size) (Mod.grown (Mod.refl _ _) hg2 (fun q hq => .inr (by simpa [Value.ownBlock] using hq.symm))) (fun i hi hg => by omega)
    have HF := Lib.hid (And.intro ho2 hm2)
    clear hrow hl h1 hr1 ho ho2 hg2 hb2 hm2 hi hz0 hz1 hz2
    go_enter Try.func37, Try.ntmps37
    go_wp2_with (at_builtin; refine Lib.wpList_append_run _ (by rfl) _ _ _ _ (by rfl) _ _ (by rfl) (by rfl) _ _ hrun ?_)
    go_ret
    exact ⟨_, rfl, HF.out.1, HF.out.2⟩
end

section
set_option linter.unusedVariables false
abbrev Nm := List UInt8
theorem nm_irr (a : Nm) : ¬ a < a := List.lt_irrefl a
theorem nm_trans {a b c : Nm} (h : a < b) (k : b < c) : a < c := List.lt_trans h k
theorem nm_tri (a b : Nm) : a < b ∨ a = b ∨ b < a := by
  rcases Classical.em (a < b) with h | h
  · exact .inl h
  · rcases Classical.em (b < a) with k | k
    · exact .inr (.inr k)
    · exact .inr (.inl (List.le_antisymm (List.not_lt.1 k) (List.not_lt.1 h)))
theorem nm_le (a b : Nm) : a ≤ b ↔ a < b ∨ a = b := by
  constructor
  · intro h
    rcases nm_tri a b with k | k | k
    · exact .inl k
    · exact .inr k
    · exact absurd k (List.not_lt.2 h)
  · rintro (h | rfl)
    · exact List.le_of_lt h
    · exact List.le_refl a
theorem nm_asymm {a b : Nm} (h : a < b) : ¬ b < a := fun k => nm_irr a (nm_trans h k)
theorem nm_ne {a b : Nm} (h : a < b) : a ≠ b := fun e => nm_irr b (by rw [e] at h; exact h)
section
variable {α : Type} (nm : α → Nm)
/-- In order of names, each once. -/
def Sd (l : List α) : Prop := l.Pairwise fun x y => nm x < nm y
def look (l : List α) (n : Nm) : Option α := l.find? fun x => decide (nm x = n)
variable {nm}
theorem look_name {l : List α} {n : Nm} {x : α} (h : look nm l n = some x) : nm x = n ∧ x ∈ l := ⟨by simpa using List.find?_some h, List.mem_of_find?_eq_some h⟩
theorem look_none {l : List α} {n : Nm} : look nm l n = none ↔ ∀ x ∈ l, nm x ≠ n := by
  unfold look
  rw [List.find?_eq_none]
  simp
theorem look_cons (a : α) (l : List α) (n : Nm) : look nm (a :: l) n = if nm a = n then some a else look nm l n := by
  unfold look
  rw [List.find?_cons]
  by_cases h : nm a = n <;> simp [h]
theorem look_append (l m : List α) (n : Nm) : look nm (l ++ m) n = (look nm l n).or (look nm m n) := by
  unfold look
  rw [List.find?_append]
/-- Names each once: whatever stands there is found. -/
theorem look_mem {l : List α} (hn : (l.map nm).Nodup) {x : α} (hx : x ∈ l) : look nm l (nm x) = some x := by
  induction l with
  | nil => simp at hx
  | cons a r ih =>
    simp only [List.map_cons, List.nodup_cons] at hn
    rw [look_cons]
    rcases List.mem_cons.1 hx with rfl | h
    · rw [if_pos rfl]
    · rw [if_neg (fun e => hn.1 (by rw [e]; exact List.mem_map.2 ⟨x, h, rfl⟩)), ih hn.2 h]
theorem Sd.nodup {l : List α} (h : Sd nm l) : (l.map nm).Nodup := by
  unfold List.Nodup
  rw [List.pairwise_map]
  exact h.imp (fun {a b} k => nm_ne k)
/-- Two lists in order that are looked up alike are one. -/
theorem sorted_ext : ∀ {l m : List α}, Sd nm l → Sd nm m → (∀ n, look nm l n = look nm m n) → l = m
  | [], [], _, _, _ => rfl
  | [], b :: m, _, _, h => by
    have := h (nm b)
    rw [look_cons, if_pos rfl] at this
    simp [look] at this
  | a :: l, [], _, _, h => by
    have := h (nm a)
    rw [look_cons, if_pos rfl] at this
    simp [look] at this
  | a :: l, b :: m, hl, hm, h => by
    obtain ⟨h1, h2⟩ := List.pairwise_cons.1 hl
    obtain ⟨k1, k2⟩ := List.pairwise_cons.1 hm
    have hab : nm a = nm b := by
      rcases nm_tri (nm a) (nm b) with k | k | k
      · have := h (nm a)
        rw [look_cons, if_pos rfl, look_cons, if_neg (fun e => nm_ne k e.symm)] at this
        have h3 := look_name this.symm
        exact absurd (k1 a h3.2) (nm_asymm k)
      · exact k
      · have := h (nm b)
        rw [look_cons, if_neg (fun e => nm_ne k e.symm), look_cons, if_pos rfl] at this
        have h3 := look_name this
        exact absurd (h1 b h3.2) (nm_asymm k)
    have e : a = b := by
      have := h (nm a)
      rw [look_cons, if_pos rfl, look_cons, if_pos hab.symm] at this
      exact Option.some.inj this
    subst e
    congr 1
    refine sorted_ext h2 k2 fun n => ?_
    have := h n
    rw [look_cons, look_cons] at this
    by_cases he : nm a = n
    · subst he
      rw [look_none.2 (fun x hx => (nm_ne (h1 x hx)).symm), look_none.2 (fun x hx => (nm_ne (k1 x hx)).symm)]
    · rw [if_neg he, if_neg he] at this
      exact this
/-! ### the first of each name -/
def addFirst (acc : List α) (x : α) : List α := if acc.any (fun y => decide (nm y = nm x)) then acc else acc ++ [x]
variable (nm) in
def firsts (l : List α) : List α := l.foldl (addFirst (nm := nm)) []
theorem any_look {l : List α} {n : Nm} : l.any (fun y => decide (nm y = n)) = true ↔ look nm l n ≠ none := by
  rw [Ne, look_none]
  simp
theorem addFirst_look (acc : List α) (x : α) (n : Nm) : look nm (addFirst (nm := nm) acc x) n = (look nm acc n).or (if nm x = n then some x else none) := by
  unfold addFirst
  split
  · rename_i h
    have := any_look.1 h
    by_cases he : nm x = n
    · subst he
      cases hh : look nm acc (nm x) with
      | none => exact absurd hh this
      | some y => rfl
    · rw [if_neg he, Option.or_none]
  · rw [look_append]
    congr 1
    rw [look_cons]
    rfl
theorem addFirst_nodup {acc : List α} (x : α) (h : (acc.map nm).Nodup) : ((addFirst (nm := nm) acc x).map nm).Nodup := by
  unfold addFirst
  split
  · exact h
  · rename_i hn
    rw [List.map_append, List.nodup_append]
    refine ⟨h, by simp, ?_⟩
    intro a ha b hb
    simp at hb
    subst hb
    intro e
    subst e
    obtain ⟨y, hy, e2⟩ := List.mem_map.1 ha
    exact hn (List.any_eq_true.2 ⟨y, hy, by simpa using e2⟩)
theorem firsts_from (l acc : List α) (n : Nm) : look nm (l.foldl (addFirst (nm := nm)) acc) n = (look nm acc n).or (look nm l n) := by
  induction l generalizing acc with
  | nil => simp [look]
  | cons a r ih =>
    rw [List.foldl_cons, ih, addFirst_look, look_cons]
    cases look nm acc n <;> by_cases h : nm a = n <;> simp [h]
theorem firsts_look (l : List α) (n : Nm) : look nm (firsts nm l) n = look nm l n := by
  unfold firsts
  rw [firsts_from]
  simp [look]
theorem firsts_nodup_from (l acc : List α) (h : (acc.map nm).Nodup) : ((l.foldl (addFirst (nm := nm)) acc).map nm).Nodup := by
  induction l generalizing acc with
  | nil => exact h
  | cons a r ih => exact ih _ (addFirst_nodup a h)
theorem firsts_nodup (l : List α) : ((firsts nm l).map nm).Nodup := firsts_nodup_from l [] .nil
theorem addFirst_sub {acc : List α} {x y : α} (h : y ∈ addFirst (nm := nm) acc x) : y ∈ acc ∨ y = x := by
  unfold addFirst at h
  split at h
  · exact .inl h
  · rcases List.mem_append.1 h with h | h
    · exact .inl h
    · exact .inr (by simpa using h)
theorem firsts_sub_from {l acc : List α} {y : α} (h : y ∈ l.foldl (addFirst (nm := nm)) acc) : y ∈ acc ∨ y ∈ l := by
  induction l generalizing acc with
  | nil => exact .inl h
  | cons a r ih =>
    rcases ih h with h | h
    · rcases addFirst_sub h with h | h
      · exact .inl h
      · exact .inr (by simp [h])
    · exact .inr (List.mem_cons_of_mem _ h)
theorem addFirst_len (acc : List α) (x : α) : (addFirst (nm := nm) acc x).length ≤ acc.length + 1 := by
  unfold addFirst
  split
  · omega
  · simp
theorem firsts_len_from (l acc : List α) : (l.foldl (addFirst (nm := nm)) acc).length ≤ acc.length + l.length := by
  induction l generalizing acc with
  | nil => simp
  | cons a r ih =>
    rw [List.foldl_cons, List.length_cons]
    have := ih (addFirst (nm := nm) acc a)
    have := addFirst_len (nm := nm) acc a
    omega
theorem firsts_len (l : List α) : (firsts nm l).length ≤ l.length := by have := firsts_len_from (nm := nm) l []; unfold firsts; simpa using this
/-! ### a map: one put, one struck -/
variable (nm) in
def mput (D : List α) (x : α) : List α := match D.findIdx? (fun y => decide (nm y = nm x)) with
  | some i => D.set i x
  | none => D ++ [x]
variable (nm) in
def mdel (D : List α) (n : Nm) : List α := D.filter fun y => decide (nm y ≠ n)
theorem mput_cases (D : List α) (x : α) : (∃ i y, D[i]? = some y ∧ nm y = nm x ∧ mput nm D x = D.set i x) ∨ ((∀ y ∈ D, nm y ≠ nm x) ∧ mput nm D x = D ++ [x]) := by
  unfold mput
  cases h : D.findIdx? (fun y => decide (nm y = nm x)) with
  | none =>
    right
    rw [List.findIdx?_eq_none_iff] at h
    exact ⟨fun y hy => by simpa using h y hy, rfl⟩
  | some i =>
    left
    rw [List.findIdx?_eq_some_iff_getElem] at h
    obtain ⟨hl, he, _⟩ := h
    exact ⟨i, D[i], List.getElem?_eq_getElem hl, by simpa using he, rfl⟩
theorem set_names {D : List α} {i : Nat} {x y : α} (hi : D[i]? = some y) (he : nm y = nm x) : (D.set i x).map nm = D.map nm := by
  rw [List.map_set, ← he]
  apply List.ext_getElem?
  intro j
  rw [List.getElem?_set]
  split
  · rename_i h
    subst h
    obtain ⟨hl, e⟩ := List.getElem?_eq_some_iff.1 hi
    rw [List.getElem?_map, hi]
    simp [hl]
  · rfl
theorem mput_nodup {D : List α} (h : (D.map nm).Nodup) (x : α) : ((mput nm D x).map nm).Nodup := by
  rcases mput_cases (nm := nm) D x with ⟨i, y, hi, he, e⟩ | ⟨hn, e⟩
  · rw [e, set_names hi he]; exact h
  · rw [e, List.map_append, List.nodup_append]
    refine ⟨h, by simp, ?_⟩
    intro a ha b hb e
    simp at hb
    subst hb
    subst e
    obtain ⟨y, hy, e2⟩ := List.mem_map.1 ha
    exact hn y hy e2
theorem mput_look {D : List α} (h : (D.map nm).Nodup) (x : α) (n : Nm) : look nm (mput nm D x) n = if nm x = n then some x else look nm D n := by
  have hnd := mput_nodup h x
  rcases mput_cases (nm := nm) D x with ⟨i, y, hi, he, e⟩ | ⟨hn, e⟩
  · by_cases hx : nm x = n
    · rw [if_pos hx, ← hx]
      refine look_mem hnd ?_
      rw [e]
      exact List.mem_iff_getElem?.2 ⟨i, by rw [List.getElem?_set_self (List.getElem?_eq_some_iff.1 hi).1]⟩
    · rw [if_neg hx]
      cases hl : look nm D n with
      | none =>
        rw [look_none] at hl ⊢
        rw [e]
        intro z hz
        rcases List.mem_or_eq_of_mem_set hz with h1 | rfl
        · exact hl z h1
        · exact hx
      | some z =>
        obtain ⟨hz1, hz2⟩ := look_name hl
        rw [← hz1]
        refine look_mem hnd ?_
        rw [e]
        obtain ⟨j, hj⟩ := List.mem_iff_getElem?.1 hz2
        refine List.mem_iff_getElem?.2 ⟨j, ?_⟩
        rw [List.getElem?_set_ne (fun f => ?_), hj]
        subst f
        rw [hi] at hj
        cases hj
        exact hx (he.symm.trans hz1)
  · rw [e, look_append]
    by_cases hx : nm x = n
    · subst hx
      rw [if_pos rfl, look_none.2 hn, look_cons, if_pos rfl]
      rfl
    · rw [if_neg hx, look_cons, if_neg hx]
      cases look nm D n <;> rfl
theorem mput_sub {D : List α} {x y : α} (h : y ∈ mput nm D x) : y ∈ D ∨ y = x := by
  rcases mput_cases (nm := nm) D x with ⟨i, z, hi, he, e⟩ | ⟨hn, e⟩
  · rw [e] at h; exact List.mem_or_eq_of_mem_set h
  · rw [e] at h
    rcases List.mem_append.1 h with h | h
    · exact .inl h
    · exact .inr (by simpa using h)
theorem mput_len (D : List α) (x : α) : (mput nm D x).length ≤ D.length + 1 := by
  rcases mput_cases (nm := nm) D x with ⟨i, z, hi, he, e⟩ | ⟨hn, e⟩ <;> rw [e] <;> simp
theorem mdel_look (D : List α) (n k : Nm) : look nm (mdel nm D n) k = if n = k then none else look nm D k := by
  unfold look mdel
  rw [List.find?_filter]
  by_cases h : n = k
  · subst h
    rw [if_pos rfl, List.find?_eq_none]
    intro x _
    simp
  · rw [if_neg h]
    congr 1
    funext x
    by_cases hx : nm x = k
    · have : nm x ≠ n := fun e => h (e.symm.trans hx)
      simp [hx]
      exact fun e => h e.symm
    · simp [hx]
theorem mdel_nodup {D : List α} (h : (D.map nm).Nodup) (n : Nm) : ((mdel nm D n).map nm).Nodup := h.sublist (List.filter_sublist.map _)
/-! ### the sorted names, looked up -/
variable (nm) in
def srt (D : List α) : List α := ((D.map nm).mergeSort fun x y => decide (x ≤ y)).filterMap fun n => look nm D n
theorem sort_names {l : List Nm} (h : l.Nodup) : (l.mergeSort fun x y => decide (x ≤ y)).Pairwise (fun x y => x < y) := by
  have hs : (l.mergeSort fun x y => decide (x ≤ y)).Pairwise (fun x y => decide (x ≤ y) = true) := by
    apply List.pairwise_mergeSort
    · intro a b c h1 h2
      simp only [decide_eq_true_eq] at h1 h2 ⊢
      rcases (nm_le _ _).1 h1 with k | rfl
      · rcases (nm_le _ _).1 h2 with k2 | rfl
        · exact (nm_le _ _).2 (.inl (nm_trans k k2))
        · exact h1
      · exact h2
    · intro a b
      simp only [Bool.or_eq_true, decide_eq_true_eq]
      rcases nm_tri a b with k | k | k
      · exact .inl ((nm_le _ _).2 (.inl k))
      · exact .inl ((nm_le _ _).2 (.inr k))
      · exact .inr ((nm_le _ _).2 (.inl k))
  have hn : (l.mergeSort fun x y => decide (x ≤ y)).Nodup := (List.mergeSort_perm l _).nodup_iff.2 h
  refine (hs.and hn).imp (fun {a b} k => ?_)
  obtain ⟨h1, h2⟩ := k
  rcases (nm_le a b).1 (by simpa using h1) with k | k
  · exact k
  · exact absurd k h2
theorem filterMap_sorted {β : Type} {nb : β → Nm} {f : Nm → Option β} (hf : ∀ n x, f n = some x → nb x = n) : ∀ {l : List Nm}, l.Pairwise (fun x y => x < y) → Sd nb (l.filterMap f)
  | [], _ => .nil
  | a :: l, h => by
    obtain ⟨h1, h2⟩ := List.pairwise_cons.1 h
    have ih := filterMap_sorted hf h2
    rw [List.filterMap_cons]
    split
    · exact ih
    · rename_i x hx
      refine List.pairwise_cons.2 ⟨fun y hy => ?_, ih⟩
      obtain ⟨n, hn, hy'⟩ := List.mem_filterMap.1 hy
      rw [hf _ _ hx, hf _ _ hy']
      exact h1 n hn
theorem filterMap_look {β : Type} {nb : β → Nm} {f : Nm → Option β} (hf : ∀ n x, f n = some x → nb x = n) {l : List Nm} (hl : l.Nodup) (n : Nm) : look nb (l.filterMap f) n = if n ∈ l then f n else none := by
  induction l with
  | nil => simp [look]
  | cons a l ih =>
    simp only [List.nodup_cons] at hl
    rw [List.filterMap_cons]
    cases hfa : f a with
    | none =>
      simp only
      rw [ih hl.2]
      by_cases h : n = a
      · subst h
        rw [if_neg hl.1, if_pos (by simp), hfa]
      · simp [h]
    | some x =>
      simp only
      rw [look_cons, ih hl.2, hf _ _ hfa]
      by_cases h : a = n
      · subst h
        rw [if_pos rfl, if_pos (by simp), hfa]
      · have h' : n ≠ a := fun e => h e.symm
        simp [h, h']
theorem srt_sd {D : List α} (h : (D.map nm).Nodup) : Sd nm (srt nm D) := filterMap_sorted (nb := nm) (f := fun n => look nm D n) (fun n x hx => (look_name (nm := nm) (l := D) hx).1) (sort_names h)
theorem srt_look {D : List α} (h : (D.map nm).Nodup) (n : Nm) : look nm (srt nm D) n = look nm D n := by
  unfold srt
  rw [filterMap_look (nb := nm) (f := fun n => look nm D n) (fun n x hx => (look_name (nm := nm) (l := D) hx).1) ((List.mergeSort_perm _ _).nodup_iff.2 h)]
  split
  · rfl
  · rename_i hn
    symm
    rw [look_none]
    intro x hx e
    exact hn (by rw [List.mem_mergeSort]; exact List.mem_map.2 ⟨x, hx, e⟩)
/-! ### the reference's way: one laid into a list in order -/
variable (nm) in
def rset (t : α) (again : Bool) : List α → List α
  | [] => [t]
  | a :: r => if nm a < nm t then a :: rset t again r else if nm a = nm t then (if again then t :: r else a :: r) else t :: a :: r
theorem rset_mem {t y : α} {again : Bool} : ∀ {l : List α}, y ∈ rset nm t again l → y = t ∨ y ∈ l
  | [], h => by simpa [rset] using h
  | a :: r, h => by
    unfold rset at h
    split at h
    · rcases List.mem_cons.1 h with rfl | h
      · exact .inr (by simp)
      · rcases rset_mem h with h | h
        · exact .inl h
        · exact .inr (by simp [h])
    · split at h
      · split at h
        · rcases List.mem_cons.1 h with h | h
          · exact .inl h
          · exact .inr (by simp [h])
        · exact .inr h
      · rcases List.mem_cons.1 h with h | h
        · exact .inl h
        · exact .inr h
theorem rset_name {t y : α} {again : Bool} {l : List α} (h : y ∈ rset nm t again l) : nm y = nm t ∨ y ∈ l := by
  rcases rset_mem h with rfl | h
  · exact .inl rfl
  · exact .inr h
theorem rset_sd {t : α} {again : Bool} : ∀ {l : List α}, Sd nm l → Sd nm (rset nm t again l)
  | [], _ => by simp [rset, Sd]
  | a :: r, h => by
    obtain ⟨h1, h2⟩ := List.pairwise_cons.1 h
    unfold rset
    split
    · rename_i hlt
      refine List.pairwise_cons.2 ⟨fun y hy => ?_, rset_sd h2⟩
      rcases rset_name hy with e | hy
      · rw [e]; exact hlt
      · exact h1 y hy
    · split
      · rename_i he
        split
        · exact List.pairwise_cons.2 ⟨fun y hy => by rw [← he]; exact h1 y hy, h2⟩
        · exact h
      · rename_i hlt hne
        have hta : nm t < nm a := by
          rcases nm_tri (nm a) (nm t) with k | k | k
          · exact absurd k hlt
          · exact absurd k hne
          · exact k
        refine List.pairwise_cons.2 ⟨fun y hy => ?_, h⟩
        rcases List.mem_cons.1 hy with rfl | hy
        · exact hta
        · exact nm_trans hta (h1 y hy)
theorem rset_look {t : α} {again : Bool} {n : Nm} : ∀ {l : List α}, Sd nm l → look nm (rset nm t again l) n = if nm t = n then (if again then some t else (look nm l n).or (some t)) else look nm l n
  | [], _ => by
    unfold rset
    rw [look_cons]
    by_cases h : nm t = n <;> simp [h, look]
  | a :: r, hs => by
    obtain ⟨h1, h2⟩ := List.pairwise_cons.1 hs
    unfold rset
    split
    · rename_i hlt
      rw [look_cons, rset_look h2, look_cons]
      by_cases ha : nm a = n
      · have : nm t ≠ n := fun e => nm_ne hlt (ha.trans e.symm)
        simp [ha, this]
      · simp [ha]
    · split
      · rename_i he
        cases again with
        | true =>
          simp only [if_true]
          rw [look_cons, look_cons]
          by_cases ht : nm t = n
          · simp [ht]
          · have : nm a ≠ n := fun e => ht (he.symm.trans e)
            simp [ht, this]
        | false =>
          simp only [Bool.false_eq_true, if_false]
          by_cases ht : nm t = n
          · rw [if_pos ht, look_cons, if_pos (he.trans ht)]
            rfl
          · rw [if_neg ht]
      · rename_i hlt hne
        rw [look_cons]
        by_cases ht : nm t = n
        · have hno : look nm (a :: r) n = none := by
            rw [look_none]
            intro x hx e
            have hta : nm t < nm a := by
              rcases nm_tri (nm a) (nm t) with k | k | k
              · exact absurd k hlt
              · exact absurd k hne
              · exact k
            rcases List.mem_cons.1 hx with rfl | hx
            · exact hne (e.trans ht.symm)
            · exact nm_ne (nm_trans hta (h1 x hx)) (ht.trans e.symm)
          rw [if_pos ht, if_pos ht, hno]
          cases again <;> rfl
        · rw [if_neg ht, if_neg ht]
theorem rset_len {t : α} {again : Bool} : ∀ {l : List α}, (rset nm t again l).length ≤ l.length + 1
  | [] => by simp [rset]
  | a :: r => by
    unfold rset
    have := rset_len (t := t) (again := again) (l := r)
    split
    · simp; omega
    · split
      · split <;> simp
      · simp
theorem mdel_sd {l : List α} (h : Sd nm l) (n : Nm) : Sd nm (mdel nm l n) := h.filter _
theorem mdel_len (l : List α) (n : Nm) : (mdel nm l n).length ≤ l.length := List.length_filter_le _ _
variable (nm) in
/-- What the reference makes of tenants: the first of each name, in order. -/
def rfirsts (l : List α) : List α := l.foldl (fun acc x => rset nm x false acc) []
theorem rfirsts_sd_from (l acc : List α) (h : Sd nm acc) : Sd nm (l.foldl (fun acc x => rset nm x false acc) acc) := by
  induction l generalizing acc with
  | nil => exact h
  | cons a r ih => exact ih _ (rset_sd h)
theorem rfirsts_sd (l : List α) : Sd nm (rfirsts nm l) := rfirsts_sd_from l [] .nil
theorem rfirsts_from (l acc : List α) (h : Sd nm acc) (n : Nm) : look nm (l.foldl (fun acc x => rset nm x false acc) acc) n = (look nm acc n).or (look nm l n) := by
  induction l generalizing acc with
  | nil => simp [look]
  | cons a r ih =>
    rw [List.foldl_cons, ih _ (rset_sd h), rset_look h, look_cons]
    by_cases ha : nm a = n
    · cases look nm acc n <;> simp [ha]
    · simp [ha]
theorem rfirsts_look (l : List α) (n : Nm) : look nm (rfirsts nm l) n = look nm l n := by
  unfold rfirsts
  rw [rfirsts_from l [] .nil]
  simp [look]
theorem rfirsts_len_from (l acc : List α) : (l.foldl (fun acc x => rset nm x false acc) acc).length ≤ acc.length + l.length := by
  induction l generalizing acc with
  | nil => simp
  | cons a r ih =>
    rw [List.foldl_cons, List.length_cons]
    have h1 := ih (rset nm a false acc)
    have h2 := rset_len (nm := nm) (t := a) (again := false) (l := acc)
    omega
end
/-! ### changes -/
structure Chg (α : Type) where
  put : Bool
  name : Nm
  t : α
section
variable {α : Type} {nm : α → Nm}
/-- A change's work on a map. -/
def mstep (nm : α → Nm) (D : List α) (c : Chg α) : List α := if c.put then mput nm D c.t else mdel nm D c.name
def rstep (nm : α → Nm) (D : List α) (c : Chg α) : List α := if c.put then rset nm c.t true D else mdel nm D c.name
def lstep (nm : α → Nm) (f : Nm → Option α) (c : Chg α) : Nm → Option α := fun n => if c.put then (if nm c.t = n then some c.t else f n) else (if c.name = n then none else f n)
theorem mstep_nodup {D : List α} (h : (D.map nm).Nodup) (c : Chg α) : ((mstep nm D c).map nm).Nodup := by
  unfold mstep
  split
  · exact mput_nodup h _
  · exact mdel_nodup h _
theorem mstep_look {D : List α} (h : (D.map nm).Nodup) (c : Chg α) : look nm (mstep nm D c) = lstep nm (look nm D) c := by
  funext n
  unfold mstep lstep
  split
  · exact mput_look h _ n
  · exact mdel_look _ _ n
theorem rstep_sd {D : List α} (h : Sd nm D) (c : Chg α) : Sd nm (rstep nm D c) := by
  unfold rstep
  split
  · exact rset_sd h
  · exact mdel_sd h _
theorem rstep_look {D : List α} (h : Sd nm D) (c : Chg α) : look nm (rstep nm D c) = lstep nm (look nm D) c := by
  funext n
  unfold rstep lstep
  split
  · rw [rset_look h]; simp
  · exact mdel_look _ _ n
theorem msteps_nodup (C : List (Chg α)) {D : List α} (h : (D.map nm).Nodup) : ((C.foldl (mstep nm) D).map nm).Nodup := by
  induction C generalizing D with
  | nil => exact h
  | cons c C ih => exact ih (mstep_nodup h c)
theorem msteps_look (C : List (Chg α)) {D : List α} (h : (D.map nm).Nodup) : look nm (C.foldl (mstep nm) D) = C.foldl (lstep nm) (look nm D) := by
  induction C generalizing D with
  | nil => rfl
  | cons c C ih => rw [List.foldl_cons, ih (mstep_nodup h c), mstep_look h, List.foldl_cons]
theorem rsteps_sd (C : List (Chg α)) {D : List α} (h : Sd nm D) : Sd nm (C.foldl (rstep nm) D) := by
  induction C generalizing D with
  | nil => exact h
  | cons c C ih => exact ih (rstep_sd h c)
theorem rsteps_look (C : List (Chg α)) {D : List α} (h : Sd nm D) : look nm (C.foldl (rstep nm) D) = C.foldl (lstep nm) (look nm D) := by
  induction C generalizing D with
  | nil => rfl
  | cons c C ih => rw [List.foldl_cons, ih (rstep_sd h c), rstep_look h, List.foldl_cons]
/-- Tenants behind changes, in order. -/
def applied (nm : α → Nm) (l : List α) (C : List (Chg α)) : List α := srt nm (C.foldl (mstep nm) (firsts nm l))
theorem applied_sd (l : List α) (C : List (Chg α)) : Sd nm (applied nm l C) := srt_sd (msteps_nodup C (firsts_nodup l))
theorem applied_look (l : List α) (C : List (Chg α)) : look nm (applied nm l C) = C.foldl (lstep nm) (look nm l) := by
  funext n
  unfold applied
  rw [srt_look (msteps_nodup C (firsts_nodup l)), msteps_look C (firsts_nodup l)]
  have e : look nm (firsts nm l) = look nm l := funext (firsts_look l)
  rw [e]
theorem rapplied_eq (l : List α) (C : List (Chg α)) : C.foldl (rstep nm) (rfirsts nm l) = applied nm l C := by
  refine sorted_ext (rsteps_sd C (rfirsts_sd l)) (applied_sd l C) (fun n => ?_)
  rw [rsteps_look C (rfirsts_sd l), applied_look]
  have e : look nm (rfirsts nm l) = look nm l := funext (rfirsts_look l)
  rw [e]
theorem applied_nil_of_sd {l : List α} (h : Sd nm l) : applied nm l [] = l := sorted_ext (applied_sd l []) h (fun n => by rw [applied_look]; rfl)
theorem applied_app (l : List α) (C C' : List (Chg α)) : applied nm (applied nm l C) C' = applied nm l (C ++ C') := by
  refine sorted_ext (applied_sd _ _) (applied_sd _ _) (fun n => ?_)
  rw [applied_look, applied_look, applied_look, List.foldl_append]
/-! ### what is changed -/
variable [DecidableEq α]
def dif (z : α) (n : Nm) (a b : Option α) : Option (Chg α) := match a, b with
  | none, none => none
  | some _, none => some ⟨false, n, z⟩
  | none, some y => some ⟨true, n, y⟩
  | some x, some y => if x = y then none else some ⟨true, n, y⟩
theorem dif_name {z : α} {n : Nm} {a b : Option α} {c : Chg α} (h : dif z n a b = some c) : c.name = n := by
  unfold dif at h
  split at h
  · cases h
  · cases h; rfl
  · cases h; rfl
  · split at h
    · cases h
    · cases h; rfl
/-- By the sorted names of both. -/
def diffd (nm : α → Nm) (z : α) (ns : List Nm) (a b : List α) : List (Chg α) := (ns.mergeSort fun x y => decide (x ≤ y)).filterMap fun n => dif z n (look nm a n) (look nm b n)
theorem diffd_sd {z : α} {ns : List Nm} (hn : ns.Nodup) (a b : List α) : Sd Chg.name (diffd nm z ns a b) := filterMap_sorted (fun n c hc => dif_name hc) (sort_names hn)
theorem diffd_look {z : α} {ns : List Nm} (hn : ns.Nodup) (a b : List α) (hns : ∀ n, n ∈ ns ↔ look nm a n ≠ none ∨ look nm b n ≠ none) (n : Nm) : look Chg.name (diffd nm z ns a b) n = dif z n (look nm a n) (look nm b n) := by
  unfold diffd
  rw [filterMap_look (fun n c hc => dif_name hc) ((List.mergeSort_perm _ _).nodup_iff.2 hn)]
  split
  · rfl
  · rename_i h
    rw [List.mem_mergeSort, hns] at h
    have h1 : look nm a n = none := Classical.byContradiction fun f => h (.inl f)
    have h2 : look nm b n = none := Classical.byContradiction fun f => h (.inr f)
    rw [h1, h2]
    rfl
/-- The reference's way: both lists side by side. -/
def mrg (nm : α → Nm) (z : α) : List α → List α → List (Chg α)
  | [], [] => []
  | a :: x, [] => ⟨false, nm a, z⟩ :: mrg nm z x []
  | [], b :: y => ⟨true, nm b, b⟩ :: mrg nm z [] y
  | a :: x, b :: y => if nm a < nm b then ⟨false, nm a, z⟩ :: mrg nm z x (b :: y) else if nm b < nm a then ⟨true, nm b, b⟩ :: mrg nm z (a :: x) y
    else (if a = b then [] else [⟨true, nm b, b⟩]) ++ mrg nm z x y
termination_by x y => x.length + y.length
theorem mrg_names {z : α} : ∀ (x y : List α) (c : Chg α), c ∈ mrg nm z x y → (∃ a ∈ x, nm a = c.name) ∨ ∃ b ∈ y, nm b = c.name
  | [], [], c, h => by simp [mrg] at h
  | a :: x, [], c, h => by
    unfold mrg at h
    rcases List.mem_cons.1 h with rfl | h
    · exact .inl ⟨a, by simp, rfl⟩
    · rcases mrg_names x [] c h with ⟨q, hq, e⟩ | ⟨q, hq, e⟩
      · exact .inl ⟨q, by simp [hq], e⟩
      · exact .inr ⟨q, hq, e⟩
  | [], b :: y, c, h => by
    unfold mrg at h
    rcases List.mem_cons.1 h with rfl | h
    · exact .inr ⟨b, by simp, rfl⟩
    · rcases mrg_names [] y c h with ⟨q, hq, e⟩ | ⟨q, hq, e⟩
      · exact .inl ⟨q, hq, e⟩
      · exact .inr ⟨q, by simp [hq], e⟩
  | a :: x, b :: y, c, h => by
    unfold mrg at h
    split at h
    · rcases List.mem_cons.1 h with rfl | h
      · exact .inl ⟨a, by simp, rfl⟩
      · rcases mrg_names x (b :: y) c h with ⟨q, hq, e⟩ | ⟨q, hq, e⟩
        · exact .inl ⟨q, by simp [hq], e⟩
        · exact .inr ⟨q, hq, e⟩
    · split at h
      · rcases List.mem_cons.1 h with rfl | h
        · exact .inr ⟨b, by simp, rfl⟩
        · rcases mrg_names (a :: x) y c h with ⟨q, hq, e⟩ | ⟨q, hq, e⟩
          · exact .inl ⟨q, hq, e⟩
          · exact .inr ⟨q, by simp [hq], e⟩
      · rcases List.mem_append.1 h with h | h
        · split at h
          · simp at h
          · simp at h; subst h
            exact .inr ⟨b, by simp, rfl⟩
        · rcases mrg_names x y c h with ⟨q, hq, e⟩ | ⟨q, hq, e⟩
          · exact .inl ⟨q, by simp [hq], e⟩
          · exact .inr ⟨q, by simp [hq], e⟩
termination_by x y => x.length + y.length
theorem mrg_spec {z : α} : ∀ (x y : List α), Sd nm x → Sd nm y → Sd Chg.name (mrg nm z x y) ∧ ∀ n, look Chg.name (mrg nm z x y) n = dif z n (look nm x n) (look nm y n)
  | [], [], _, _ => by simp [mrg, Sd, look, dif]
  | a :: x, [], hx, hy => by
    obtain ⟨h1, h2⟩ := List.pairwise_cons.1 hx
    obtain ⟨i1, i2⟩ := mrg_spec (z := z) x [] h2 hy
    unfold mrg
    refine ⟨List.pairwise_cons.2 ⟨fun c hc => ?_, i1⟩, fun n => ?_⟩
    · rcases mrg_names x [] c hc with ⟨q, hq, e⟩ | ⟨q, hq, e⟩
      · rw [← e]; exact h1 q hq
      · simp at hq
    · rw [look_cons, look_cons, i2]
      by_cases ha : nm a = n
      · simp [ha, look, dif]
      · simp [ha]
  | [], b :: y, hx, hy => by
    obtain ⟨h1, h2⟩ := List.pairwise_cons.1 hy
    obtain ⟨i1, i2⟩ := mrg_spec (z := z) [] y hx h2
    unfold mrg
    refine ⟨List.pairwise_cons.2 ⟨fun c hc => ?_, i1⟩, fun n => ?_⟩
    · rcases mrg_names [] y c hc with ⟨q, hq, e⟩ | ⟨q, hq, e⟩
      · simp at hq
      · rw [← e]; exact h1 q hq
    · rw [look_cons, look_cons, i2]
      by_cases ha : nm b = n
      · simp [ha, look, dif]
      · simp [ha]
  | a :: x, b :: y, hx, hy => by
    obtain ⟨h1, h2⟩ := List.pairwise_cons.1 hx
    obtain ⟨k1, k2⟩ := List.pairwise_cons.1 hy
    unfold mrg
    split
    · rename_i hlt
      obtain ⟨i1, i2⟩ := mrg_spec (z := z) x (b :: y) h2 hy
      refine ⟨List.pairwise_cons.2 ⟨fun c hc => ?_, i1⟩, fun n => ?_⟩
      · rcases mrg_names x (b :: y) c hc with ⟨q, hq, e⟩ | ⟨q, hq, e⟩
        · rw [← e]; exact h1 q hq
        · rw [← e]
          rcases List.mem_cons.1 hq with rfl | hq
          · exact hlt
          · exact nm_trans hlt (k1 q hq)
      · rw [look_cons, i2, look_cons (l := x)]
        by_cases ha : nm a = n
        · have : look nm (b :: y) n = none := by
            rw [look_none]
            intro q hq e
            rcases List.mem_cons.1 hq with rfl | hq
            · exact nm_ne hlt (ha.trans e.symm)
            · exact nm_ne (nm_trans hlt (k1 q hq)) (ha.trans e.symm)
          rw [this]
          simp [ha, dif]
        · simp [ha]
    · rename_i hnlt
      split
      · rename_i hlt
        obtain ⟨i1, i2⟩ := mrg_spec (z := z) (a :: x) y hx k2
        refine ⟨List.pairwise_cons.2 ⟨fun c hc => ?_, i1⟩, fun n => ?_⟩
        · rcases mrg_names (a :: x) y c hc with ⟨q, hq, e⟩ | ⟨q, hq, e⟩
          · rw [← e]
            rcases List.mem_cons.1 hq with rfl | hq
            · exact hlt
            · exact nm_trans hlt (h1 q hq)
          · rw [← e]; exact k1 q hq
        · rw [look_cons, i2, look_cons (l := y)]
          by_cases ha : nm b = n
          · have : look nm (a :: x) n = none := by
              rw [look_none]
              intro q hq e
              rcases List.mem_cons.1 hq with rfl | hq
              · exact nm_ne hlt (ha.trans e.symm)
              · exact nm_ne (nm_trans hlt (h1 q hq)) (ha.trans e.symm)
            rw [this]
            simp [ha, dif]
          · simp [ha]
      · rename_i hnlt2
        have hab : nm a = nm b := by
          rcases nm_tri (nm a) (nm b) with k | k | k
          · exact absurd k hnlt
          · exact k
          · exact absurd k hnlt2
        obtain ⟨i1, i2⟩ := mrg_spec (z := z) x y h2 k2
        have hlow : ∀ c ∈ mrg nm z x y, nm b < c.name := fun c hc => by
          rcases mrg_names x y c hc with ⟨q, hq, e⟩ | ⟨q, hq, e⟩
          · rw [← e, ← hab]; exact h1 q hq
          · rw [← e]; exact k1 q hq
        refine ⟨?_, fun n => ?_⟩
        · split
          · exact i1
          · exact List.pairwise_cons.2 ⟨hlow, i1⟩
        · rw [look_append, i2, look_cons, look_cons, hab]
          by_cases hb : nm b = n
          · have e1 : look nm x n = none := by
              rw [look_none]
              intro q hq e
              exact nm_ne (h1 q hq) (hab.trans (hb.trans e.symm))
            have e2 : look nm y n = none := by
              rw [look_none]
              intro q hq e
              exact nm_ne (k1 q hq) (hb.trans e.symm)
            rw [e1, e2]
            by_cases he : a = b
            · simp [he, hb, dif, look]
            · simp [he, hb, dif, look]
          · by_cases he : a = b
            · simp [he, hb, look]
            · simp [he, hb, look]
termination_by x y => x.length + y.length
/-- Both ways tell the same. -/
theorem mrg_eq {z : α} {ns : List Nm} (hn : ns.Nodup) {a b x y : List α} (hx : Sd nm x) (hy : Sd nm y) (ex : ∀ n, look nm x n = look nm a n) (ey : ∀ n, look nm y n = look nm b n) (hns : ∀ n, n ∈ ns ↔ look nm a n ≠ none ∨ look nm b n ≠ none) : mrg nm z x y = diffd nm z ns a b := by
  obtain ⟨h1, h2⟩ := mrg_spec (z := z) x y hx hy
  refine sorted_ext h1 (diffd_sd hn a b) (fun n => ?_)
  rw [h2, diffd_look hn a b hns, ex, ey]
/-! ### changes, applied -/
omit [DecidableEq α] in
theorem lsteps_none {C : List (Chg α)} (hp : ∀ c ∈ C, c.put = true → nm c.t = c.name) {f : Nm → Option α} {n : Nm} (h : ∀ c ∈ C, c.name ≠ n) : C.foldl (lstep nm) f n = f n := by
  induction C generalizing f with
  | nil => rfl
  | cons c C ih =>
    rw [List.foldl_cons, ih (fun c hc => hp c (List.mem_cons_of_mem _ hc)) (fun c hc => h c (List.mem_cons_of_mem _ hc))]
    unfold lstep
    have hc := h c (by simp)
    split
    · rename_i hput
      rw [if_neg (by rw [hp c (by simp) hput]; exact hc)]
    · first | rfl | rw [if_neg hc]
omit [DecidableEq α] in
theorem lsteps_look {C : List (Chg α)} (hp : ∀ c ∈ C, c.put = true → nm c.t = c.name) (hs : Sd Chg.name C) {f : Nm → Option α} {n : Nm} : C.foldl (lstep nm) f n = match look Chg.name C n with
    | none => f n
    | some c => if c.put then some c.t else none := by
  induction C generalizing f with
  | nil => rfl
  | cons c C ih =>
    obtain ⟨h1, h2⟩ := List.pairwise_cons.1 hs
    have hp' := fun d (hd : d ∈ C) => hp d (List.mem_cons_of_mem _ hd)
    rw [List.foldl_cons, look_cons]
    by_cases he : c.name = n
    · subst he
      rw [if_pos rfl, lsteps_none hp' (fun d hd => (nm_ne (h1 d hd)).symm)]
      unfold lstep
      cases hput : c.put with
      | true => simp [hput, hp c (by simp) hput]
      | false => simp [hput]
    · rw [if_neg he, ih hp' h2]
      have e : lstep nm f c n = f n := by
        unfold lstep
        split
        · rename_i hput
          rw [if_neg (by rw [hp c (by simp) hput]; exact he)]
        · first | rfl | rw [if_neg he]
      rw [e]
theorem diffd_put {z : α} {ns : List Nm} {a b : List α} : ∀ c ∈ diffd nm z ns a b, c.put = true → nm c.t = c.name := by
  intro c hc hput
  obtain ⟨n, _, hd⟩ := List.mem_filterMap.1 hc
  unfold dif at hd
  split at hd
  · cases hd
  · cases hd; cases hput
  · rename_i y hy
    cases hd
    exact (look_name hy).1
  · rename_i x y hx hy
    split at hd
    · cases hd
    · cases hd
      exact (look_name hy).1
/-- What is changed, applied. -/
theorem dif_back {z : α} {n : Nm} (a b : Option α) : (match dif z n a b with
    | none => a
    | some c => if c.put then some c.t else none) = b := by
  unfold dif
  cases a with
  | none => cases b <;> rfl
  | some x =>
    cases b with
    | none => rfl
    | some y =>
      simp only
      by_cases h : x = y
      · simp [h]
      · simp [h]
theorem diffd_back {z : α} {ns : List Nm} (hn : ns.Nodup) (a b : List α) (hns : ∀ n, n ∈ ns ↔ look nm a n ≠ none ∨ look nm b n ≠ none) (f : Nm → Option α) (hf : ∀ n, f n = look nm a n) (n : Nm) : (diffd nm z ns a b).foldl (lstep nm) f n = look nm b n := by
  rw [lsteps_look diffd_put (diffd_sd hn a b), diffd_look hn a b hns, hf, dif_back]
theorem applied_diffd {z : α} {ns : List Nm} (hn : ns.Nodup) (a b : List α) (hns : ∀ n, n ∈ ns ↔ look nm a n ≠ none ∨ look nm b n ≠ none) : applied nm a (diffd nm z ns a b) = applied nm b [] := by
  refine sorted_ext (applied_sd _ _) (applied_sd _ _) (fun n => ?_)
  rw [applied_look, applied_look, diffd_back hn a b hns _ (fun _ => rfl)]
  rfl
theorem diffd_nil {z : α} {ns : List Nm} {a b : List α} (h : ∀ n, look nm a n = look nm b n) : diffd nm z ns a b = [] := by
  unfold diffd
  rw [List.filterMap_eq_nil_iff]
  intro n _
  rw [h]
  unfold dif
  cases look nm b n with
  | none => rfl
  | some y => simp
end
end

section
open Go.RowKit Go.Maps Go.Sort Go.Shelf
def lKeys_ren : Go.Shelf.Ren := ⟨fun | 7 => 31 | 10 => 41 | n => n, fun | 23 => 50 | 26 => 9 | 3 => 34 | 28 => 62 | 0 => 0 | 27 => 61 | 33 => 73 | 4 => 4 | n => n, fun | n => n⟩
theorem lKeys : Go.Proofs.SlLaysZ.n7 Try.prog lKeys_ren := {
  mixed := by kernel_rfl
  f7 := ⟨Try.f31.name, by decide, Try.func31.trans (congrArg some (by kernel_rfl))⟩
  f10 := ⟨Try.f41.name, by decide, Try.func41.trans (congrArg some (by kernel_rfl))⟩
  t0 := Try.underlying0
  a0 := Try.isAgg0
  z0 := Try.sizeOf0
  v0 := Try.zeroValue0
  t4 := Try.underlying4
  a4 := Try.isAgg4
  z4 := Try.sizeOf4
  v4 := Try.zeroValue4
  t23 := Try.underlying50
  a23 := Try.isAgg50
  z23 := Try.sizeOf50
  v23 := Try.zeroValue50
  t26 := Try.underlying9
  a26 := Try.isAgg9
  z26 := Try.sizeOf9
  v26 := Try.zeroValue9
  t27 := Try.underlying61
  a27 := Try.isAgg61
  z27 := Try.sizeOf61
  v27 := Try.zeroValue61
  t28 := Try.underlying62
  a28 := Try.isAgg62
  z28 := Try.sizeOf62
  v28 := Try.zeroValue62
  t33 := Try.underlying73
  a33 := Try.isAgg73
  z33 := Try.sizeOf73
  v33 := Try.zeroValue73 }
def lSorted_ren : Go.Shelf.Ren := ⟨fun | 6 => 30 | 8 => 39 | 9 => 40 | 11 => 45 | 13 => 47 | 12 => 46 | 23 => 57 | 24 => 58 | 14 => 48 | 15 => 49 | 16 => 50 | 17 => 51 | 18 => 52 | 19 => 53 | 20 => 54 | 21 => 55 | 22 => 56 | 25 => 59 | 26 => 60 | 27 => 61 | 28 => 62 | 29 => 63 | 30 => 64 | 31 => 65 | n => n, fun | 26 => 9 | 28 => 62 | 24 => 59 | 0 => 0 | 3 => 3 | 37 => 66 | 48 => 26 | 50 => 88 | 4 => 4 | 40 => 79 | 39 => 78 | 45 => 84 | 5 => 5 | 9 => 9 | 51 => 89 | 55 => 93 | 57 => 95 | 58 => 96 | 33 => 73 | n => n, fun | n => n⟩
theorem lSorted : Go.Proofs.SlLaysZ.n6 Try.prog lSorted_ren := {
  mixed := by kernel_rfl
  f6 := ⟨Try.f30.name, by decide, Try.func30.trans (congrArg some (by kernel_rfl))⟩
  f8 := ⟨Try.f39.name, by decide, Try.func39.trans (congrArg some (by kernel_rfl))⟩
  f11 := ⟨Try.f45.name, by decide, Try.func45.trans (congrArg some (by kernel_rfl))⟩
  t0 := Try.underlying0
  a0 := Try.isAgg0
  z0 := Try.sizeOf0
  v0 := Try.zeroValue0
  t24 := Try.underlying59
  a24 := Try.isAgg59
  z24 := Try.sizeOf59
  v24 := Try.zeroValue59
  t26 := Try.underlying9
  a26 := Try.isAgg9
  z26 := Try.sizeOf9
  v26 := Try.zeroValue9
  t28 := Try.underlying62
  a28 := Try.isAgg62
  z28 := Try.sizeOf62
  v28 := Try.zeroValue62
  i26 := by kernel_rfl }
def lSort_ren : Go.Shelf.Ren := ⟨fun | 6 => 40 | 8 => 47 | 9 => 46 | 19 => 57 | 20 => 58 | 21 => 48 | 22 => 49 | 23 => 50 | 24 => 51 | 25 => 52 | 26 => 53 | 27 => 54 | 28 => 55 | 29 => 56 | 36 => 59 | 31 => 60 | 32 => 61 | 37 => 62 | 38 => 63 | 39 => 64 | 41 => 65 | n => n, fun | 27 => 59 | 29 => 9 | 3 => 3 | 32 => 66 | 26 => 59 | 0 => 0 | 44 => 26 | 46 => 88 | 4 => 4 | 36 => 79 | 35 => 78 | 41 => 84 | 5 => 5 | 9 => 9 | 53 => 89 | 57 => 93 | 63 => 95 | 64 => 96 | n => n, fun | n => n⟩
theorem lSort : Go.Proofs.SlLaysM.n6 Try.prog lSort_ren := {
  mixed := by kernel_rfl
  f6 := ⟨Try.f40.name, by decide, Try.func40.trans (congrArg some (by kernel_rfl))⟩
  f8 := Try.func47.trans (congrArg some (by kernel_rfl))
  f9 := ⟨Try.f46.name, by decide, Try.func46.trans (congrArg some (by kernel_rfl))⟩
  f19 := Try.func57.trans (congrArg some (by kernel_rfl))
  f20 := Try.func58.trans (congrArg some (by kernel_rfl))
  f21 := ⟨Try.f48.name, by decide, Try.func48.trans (congrArg some (by kernel_rfl))⟩
  f22 := ⟨Try.f49.name, by decide, Try.func49.trans (congrArg some (by kernel_rfl))⟩
  f23 := ⟨Try.f50.name, by decide, Try.func50.trans (congrArg some (by kernel_rfl))⟩
  f24 := ⟨Try.f51.name, by decide, Try.func51.trans (congrArg some (by kernel_rfl))⟩
  f25 := ⟨Try.f52.name, by decide, Try.func52.trans (congrArg some (by kernel_rfl))⟩
  f26 := ⟨Try.f53.name, by decide, Try.func53.trans (congrArg some (by kernel_rfl))⟩
  f27 := ⟨Try.f54.name, by decide, Try.func54.trans (congrArg some (by kernel_rfl))⟩
  f28 := ⟨Try.f55.name, by decide, Try.func55.trans (congrArg some (by kernel_rfl))⟩
  f29 := ⟨Try.f56.name, by decide, Try.func56.trans (congrArg some (by kernel_rfl))⟩
  f31 := Try.func60.trans (congrArg some (by kernel_rfl))
  f32 := Try.func61.trans (congrArg some (by kernel_rfl))
  f36 := ⟨Try.f59.name, by decide, Try.func59.trans (congrArg some (by kernel_rfl))⟩
  f37 := ⟨Try.f62.name, by decide, Try.func62.trans (congrArg some (by kernel_rfl))⟩
  f38 := ⟨Try.f63.name, by decide, Try.func63.trans (congrArg some (by kernel_rfl))⟩
  f39 := ⟨Try.f64.name, by decide, Try.func64.trans (congrArg some (by kernel_rfl))⟩
  f41 := ⟨Try.f65.name, by decide, Try.func65.trans (congrArg some (by kernel_rfl))⟩
  t0 := Try.underlying0
  a0 := Try.isAgg0
  z0 := Try.sizeOf0
  v0 := Try.zeroValue0
  t3 := Try.underlying3
  a3 := Try.isAgg3
  z3 := Try.sizeOf3
  v3 := Try.zeroValue3
  t4 := Try.underlying4
  a4 := Try.isAgg4
  z4 := Try.sizeOf4
  v4 := Try.zeroValue4
  t5 := Try.underlying5
  a5 := Try.isAgg5
  z5 := Try.sizeOf5
  v5 := Try.zeroValue5
  t9 := Try.underlying9
  a9 := Try.isAgg9
  z9 := Try.sizeOf9
  v9 := Try.zeroValue9
  t26 := Try.underlying59
  a26 := Try.isAgg59
  z26 := Try.sizeOf59
  v26 := Try.zeroValue59
  t27 := Try.underlying59
  a27 := Try.isAgg59
  z27 := Try.sizeOf59
  v27 := Try.zeroValue59
  t29 := Try.underlying9
  a29 := Try.isAgg9
  z29 := Try.sizeOf9
  v29 := Try.zeroValue9
  t32 := Try.underlying66
  a32 := Try.isAgg66
  z32 := Try.sizeOf66
  v32 := Try.zeroValue66
  t35 := Try.underlying78
  a35 := Try.isAgg78
  z35 := Try.sizeOf78
  v35 := Try.zeroValue78
  t36 := Try.underlying79
  a36 := Try.isAgg79
  z36 := Try.sizeOf79
  v36 := Try.zeroValue79
  t41 := Try.underlying84
  a41 := Try.isAgg84
  z41 := Try.sizeOf84
  v41 := Try.zeroValue84
  t44 := Try.underlying26
  a44 := Try.isAgg26
  z44 := Try.sizeOf26
  v44 := Try.zeroValue26
  t46 := Try.underlying88
  a46 := Try.isAgg88
  z46 := Try.sizeOf88
  v46 := Try.zeroValue88
  t53 := Try.underlying89
  a53 := Try.isAgg89
  z53 := Try.sizeOf89
  v53 := Try.zeroValue89
  t57 := Try.underlying93
  a57 := Try.isAgg93
  z57 := Try.sizeOf93
  v57 := Try.zeroValue93
  t63 := Try.underlying95
  a63 := Try.isAgg95
  z63 := Try.sizeOf95
  v63 := Try.zeroValue95
  t64 := Try.underlying96
  a64 := Try.isAgg96
  z64 := Try.sizeOf96
  v64 := Try.zeroValue96 }
def lClone_ren : Go.Shelf.Ren := ⟨fun | 5 => 28 | 7 => 38 | n => n, fun | 23 => 50 | 25 => 9 | 3 => 34 | 4 => 4 | 20 => 20 | n => n, fun | n => n⟩
theorem lClone : Go.Proofs.SlLaysW.n5 Try.prog lClone_ren := {
  mixed := by kernel_rfl
  f5 := ⟨Try.f28.name, by decide, Try.func28.trans (congrArg some (by kernel_rfl))⟩
  f7 := Try.func38.trans (congrArg some (by kernel_rfl))
  t4 := Try.underlying4
  a4 := Try.isAgg4
  z4 := Try.sizeOf4
  v4 := Try.zeroValue4
  t20 := Try.underlying20
  a20 := Try.isAgg20
  z20 := Try.sizeOf20
  v20 := Try.zeroValue20
  t23 := Try.underlying50
  a23 := Try.isAgg50
  z23 := Try.sizeOf50
  v23 := Try.zeroValue50 }
/-- slices.Sort's two contracts at this dump, at the fence that asks nothing. -/
theorem lSorts (m : Nat) : AnyZ.SortsIn Try.prog lSorted_ren Fence.wide m :=
  ⟨fun blk off cap ss W hH hblk hsz => callsIn_wide.2 (AnyM.slices_Sort_string lSort blk off cap ss W hH hblk hsz),
   fun p cap W => callsIn_wide.2 (AnyM.slices_Sort_string_none lSort p cap W)⟩
theorem keys_ok (mb : Option Nat) (W : World) : Calls Try.prog 31 #[.map mb] W fun e w' => e = .returned (.func (.func 41) #[] #[.pointer (some ⟨W.heap.size, 0, none⟩)]) ∧ w' = W.alloc (.cells #[.map mb] 50) :=
  (callsIn_wide (n := 5)).1 (AnyZ.keys_in lKeys Fence.wide 5 trivial rfl mb W)
set_option maxHeartbeats 1000000 in
theorem sorted_keys_ok {H : Type} (b nn : Nat) (D0 : DataW H) (R : Value → Option (DataW H × List MemPlace)) (w : World) (hown : w.ownsMap Try.prog 9 R b nn D0) (hmax : Maps.size D0 ≤ maxLen) (hbytes : Maps.size D0 * 16 ≤ 140737488355328) :
    Calls Try.prog 30 #[.func (.func 41) #[] #[.pointer (some ⟨w.heap.size, 0, none⟩)]] (w.alloc (.cells #[.map (some b)] 50)) fun e w' => ∃ (v : Value) (ss : List (List UInt8)), e = .returned v ∧ ss.Perm (strKeys D0) ∧
      w'.ownsRow (w.alloc (.cells #[.map (some b)] 50)).heap.size 9 1 v ss.length ((ss.mergeSort (fun x y => decide (x ≤ y))).map encStr) ∧ (v = .slice none 0 0 ↔ ss = []) ∧ Below (w.alloc (.cells #[.map (some b)] 50)).heap.size (w.alloc (.cells #[.map (some b)] 50)) w' := by
  have hbl := hown.lt
  have hseq : SeqGives Fence.wide 2 Try.prog 41 #[.pointer (some ⟨w.heap.size, 0, none⟩)] encStr (fun ss => ss.Perm (strKeys D0)) (Maps.size D0) (w.alloc (.cells #[.map (some b)] 50)) :=
    AnyZ.keys_gives (ρ := lKeys_ren) { lKeys with } Fence.wide _ trivial rfl (by omega) w.heap.size b nn D0 _ (by simp) (by simp) (by
      obtain ⟨es, clock, hb, Ft, hs, hD⟩ := hown
      exact ⟨es, clock, (Below.heap_alloc _ _ b hbl).trans hb, Ft, hs, hD⟩)
  exact (callsIn_wide (n := 5)).1 (AnyZ.sorted_in lSorted Fence.wide 5 trivial trivial trivial trivial rfl (by omega) (lSorts _) (enters_of Try.func40 (by kernel_rfl) rfl) 41 #[.pointer (some ⟨w.heap.size, 0, none⟩)] trivial (enters_of Try.func41 (by kernel_rfl) rfl) _ _ hmax hbytes _ hseq)
theorem clone_ok (b : Nat) (es : Array MapEntry) (clock : Nat) (w : World) (hb : w.heap[b]? = some (.map es clock)) :
    Calls Try.prog 28 #[.map (some b)] w fun e w' => e = .returned (.map (some w.heap.size)) ∧ w' = w.alloc (.map es clock) :=
  AnyW.maps_Clone lClone b es clock w hb
end

section
open Go.RowKit
set_option linter.unusedVariables false
/-- Bytes as cells. -/
def bcells (l : List UInt8) : List Value := l.map fun b => .int .u8 (b.toNat : Int)
/-- A number's bytes, the highest first. -/
def be : Nat → Nat → List UInt8
  | 0, _ => []
  | k + 1, n => UInt8.ofNat (n / 256 ^ k) :: be k n
/-- What a step of writing turns: the coder's block, its row; the row behind it is that row, or a new one. -/
structure WMod (C : Nat) (v : Value) (w : World) (v' : Value) (w' : World) : Prop where
  mod : Mod (fun b => b = C ∨ v.ownBlock = some b) w w'
  row : ∀ g, v'.ownBlock = some g → v.ownBlock = some g ∨ w.heap.size ≤ g
theorem WMod.refl (C : Nat) (v : Value) (w : World) : WMod C v w v w := ⟨Mod.refl _ _, fun _ h => .inl h⟩
theorem WMod.trans {C : Nat} {v v1 v2 : Value} {w w1 w2 : World} (h : WMod C v w v1 w1) (k : WMod C v1 w1 v2 w2) : WMod C v w v2 w2 :=
  ⟨h.mod.trans' k.mod (fun i hi hg => by
    rcases hg with hg | hg
    · exact .inl hg
    · rcases h.row i hg with h1 | h1
      · exact .inr h1
      · omega), fun g hg => by
    rcases k.row g hg with h1 | h1
    · exact h.row g h1
    · exact .inr (Nat.le_trans h.mod.size h1)⟩
/-- What is neither the coder's block nor its row is as it was. -/
theorem WMod.obj {C : Nat} {v v' : Value} {w w' : World} (h : WMod C v w v' w') {b : Nat} {o : Obj} (hb : w.heap[b]? = some o) (h1 : b ≠ C) (h2 : v.ownBlock ≠ some b) : w'.heap[b]? = some o :=
  h.mod.obj hb (fun f => f.elim h1 h2)
theorem own_mod {w w' : World} {base : Nat} {e : TypeId} {size : Nat} {v : Value} {n : Nat} {xs : List Value} {F : Nat → Prop} (h : w.ownsRow base e size v n xs) (hm : Mod F w w') (hF : ∀ k, v.ownBlock = some k → ¬ F k) : w'.ownsRow base e size v n xs := by
  refine ⟨h.1, ?_⟩
  rcases h.2 with hn | ⟨g, cap, cur, rfl, hb, hgg, rest⟩
  · exact .inl hn
  · exact .inr ⟨g, cap, cur, rfl, hb, hm.obj hgg (hF g rfl), rest⟩
end

section
open Go.RowKit
set_option linter.unusedVariables false
/-! ### names -/
/-- Bytes as a string. -/
def str (l : List UInt8) : ByteArray := ⟨l.toArray⟩
theorem str_list (s : ByteArray) : str s.data.toList = s := rfl
end

section
set_option linter.unusedVariables false
variable {P : Program} {ops : Array Oper} {Q : Exit → Act → World → Prop}
/-- What is known of the frame between two tests: the two operands' addresses, and the slot d that holds what the tests so far came to. -/
structure CInv (n : Nat) (pA pB : Value) (a : Act) (d : Nat) (b : Bool) : Prop where
  size : a.tmps.size = n
  defers : a.defers = []
  t2 : a.tmps[2]? = some pA
  t3 : a.tmps[3]? = some pB
  tb : a.tmps[d]? = some (.bool b)
theorem put_size (a : Act) (d : Nat) (v : Value) : (a.put (some d) v).tmps.size = a.tmps.size := by simp [Act.put]
theorem put_get {a : Act} {d s : Nat} {v u : Value} (h : d ≠ s) (hs : a.tmps[s]? = some u) : (a.put (some d) v).tmps[s]? = some u := by
  simp only [Act.put, Array.getElem?_setIfInBounds, if_neg h]
  exact hs
theorem put_same {a : Act} {d : Nat} {v : Value} (h : d < a.tmps.size) : (a.put (some d) v).tmps[d]? = some v := by
  simp [Act.put, h]
theorem eval_get {a : Act} {s : Nat} {v : Value} (h : a.tmps[s]? = some v) : a.eval (.tmp s) = v := by
  simp [Act.eval, Array.getD_eq_getD_getElem?, h]
theorem want_of {o : Oper} {i d : Nat} {a : Act} {e : Bool} (hg : o.guard = some (i, true)) (hi : (ops[i]?).bind (·.dst) = some d) (ha : a.tmps[d]? = some (.bool e)) : Region.wanted o (yielded ops a.tmps) = e := by
  have hy : yielded ops a.tmps i = some e := by
    unfold yielded
    rw [hi]
    simp only [Option.bind_some, ha]
  unfold Region.wanted
  rw [hg]
  simp only [hy]
  cases e <;> rfl
theorem step_skip {o : Oper} {rest : List Oper} {a : Act} {w : World} (hw : Region.wanted o (yielded ops a.tmps) = false) (h : wpList P ops Q rest (a.put o.dst undef) w) : wpList P ops Q (o :: rest) a w := by
  unfold wpList
  rw [if_neg (by rw [hw]; decide)]
  exact h
theorem step_val {o : Oper} {rest : List Oper} {a : Act} {w w' : World} {v : Value} (hw : Region.wanted o (yielded ops a.tmps) = true) (hr : (execOp a.eval o).run P w = .ok (.value v) w') (h : wpList P ops Q rest (a.put o.dst v) w') : wpList P ops Q (o :: rest) a w := by
  refine wpList_step fun K hK => ?_
  rw [if_pos hw]
  unfold Oper.wp
  rw [hr]
  exact hK _ _ h
theorem step_calls {o : Oper} {rest : List Oper} {a : Act} {w : World} {f : Nat} {args : Array Value} {R : Value → World → Prop} (hw : Region.wanted o (yielded ops a.tmps) = true) (hr : (execOp a.eval o).run P w = .ok (.enter f args) w)
    (hc : Calls P f args w fun e w' => ∃ v, e = .returned v ∧ R v w') (h : ∀ v w', R v w' → wpList P ops Q rest (a.put o.dst v) w') : wpList P ops Q (o :: rest) a w := by
  refine wpList_step fun K hK => ?_
  rw [if_pos hw]
  unfold Oper.wp
  rw [hr]
  show Calls P f args w _
  refine hc.mono ?_
  rintro e w' ⟨v, rfl, hR⟩
  exact hK _ _ (h v w' hR)
theorem want_none {o : Oper} {a : Act} (h : o.guard = none) : Region.wanted o (yielded ops a.tmps) = true := by simp [Region.wanted, h]
theorem CInv.put {n : Nat} {pA pB : Value} {a : Act} {d : Nat} {b : Bool} (h : CInv n pA pB a d b) {s : Nat} (v : Value) (m : ¬ s = 2) (k : ¬ s = 3) (c : ¬ s = d) : CInv n pA pB (a.put (some s) v) d b :=
  ⟨by rw [put_size, h.size], h.defers, put_get m h.t2, put_get k h.t3, put_get c h.tb⟩
theorem CInv.at {n : Nat} {pA pB : Value} {a : Act} {d : Nat} {b : Bool} (h : CInv n pA pB a d b) {s : Nat} (v : Value) (l : s < n) : (a.put (some s) v).tmps[s]? = some v := put_same (by rw [h.size]; exact l)
/-- The five slots of a test, all apart. -/
def apart5 (n d s1 s2 s3 s4 s5 s6 d' : Nat) : Bool :=
  [s1, s2, s3, s4, s5, s6, d'].all (fun s => decide (s < n) && s != 2 && s != 3) && [s1, s2, s3, s4, s5].all (fun s => s != d) && s2 != s3 && s2 != s4
/-- What a test's five operations come to: the Boolean e' in slot s5, in a world of which R holds. -/
def Test5 (P : Program) (pA pB : Value) (o1 o2 o3 o4 o5 : Oper) (s1 s2 s3 s4 : Nat) (e' : Bool) (w : World) (R : World → Prop) : Prop :=
  ∃ q1 v1 q2 v2, (∀ ρ : Operand → Value, ρ (.tmp 2) = pA → (execOp ρ o1).run P w = .ok (.value q1) w) ∧ (∀ ρ : Operand → Value, ρ (.tmp s1) = q1 → (execOp ρ o2).run P w = .ok (.value v1) w) ∧
    (∀ ρ : Operand → Value, ρ (.tmp 3) = pB → (execOp ρ o3).run P w = .ok (.value q2) w) ∧ (∀ ρ : Operand → Value, ρ (.tmp s3) = q2 → (execOp ρ o4).run P w = .ok (.value v2) w) ∧
    ((∀ ρ : Operand → Value, ρ (.tmp s2) = v1 → ρ (.tmp s4) = v2 → (execOp ρ o5).run P w = .ok (.value (.bool e')) w) ∧ R w ∨
      ∃ f, (∀ ρ : Operand → Value, (∀ k, ρ (.func k) = .func (.func k) #[] #[]) → ρ (.tmp s2) = v1 → ρ (.tmp s4) = v2 → (execOp ρ o5).run P w = .ok (.enter f #[v1, v2]) w) ∧ Calls P f #[v1, v2] w fun e w' => e = .returned (.bool e') ∧ R w')
/-- One test more, behind a chain that came to e. -/
theorem chain_test {n i d s1 s2 s3 s4 s5 s6 d' : Nat} {pA pB : Value} {e e' : Bool} {a : Act} {w : World} {o1 o2 o3 o4 o5 o6 o7 : Oper} {rest : List Oper} {R : World → Prop}
    (ha : CInv n pA pB a d e) (hi : (ops[i]?).bind (·.dst) = some d) (hap : apart5 n d s1 s2 s3 s4 s5 s6 d' = true)
    (g1 : o1.guard = some (i, true)) (g2 : o2.guard = some (i, true)) (g3 : o3.guard = some (i, true)) (g4 : o4.guard = some (i, true)) (g5 : o5.guard = some (i, true)) (g6 : o6.guard = none) (g7 : o7.guard = none)
    (d1 : o1.dst = some s1) (d2 : o2.dst = some s2) (d3 : o3.dst = some s3) (d4 : o4.dst = some s4) (d5 : o5.dst = some s5) (d6 : o6.dst = some s6) (d7 : o7.dst = some d')
    (h6 : o6.op = .pick (.tmp d) (.tmp s5) (.const (.bool false))) (h7 : o7.op = .move (.tmp s6) ∨ o7.op = .assign (.tmp s6)) (ht : Test5 P pA pB o1 o2 o3 o4 o5 s1 s2 s3 s4 e' w R) (hR : R w)
    (h : ∀ a' w', CInv n pA pB a' d' (e && e') → R w' → wpList P ops Q rest a' w') : wpList P ops Q (o1 :: o2 :: o3 :: o4 :: o5 :: o6 :: o7 :: rest) a w := by
  simp only [apart5, List.all_cons, List.all_nil, Bool.and_true, Bool.and_eq_true, bne_iff_ne, ne_eq, decide_eq_true_eq] at hap
  obtain ⟨⟨⟨⟨⟨⟨l1, m1⟩, k1⟩, ⟨⟨l2, m2⟩, k2⟩, ⟨⟨l3, m3⟩, k3⟩, ⟨⟨l4, m4⟩, k4⟩, ⟨⟨l5, m5⟩, k5⟩, ⟨⟨l6, m6⟩, k6⟩, ⟨l7, m7⟩, k7⟩, c1, c2, c3, c4, c5⟩, x23⟩, x24⟩ := hap
  -- the last two operations, whatever the five left
  have tail : ∀ (b : Act) (w' : World) (u : Value), CInv n pA pB b d e → b.tmps[s5]? = some u → (e = true → u = .bool e') → R w' → wpList P ops Q (o6 :: o7 :: rest) b w' := by
    intro b w' u hb b5 hu hRw
    have r6 : (execOp b.eval o6).run P w' = .ok (.value (.bool (e && e'))) w' := by
      cases e with
      | true =>
        have hu' := hu rfl
        subst hu'
        simp only [execOp, h6, eval_get hb.tb, eval_get b5]
        simp [asBool]
      | false =>
        simp only [execOp, h6, eval_get hb.tb]
        simp [asBool, Act.eval]
    refine step_val (want_none g6) r6 ?_
    rw [d6]
    have e6 := hb.at (.bool (e && e')) l6
    have z6 : (b.put (some s6) (.bool (e && e'))).tmps.size = n ∧ (b.put (some s6) (.bool (e && e'))).defers = [] ∧ (b.put (some s6) (.bool (e && e'))).tmps[2]? = some pA ∧ (b.put (some s6) (.bool (e && e'))).tmps[3]? = some pB := ⟨by rw [put_size, hb.size], hb.defers, put_get m6 hb.t2, put_get k6 hb.t3⟩
    generalize b.put (some s6) (.bool (e && e')) = b6 at e6 z6 ⊢
    obtain ⟨y1, y2, y3, y4⟩ := z6
    have r7 : (execOp b6.eval o7).run P w' = .ok (.value (.bool (e && e'))) w' := by
      rcases h7 with h7 | h7 <;> simp only [execOp, h7, eval_get e6, Sem.run_pure]
    refine step_val (want_none g7) r7 ?_
    rw [d7]
    exact h _ _ ⟨by rw [put_size, y1], y2, put_get m7 y3, put_get k7 y4, put_same (by rw [y1]; exact l7)⟩ hRw
  cases e with
  | false =>
    refine step_skip (want_of g1 hi ha.tb) ?_
    rw [d1]
    have ha1 := ha.put undef m1 k1 c1
    generalize a.put (some s1) undef = a1 at ha1 ⊢
    refine step_skip (want_of g2 hi ha1.tb) ?_
    rw [d2]
    have ha2 := ha1.put undef m2 k2 c2
    generalize a1.put (some s2) undef = a2 at ha2 ⊢
    refine step_skip (want_of g3 hi ha2.tb) ?_
    rw [d3]
    have ha3 := ha2.put undef m3 k3 c3
    generalize a2.put (some s3) undef = a3 at ha3 ⊢
    refine step_skip (want_of g4 hi ha3.tb) ?_
    rw [d4]
    have ha4 := ha3.put undef m4 k4 c4
    generalize a3.put (some s4) undef = a4 at ha4 ⊢
    refine step_skip (want_of g5 hi ha4.tb) ?_
    rw [d5]
    have ha5 := ha4.put undef m5 k5 c5
    have e5 := ha4.at undef l5
    generalize a4.put (some s5) undef = a5 at ha5 e5 ⊢
    exact tail _ _ undef ha5 e5 (fun f => by cases f) hR
  | true =>
    obtain ⟨q1, v1, q2, v2, x1, x2, x3, x4, x5⟩ := ht
    refine step_val (want_of g1 hi ha.tb) (x1 _ (eval_get ha.t2)) ?_
    rw [d1]
    have ha1 := ha.put q1 m1 k1 c1
    have e1 := ha.at q1 l1
    generalize a.put (some s1) q1 = a1 at ha1 e1 ⊢
    refine step_val (want_of g2 hi ha1.tb) (x2 _ (eval_get e1)) ?_
    rw [d2]
    have ha2 := ha1.put v1 m2 k2 c2
    have e2 := ha1.at v1 l2
    generalize a1.put (some s2) v1 = a2 at ha2 e2 ⊢
    refine step_val (want_of g3 hi ha2.tb) (x3 _ (eval_get ha2.t3)) ?_
    rw [d3]
    have ha3 := ha2.put q2 m3 k3 c3
    have e3 := ha2.at q2 l3
    have e23 := put_get (v := q2) (fun f => x23 f.symm) e2
    generalize a2.put (some s3) q2 = a3 at ha3 e3 e23 ⊢
    refine step_val (want_of g4 hi ha3.tb) (x4 _ (eval_get e3)) ?_
    rw [d4]
    have ha4 := ha3.put v2 m4 k4 c4
    have e4 := ha3.at v2 l4
    have e24 := put_get (v := v2) (fun f => x24 f.symm) e23
    generalize a3.put (some s4) v2 = a4 at ha4 e4 e24 ⊢
    have fin : ∀ w', R w' → wpList P ops Q (o6 :: o7 :: rest) (a4.put o5.dst (.bool e')) w' := by
      intro w' hRw
      rw [d5]
      exact tail _ _ (.bool e') (ha4.put (.bool e') m5 k5 c5) (ha4.at (.bool e') l5) (fun _ => rfl) hRw
    rcases x5 with ⟨x5, hRw⟩ | ⟨f, x5, hcall⟩
    · exact step_val (want_of g5 hi ha4.tb) (x5 _ (eval_get e24) (eval_get e4)) (fin w hRw)
    · refine step_calls (R := fun v w' => v = .bool e' ∧ R w') (want_of g5 hi ha4.tb) (x5 _ (fun _ => rfl) (eval_get e24) (eval_get e4)) (hcall.mono fun e w' ⟨h1, h2⟩ => ⟨_, h1, rfl, h2⟩) ?_
      rintro v w' ⟨rfl, hRw⟩
      exact fin w' hRw
/-- The first test of a chain. -/
theorem chain_first {n s1 s2 s3 s4 s5 d' : Nat} {pA pB : Value} {e' : Bool} {a : Act} {w : World} {o1 o2 o3 o4 o5 o7 : Oper} {rest : List Oper} {R : World → Prop}
    (hs : a.tmps.size = n) (hdf : a.defers = []) (ha2 : a.tmps[2]? = some pA) (ha3 : a.tmps[3]? = some pB) (hap : apart5 n n s1 s2 s3 s4 s5 d' d' = true)
    (g1 : o1.guard = none) (g2 : o2.guard = none) (g3 : o3.guard = none) (g4 : o4.guard = none) (g5 : o5.guard = none) (g7 : o7.guard = none)
    (d1 : o1.dst = some s1) (d2 : o2.dst = some s2) (d3 : o3.dst = some s3) (d4 : o4.dst = some s4) (d5 : o5.dst = some s5) (d7 : o7.dst = some d')
    (h7 : o7.op = .move (.tmp s5)) (ht : Test5 P pA pB o1 o2 o3 o4 o5 s1 s2 s3 s4 e' w R)
    (h : ∀ a' w', CInv n pA pB a' d' e' → R w' → wpList P ops Q rest a' w') : wpList P ops Q (o1 :: o2 :: o3 :: o4 :: o5 :: o7 :: rest) a w := by
  simp only [apart5, List.all_cons, List.all_nil, Bool.and_true, Bool.and_eq_true, bne_iff_ne, ne_eq, decide_eq_true_eq] at hap
  obtain ⟨⟨⟨⟨⟨⟨l1, m1⟩, k1⟩, ⟨⟨l2, m2⟩, k2⟩, ⟨⟨l3, m3⟩, k3⟩, ⟨⟨l4, m4⟩, k4⟩, ⟨⟨l5, m5⟩, k5⟩, ⟨⟨l6, m6⟩, k6⟩, ⟨l7, m7⟩, k7⟩, c1, c2, c3, c4, c5⟩, x23⟩, x24⟩ := hap
  obtain ⟨q1, v1, q2, v2, x1, x2, x3, x4, x5⟩ := ht
  refine step_val (want_none g1) (x1 _ (eval_get ha2)) ?_
  rw [d1]
  have e1 := put_same (v := q1) (show s1 < a.tmps.size by rw [hs]; exact l1)
  have z1 : (a.put (some s1) q1).tmps.size = n ∧ (a.put (some s1) q1).defers = [] ∧ (a.put (some s1) q1).tmps[2]? = some pA ∧ (a.put (some s1) q1).tmps[3]? = some pB := ⟨by rw [put_size, hs], hdf, put_get m1 ha2, put_get k1 ha3⟩
  generalize a.put (some s1) q1 = a1 at e1 z1 ⊢
  obtain ⟨hs, hdf, ha2, ha3⟩ := z1
  refine step_val (want_none g2) (x2 _ (eval_get e1)) ?_
  rw [d2]
  have e2 := put_same (v := v1) (show s2 < a1.tmps.size by rw [hs]; exact l2)
  have z1 : (a1.put (some s2) v1).tmps.size = n ∧ (a1.put (some s2) v1).defers = [] ∧ (a1.put (some s2) v1).tmps[2]? = some pA ∧ (a1.put (some s2) v1).tmps[3]? = some pB := ⟨by rw [put_size, hs], hdf, put_get m2 ha2, put_get k2 ha3⟩
  generalize a1.put (some s2) v1 = a2 at e2 z1 ⊢
  obtain ⟨hs, hdf, ha2, ha3⟩ := z1
  refine step_val (want_none g3) (x3 _ (eval_get ha3)) ?_
  rw [d3]
  have e3 := put_same (v := q2) (show s3 < a2.tmps.size by rw [hs]; exact l3)
  have e23 := put_get (v := q2) (fun f => x23 f.symm) e2
  have z1 : (a2.put (some s3) q2).tmps.size = n ∧ (a2.put (some s3) q2).defers = [] ∧ (a2.put (some s3) q2).tmps[2]? = some pA ∧ (a2.put (some s3) q2).tmps[3]? = some pB := ⟨by rw [put_size, hs], hdf, put_get m3 ha2, put_get k3 ha3⟩
  generalize a2.put (some s3) q2 = a3 at e3 e23 z1 ⊢
  obtain ⟨hs, hdf, ha2, ha3⟩ := z1
  refine step_val (want_none g4) (x4 _ (eval_get e3)) ?_
  rw [d4]
  have e4 := put_same (v := v2) (show s4 < a3.tmps.size by rw [hs]; exact l4)
  have e24 := put_get (v := v2) (fun f => x24 f.symm) e23
  have z1 : (a3.put (some s4) v2).tmps.size = n ∧ (a3.put (some s4) v2).defers = [] ∧ (a3.put (some s4) v2).tmps[2]? = some pA ∧ (a3.put (some s4) v2).tmps[3]? = some pB := ⟨by rw [put_size, hs], hdf, put_get m4 ha2, put_get k4 ha3⟩
  generalize a3.put (some s4) v2 = a4 at e4 e24 z1 ⊢
  obtain ⟨hs, hdf, ha2, ha3⟩ := z1
  have fin : ∀ w', R w' → wpList P ops Q (o7 :: rest) (a4.put o5.dst (.bool e')) w' := by
    intro w' hRw
    rw [d5]
    have e5 := put_same (v := .bool e') (show s5 < a4.tmps.size by rw [hs]; exact l5)
    refine step_val (v := .bool e') (w' := w') (want_none g7) (by simp only [execOp, h7, eval_get e5, Sem.run_pure]) ?_
    rw [d7]
    exact h _ _ ⟨by rw [put_size, put_size, hs], hdf, put_get m7 (put_get m5 ha2), put_get k7 (put_get k5 ha3), put_same (by rw [put_size, hs]; exact l7)⟩ hRw
  rcases x5 with ⟨x5, hRw⟩ | ⟨f, x5, hcall⟩
  · exact step_val (want_none g5) (x5 _ (eval_get e24) (eval_get e4)) (fin w hRw)
  · refine step_calls (R := fun v w' => v = .bool e' ∧ R w') (want_none g5) (x5 _ (fun _ => rfl) (eval_get e24) (eval_get e4)) (hcall.mono fun e w' ⟨h1, h2⟩ => ⟨_, h1, rfl, h2⟩) ?_
    rintro v w' ⟨rfl, hRw⟩
    exact fin w' hRw
end

section
open Go.ChangeShapes Go.WideShapes Go.ChangeAt Go.RowKit
variable {H : Type} {enc : TypeId × Value → H} {P : Program} {w : World}
theorem open_row_ints {t e : TypeId} {k : IntKind} {fuel : Nat} {A : Option Addr} {len cap : Nat} {x : DataW H × List MemPlace} (ht : P.underlying t = some (.slice e)) (he : P.underlying e = some (.int k)) (hc : P.cellsOf e = 1)
    (h : DataW.trod enc P w 0 (fun _ => true) true fuel t [.slice A len cap] = some x) :
    ∃ zs : List Int, zs.length = len ∧ len ≤ 9223372036854775807 ∧ RowAt (fun _ => True) w A (zs.map fun z => .int k z) ∧ ∀ z ∈ zs, (Lit.int k z).wf = true := by
  rcases open_ints ht he hc h with ⟨hcs, hx⟩ | ⟨a, len', cap', zs, hcs, _, hl, hm, hz, hx, hcell, hwz⟩
  · simp only [List.cons.injEq, Value.slice.injEq, and_true] at hcs
    obtain ⟨rfl, rfl, rfl⟩ := hcs
    exact ⟨[], rfl, by omega, .nil _ _ _, by simp⟩
  · simp only [List.cons.injEq, Value.slice.injEq, and_true] at hcs
    obtain ⟨rfl, rfl, rfl⟩ := hcs
    simp only [if_true] at hz
    unfold maxLen at hm
    refine ⟨zs.take len, by simp; omega, by omega, ?_, fun z hz => hwz z (List.mem_of_mem_take hz)⟩
    by_cases h0 : len = 0
    · subst h0
      simp only [List.take_zero, List.map_nil]
      exact .nil _ _ _
    · obtain ⟨b, o, spot⟩ := a
      have hs : spot = none := by simpa [Addr.add] using World.cell?_spot (hcell 0 (by omega))
      subst hs
      refine .inr ⟨b, o, rfl, trivial, fun j v hj => ?_⟩
      simp only [List.getElem?_map, Option.map_eq_some_iff] at hj
      obtain ⟨z, hz', rfl⟩ := hj
      have hj' := (List.getElem?_eq_some_iff.1 hz').1
      rw [List.length_take] at hj'
      rw [List.getElem?_take_of_lt (by omega)] at hz'
      have h1 := hcell j (by omega)
      rw [add_plain, List.getD, hz'] at h1
      exact h1
end

section
open Go.RowKit
set_option linter.unusedVariables false
section
variable {P : Program}
theorem src_row {S : Nat → Prop} {w : World} {size : Nat} {tx e' : TypeId} (hk : P.underlying tx = some (.slice e')) {A : Option Addr} {m : Nat} (c : Nat) {news : List Value} (hr : RowAt S w A news) (hl : news.length = m * size) (h1 : ∀ u ∈ news, u.oneCell' = true) (hs : 0 < size) : Src P size tx (.slice A m c) m news w := by
  rcases hr with h0 | ⟨b, o, e, _, hc⟩
  · subst h0
    have hm : m = 0 := by
      rcases Nat.mul_eq_zero.1 hl.symm with h | h
      · exact h
      · omega
    subst hm
    cases A with
    | none => exact Src.ofNil w hk c
    | some ad => exact Src.ofSlice w hk ad 0 c [] hl (fun j u hj => by simp at hj) h1
  · subst e
    exact Src.ofSlice w hk _ m c news hl (fun j u hj => by rw [Addr.add_lit]; exact hc j u hj) h1
/-- At a step of a region that draws: an append whose run is known. -/
theorem step_append_run {w : World} {ops : Array Oper} {o : Oper} {a : Act} {K : Act → World → Prop} {Q : Exit → Act → World → Prop} {E : Prop} (hgd : o.guard = none) (s x : Operand) (t tn : TypeId)
    (ho : o.op = .call { callee := .builtin .append, args := #[s, x], argTypes := #[t, tn] }) (vs vx : Value) (hs : a.eval s = vs) (hx : a.eval x = vx)
    (v' : Value) (w' : World) (hr : (Builtin.append_ #[t, tn] o.type #[vs, vx]).run P w = .ok v' w') (h : K (a.put o.dst v') w') :
    if Region.wanted o (yielded ops a.tmps) = true then Oper.wp P o a w K Q else E := by
  have hw : Region.wanted o (yielded ops a.tmps) = true := by simp [Region.wanted, hgd]
  rw [if_pos hw]
  exact Lib.wp_append_run w s x t tn ho vs vx hs hx v' w' hr h
/-- The same, the world compared first (cheaply): so that an arm that does not fit fails at once. -/
theorem step_append_at {w W0 : World} {ops : Array Oper} {o : Oper} {a : Act} {K : Act → World → Prop} {Q : Exit → Act → World → Prop} {E : Prop} (hw : w = W0) (hgd : o.guard = none) (s x : Operand) (t tn : TypeId)
    (ho : o.op = .call { callee := .builtin .append, args := #[s, x], argTypes := #[t, tn] }) (vs vx : Value) (hs : a.eval s = vs) (hx : a.eval x = vx)
    (v' : Value) (w' : World) (hr : (Builtin.append_ #[t, tn] o.type #[vs, vx]).run P W0 = .ok v' w') (h : K (a.put o.dst v') w') :
    if Region.wanted o (yielded ops a.tmps) = true then Oper.wp P o a w K Q else E := by
  subst hw
  exact step_append_run hgd s x t tn ho vs vx hs hx v' w' hr h
end
end

section
open Go.RowKit
set_option linter.unusedVariables false
section
variable {P : Program} {t e : TypeId}
theorem row_part {S : Nat → Prop} {w : World} {A : Option Addr} {cs : List Value} (h : RowAt S w A cs) (k : Nat) : RowAt S w (A.map (·.add k)) (cs.drop k) := by
  rcases h with h | ⟨b, o, e, hs, hc⟩
  · subst h; simp; exact .nil _ _ _
  · subst e
    refine .inr ⟨b, o + k, ?_, hs, fun j v hj => ?_⟩
    · simp [Addr.add_lit]
    · rw [Nat.add_assoc]
      refine hc _ v ?_
      rw [List.getElem?_drop] at hj
      exact hj
/-- xs[i:] -/
theorem slice_tail (t e : TypeId) (k : Nat) (ht : P.underlying t = some (.slice e)) (he : P.elem t = e) (hz : ∀ W, (sizeOf e).run P W = .ok k W) (A : Option Addr) (n c i : Nat) (h1 : i ≤ n) (h2 : n ≤ c) :
    ∃ A', (∀ W, (Instr.slice t (.slice A n c) (some (.int .i64 (i : Int))) none none).run P W = .ok (.slice A' (n - i) (c - i)) W) ∧ ∀ (S : Nat → Prop) (w : World) (cs : List Value), cs.length = n * k → RowAt S w A cs → RowAt S w A' (cs.drop (i * k)) := by
  refine ⟨if c = i then A else A.map (·.add (i * k)), fun W => ?_, fun S w cs hl hr => ?_⟩
  · rw [run_slice_l (P := P) W t A n c (by rw [he]; exact ht) .i64 (i : Int) (by omega) (by omega), he, hz]
    simp only [Result.andThen, sliced, Int.toNat_natCast]
  · by_cases hc : c = i
    · have : cs.drop (i * k) = [] := List.drop_of_length_le (by rw [hl]; exact Nat.mul_le_mul_right k (by omega))
      rw [this]
      exact .nil _ _ _
    · rw [if_neg hc]
      exact row_part hr _
/-- xs[:i:i] -/
theorem slice_full (t e : TypeId) (k : Nat) (ht : P.underlying t = some (.slice e)) (he : P.elem t = e) (hz : ∀ W, (sizeOf e).run P W = .ok k W) (A : Option Addr) (n c i : Nat) (h1 : i ≤ n) (h2 : n ≤ c) :
    ∀ W, (Instr.slice t (.slice A n c) none (some (.int .i64 (i : Int))) (some (.int .i64 (i : Int)))).run P W = .ok (.slice A i i) W := by
  intro W
  rw [run_slice_hm (P := P) W t A n c (by rw [he]; exact ht) .i64 .i64 (i : Int) (i : Int) (by omega) (by omega) (by omega), he, hz]
  simp only [Result.andThen, sliced, Int.toNat_natCast, Nat.zero_mul, Nat.sub_zero]
  congr 2
  by_cases h : i = 0
  · simp [h]
  · rw [if_neg h]
    cases A with
    | none => rfl
    | some a => simp [Addr.add]
end
end

section
open Go.ChangeShapes Go.WideShapes Go.ChangeAt Go.RowKit Go.Deep
set_option linter.unusedVariables false
variable {H : Type} {enc : TypeId × Value → H} {P : Program} {w : World}
/-- A slice of elements, each of which opens to something. -/
theorem open_slice_of {α : Type} [Inhabited α] (f : α → List Value) (k : Nat) (hk : ∀ a, (f a).length = k) (k0 : 0 < k) (Good : α → Prop) {t e : TypeId} (ht : P.underlying t = some (.slice e)) (hc : P.cellsOf e = k)
    (hop : ∀ (n : Nat) (cs : List Value) (y : DataW H × List MemPlace), DataW.trod enc P w 0 (fun _ => true) true n e cs = some y → ∃ a, cs = f a ∧ Good a)
    {fuel : Nat} {A : Option Addr} {len cap : Nat} {x : DataW H × List MemPlace} (h : DataW.trod enc P w 0 (fun _ => true) true fuel t [.slice A len cap] = some x) :
    ∃ l : List α, l.length = len ∧ len ≤ 9223372036854775807 ∧ len ≤ cap ∧ RowAt (fun _ => True) w A (l.flatMap f) ∧ ∀ a ∈ l, Good a := by
  rcases open_slice ht h with ⟨hcs, hx⟩ | ⟨a, len', cap', m, n, D, Pl, hcs, _, hl, hm, hmm, _, hx⟩
  · simp only [List.cons.injEq, Value.slice.injEq, and_true] at hcs
    obtain ⟨rfl, rfl, rfl⟩ := hcs
    exact ⟨[], rfl, by omega, by omega, .nil _ _ _, by simp⟩
  · simp only [List.cons.injEq, Value.slice.injEq, and_true] at hcs
    obtain ⟨rfl, rfl, rfl⟩ := hcs
    simp only [if_true] at hmm
    have hv : ∀ i, i < len → ∃ x : α, Good x ∧ w.cells? 0 (a.add (i * k)) k = some (f x) := by
      intro i hi
      obtain ⟨cs', h1, h2⟩ := hx i (by omega)
      rw [hc] at h1
      obtain ⟨x, rfl, hxo⟩ := hop _ _ _ h2
      exact ⟨x, hxo, h1⟩
    obtain ⟨g, hg⟩ : ∃ g : Nat → α, ∀ i, i < len → Good (g i) ∧ w.cells? 0 (a.add (i * k)) k = some (f (g i)) :=
      ⟨fun i => if h : i < len then (hv i h).choose else default, fun i hi => by simp only [hi, dif_pos]; exact (hv i hi).choose_spec⟩
    refine ⟨(List.range len).map g, by simp, by unfold maxLen at hm; omega, hl, ?_, fun x hx => by
      obtain ⟨i, hi, rfl⟩ := List.mem_map.1 hx
      exact (hg i (by simpa using hi)).1⟩
    by_cases h0 : len = 0
    · subst h0
      exact .nil _ _ _
    · have hcell : ∀ i, i < len → ∀ j, j < k → w.cell? ((a.add (i * k)).add j) = (f (g i))[j]? := by
        intro i hi j hj
        obtain ⟨h1, h2, h3⟩ := World.cells?_some (hg i hi).2
        exact h3 j hj
      obtain ⟨b, o, spot⟩ := a
      have hs : spot = none := by
        have h1 := hcell 0 (by omega) 0 k0
        have h2 : ∃ v, (f (g 0))[0]? = some v := ⟨_, List.getElem?_eq_getElem (by rw [hk]; exact k0)⟩
        obtain ⟨v, hv⟩ := h2
        rw [hv] at h1
        simpa [Addr.add] using World.cell?_spot h1
      subst hs
      refine .inr ⟨b, o, rfl, trivial, fun j v hj => ?_⟩
      have hjl := (List.getElem?_eq_some_iff.1 hj).1
      rw [flat_length f k hk, List.length_map, List.length_range] at hjl
      have hi : j / k < len := (Nat.div_lt_iff_lt_mul k0).2 hjl
      have hr : ((List.range len).map g)[j / k]? = some (g (j / k)) := by simp [hi]
      have hf := flat_at f k hk _ (j / k) (j % k) _ hr (Nat.mod_lt _ k0)
      rw [Nat.div_add_mod' j k] at hf
      have hj' : (f (g (j / k)))[j % k]? = some v := by rw [← hf]; exact hj
      have h1 := hcell (j / k) hi (j % k) (Nat.mod_lt _ k0)
      rw [hj', Addr.add_lit, Addr.add_lit, Nat.add_assoc, Nat.div_add_mod' j k] at h1
      exact h1
end

section
open Go.RowKit Go.MapKept
open Go.ChangeMaps (setBlock)
set_option linter.unusedVariables false
/-- A map's block: its entries. -/
def GMap (P : Program) (k : TypeId) (w : World) (b : Nat) (D : List (Value × Value)) : Prop :=
  ∃ es clock, w.heap[b]? = some (.map es clock) ∧ Stamped es clock ∧ KeysOk P k es ∧ es.toList.map (fun e => (e.key, e.val)) = D
section
variable {P : Program} {t k e : TypeId} {w w' : World} {b : Nat} {D : List (Value × Value)}
theorem GMap.lt (h : GMap P k w b D) : b < w.heap.size := by
  obtain ⟨es, c, hb, _⟩ := h
  exact lt_of_block hb
theorem GMap.mod {F : Nat → Prop} (h : GMap P k w b D) (hm : Mod F w w') (hF : ¬ F b) : GMap P k w' b D := by
  obtain ⟨es, c, hb, r⟩ := h
  exact ⟨es, c, hm.obj hb hF, r⟩
theorem GMap.drew (h : GMap P k w b D) : GMap P k w.drew b D := h
theorem GMap.new (P : Program) (k : TypeId) (w : World) : GMap P k (w.alloc (.map #[] 0)) w.heap.size [] := ⟨#[], 0, at10 w _, stamped_empty 0, (fun x hx => by simp at hx), rfl⟩
theorem GMap.nodup (h : GMap P k w b D) : (D.map (·.1)).Nodup := by
  obtain ⟨es, c, hb, hs, _, rfl⟩ := h
  have := hs.2.2
  simpa [List.map_map, Function.comp_def] using this
theorem gm_at {es : Array MapEntry} {i : Nat} {x v : Value} (h : (es.toList.map (fun e => (e.key, e.val)))[i]? = some (x, v)) : ∃ e0, es[i]? = some e0 ∧ e0.key = x ∧ e0.val = v := by
  rw [List.getElem?_map, Option.map_eq_some_iff] at h
  obtain ⟨e0, h1, h2⟩ := h
  cases h2
  exact ⟨e0, by simpa using h1, rfl, rfl⟩
theorem map_eraseIdx {α β : Type} (f : α → β) : ∀ (l : List α) (i : Nat), (l.eraseIdx i).map f = (l.map f).eraseIdx i
  | [], _ => by simp
  | _ :: _, 0 => by simp
  | a :: l, i + 1 => by simp [List.eraseIdx_cons_succ, map_eraseIdx f l i]
theorem gm_no {es : Array MapEntry} {x : Value} (h : ∀ p ∈ es.toList.map (fun e => (e.key, e.val)), p.1 ≠ x) : ∀ y ∈ es.toList, y.key ≠ x := fun y hy => h (y.key, y.val) (List.mem_map.2 ⟨y, hy, rfl⟩)
theorem GMap.look_hit (h : GMap P k w b D) (K : Maps.Keyed P k) (ht : P.underlying t = some (.map k e)) {i : Nat} {x v : Value} (hi : D[i]? = some (x, v)) (c : Bool) :
    (Instr.lookup t (.map (some b)) x c).run P w = .ok (if c then .tuple #[v, .bool true] else v) w := by
  obtain ⟨es, cl, hb, hs, hk, rfl⟩ := h
  obtain ⟨e0, h1, rfl, rfl⟩ := gm_at hi
  obtain ⟨kl, hkl⟩ := hk e0 (List.mem_of_getElem? (by simpa using h1))
  exact lookup_hit K ht hs hk hkl h1 rfl c w hb
theorem GMap.look_miss (h : GMap P k w b D) (K : Maps.Keyed P k) (ht : P.underlying t = some (.map k e)) {z : Value} (hz : ∀ w, (zeroValue e).run P w = .ok z w) {x : Value} {kl : Lit} (hx : keyOf P k x = some kl) (hn : ∀ p ∈ D, p.1 ≠ x) (c : Bool) :
    (Instr.lookup t (.map (some b)) x c).run P w = .ok (if c then .tuple #[z, .bool false] else z) w := by
  obtain ⟨es, cl, hb, hs, hk, rfl⟩ := h
  exact lookup_miss K ht hz hk hx (gm_no hn) c w hb
theorem setBlock_mod (w : World) (b : Nat) (o : Obj) : Mod (fun j => j = b) w (setBlock w b o) := Mod.setBlock (F := fun j => j = b) (Mod.refl _ _) (.inr rfl) o
theorem GMap.put_hit (h : GMap P k w b D) (K : Maps.Keyed P k) (ht : P.underlying t = some (.map k e)) {i : Nat} {x v : Value} (hi : D[i]? = some (x, v)) (v' : Value) :
    ∃ w', (Instr.mapUpdate t (.map (some b)) x v').run P w = .ok () w' ∧ GMap P k w' b (D.set i (x, v')) ∧ Mod (fun j => j = b) w w' ∧ w'.heap.size = w.heap.size := by
  obtain ⟨es, cl, hb, hs, hk, rfl⟩ := h
  obtain ⟨e0, h1, rfl, rfl⟩ := gm_at hi
  obtain ⟨kl, hkl⟩ := hk e0 (List.mem_of_getElem? (by simpa using h1))
  have hlt := (Array.getElem?_eq_some_iff.1 h1).1
  have hl : (es.modify i (fun y => { y with val := v' })).toList = es.toList.set i { e0 with val := v' } := by
    apply List.ext_getElem?
    intro j
    have h1' : es.toList[i]? = some e0 := by simpa using h1
    simp only [Array.getElem?_toList, Array.getElem?_modify, List.getElem?_set, Array.length_toList]
    by_cases hj : i = j
    · subst hj
      have h2 : es[i] = e0 := (Array.getElem?_eq_some_iff.1 h1).2
      simp [hlt, h2]
    · simp [hj]
  refine ⟨_, mapUpdate_hit K ht hs hk hkl h1 rfl v' w hb, ⟨_, cl, heap_setBlock_self _ (lt_of_block hb), stamped_modify hs i _ (fun _ _ => rfl) (fun _ _ _ => rfl), ?_, ?_⟩, setBlock_mod _ _ _, size_setBlock _⟩
  · intro y hy
    rw [hl] at hy
    rcases List.mem_or_eq_of_mem_set hy with h2 | rfl
    · exact hk y h2
    · exact ⟨kl, hkl⟩
  · rw [hl, List.map_set]
theorem GMap.put_miss (h : GMap P k w b D) (K : Maps.Keyed P k) (ht : P.underlying t = some (.map k e)) {x : Value} {kl : Lit} (hx : keyOf P k x = some kl) (hn : ∀ p ∈ D, p.1 ≠ x) (v : Value) :
    ∃ w', (Instr.mapUpdate t (.map (some b)) x v).run P w = .ok () w' ∧ GMap P k w' b (D ++ [(x, v)]) ∧ Mod (fun j => j = b) w w' ∧ w'.heap.size = w.heap.size := by
  obtain ⟨es, cl, hb, hs, hk, rfl⟩ := h
  refine ⟨_, mapUpdate_miss K ht hk hx (gm_no hn) v w hb, ⟨_, _, heap_setBlock_self _ (lt_of_block hb), stamped_push (val := v) hs (gm_no hn), ?_, by simp⟩, setBlock_mod _ _ _, size_setBlock _⟩
  intro y hy
  simp only [Array.toList_push, List.mem_append, List.mem_singleton] at hy
  rcases hy with h2 | rfl
  · exact hk y h2
  · exact ⟨kl, hx⟩
theorem GMap.del_hit (h : GMap P k w b D) (K : Maps.Keyed P k) (ht : P.underlying t = some (.map k e)) {i : Nat} {x v : Value} (hi : D[i]? = some (x, v)) :
    ∃ w', (∀ ty, (Builtin.delete_ #[t, k] ty #[.map (some b), x]).run P w = .ok (.tuple #[]) w') ∧ GMap P k w' b (D.eraseIdx i) ∧ Mod (fun j => j = b) w w' ∧ w'.heap.size = w.heap.size := by
  obtain ⟨es, cl, hb, hs, hk, rfl⟩ := h
  obtain ⟨e0, h1, rfl, rfl⟩ := gm_at hi
  obtain ⟨kl, hkl⟩ := hk e0 (List.mem_of_getElem? (by simpa using h1))
  have hl : (es.eraseIdxIfInBounds i).toList = es.toList.eraseIdx i := by
    have hlt := (Array.getElem?_eq_some_iff.1 h1).1
    simp [Array.eraseIdxIfInBounds, hlt]
  refine ⟨_, fun ty => delete_hit K ht hs hk hkl h1 rfl w hb, ⟨_, cl, heap_setBlock_self _ (lt_of_block hb), stamped_erase hs i, ?_, ?_⟩, setBlock_mod _ _ _, size_setBlock _⟩
  · intro y hy
    rw [hl] at hy
    exact hk y (List.mem_of_mem_eraseIdx hy)
  · rw [hl]
    exact map_eraseIdx _ _ _
theorem GMap.del_miss (h : GMap P k w b D) (K : Maps.Keyed P k) (ht : P.underlying t = some (.map k e)) {x : Value} {kl : Lit} (hx : keyOf P k x = some kl) (hn : ∀ p ∈ D, p.1 ≠ x) (ty : TypeId) :
    (Builtin.delete_ #[t, k] ty #[.map (some b), x]).run P w = .ok (.tuple #[]) w := by
  obtain ⟨es, cl, hb, hs, hk, rfl⟩ := h
  exact delete_miss K ht hk hx (gm_no hn) w hb
theorem GMap.len (h : GMap P k w b D) (ht : P.underlying t = some (.map k e)) (ty : TypeId) : (Builtin.len_ #[t] ty #[.map (some b)]).run P w = .ok (.int .i64 D.length) w := by
  obtain ⟨es, cl, hb, hs, hk, rfl⟩ := h
  have := len_map (ty := ty) ht es cl w hb
  simpa using this
end
end

section
open Go.RowKit Go.MapKept
open Go.ChangeMaps (setBlock)
set_option linter.unusedVariables false
/-- A range under way: what the map holds, what has come out. -/
def GIter (P : Program) (k : TypeId) (w : World) (b r : Nat) (D vis : List (Value × Value)) : Prop :=
  ∃ es clock since seen c0, ∃ E : List MapEntry, w.heap[b]? = some (.map es clock) ∧ Stamped es clock ∧ KeysOk P k es ∧ es.toList.map (fun e => (e.key, e.val)) = D ∧ w.heap[r]? = some (.mapIter (some b) since seen c0) ∧ since ≤ c0 ∧ since ≤ clock ∧
    (∀ x ∈ es.toList, x.born < since) ∧ E.map (·.born) = seen.toList ∧ (∀ x ∈ E, x ∈ es.toList) ∧ (E.map (·.born)).Nodup ∧ E.map (fun e => (e.key, e.val)) = vis
section
variable {P : Program} {t k e : TypeId} {w w' : World} {b r : Nat} {D vis : List (Value × Value)}
theorem GIter.map (h : GIter P k w b r D vis) : GMap P k w b D := by
  obtain ⟨es, cl, since, seen, c0, E, hb, hs, hk, hD, _⟩ := h
  exact ⟨es, cl, hb, hs, hk, hD⟩
theorem GIter.mod {F : Nat → Prop} (h : GIter P k w b r D vis) (hm : Mod F w w') (hb : ¬ F b) (hr : ¬ F r) : GIter P k w' b r D vis := by
  obtain ⟨es, cl, since, seen, c0, E, h1, h2, h3, h4, h5, rest⟩ := h
  exact ⟨es, cl, since, seen, c0, E, hm.obj h1 hb, h2, h3, h4, hm.obj h5 hr, rest⟩
theorem GIter.start (h : GMap P k w b D) (ht : P.underlying t = some (.map k e)) :
    ∃ w', (Instr.range t (.map (some b))).run P w = .ok (.pointer (some ⟨w.heap.size, 0, none⟩)) w' ∧ GIter P k w' b w.heap.size D [] ∧ Mod (fun _ => False) w w' := by
  obtain ⟨es, cl, hb, hs, hk, rfl⟩ := h
  have hm : Mod (fun _ => False) w (w.alloc (.mapIter (some b) cl #[] cl)) := (Mod.refl _ _).alloc _
  exact ⟨_, run_range_map w t k e b es cl ht hb, ⟨es, cl, cl, #[], cl, [], hm.obj hb id, hs, hk, rfl, at10 w _, Nat.le_refl _, Nat.le_refl _, hs.1, rfl, (fun x hx => by simp at hx), .nil, rfl⟩, hm⟩
theorem entry_of_born : ∀ {l : List MapEntry}, (l.map (·.born)).Nodup → ∀ {x y : MapEntry}, x ∈ l → y ∈ l → x.born = y.born → x = y := by
  intro l hn x y hx hy he
  obtain ⟨i, hi⟩ := List.mem_iff_getElem?.1 hx
  obtain ⟨j, hj⟩ := List.mem_iff_getElem?.1 hy
  have hij : i = j := (List.getElem?_inj (by have := (List.getElem?_eq_some_iff.1 hi).1; simpa using this) hn).1 (by simp [hi, hj, he])
  subst hij
  rw [hi] at hj
  cases hj
  rfl
theorem gi_nodup {l : List MapEntry} (h : (l.map (·.born)).Nodup) : l.Nodup := List.Pairwise.of_map (·.born) (fun a b hab f => hab (by rw [f])) h
theorem nodup_le : ∀ {l m : List Nat}, l.Nodup → (∀ x ∈ l, x ∈ m) → l.length ≤ m.length
  | [], _, _, _ => by simp
  | a :: l, m, hn, hs => by
    rw [List.nodup_cons] at hn
    have h1 := nodup_le (m := m.erase a) hn.2 (fun x hx => (List.mem_erase_of_ne (fun f => hn.1 (by rw [← f]; exact hx))).2 (hs x (List.mem_cons_of_mem _ hx)))
    rw [List.length_erase_of_mem (hs a (by simp))] at h1
    have h2 : 0 < m.length := List.length_pos_of_mem (hs a (by simp))
    simp only [List.length_cons]
    omega
theorem perm_of_born {l m : List MapEntry} (hl : (l.map (·.born)).Nodup) (hm : (m.map (·.born)).Nodup) (h : ∀ x, x ∈ l ↔ x ∈ m) : l.Perm m := by
  have n1 : l.Nodup := gi_nodup hl
  have n2 : m.Nodup := gi_nodup hm
  exact (List.perm_ext_iff_of_nodup n1 n2).2 h
/-- One step: nothing is left, or an entry that has not come out yet. -/
theorem GIter.step (h : GIter P k w b r D vis) (ty : TypeId) :
    (vis.Perm D ∧ (Instr.next (.pointer (some ⟨r, 0, none⟩)) false ty).run P w = .ok (.tuple #[.bool false]) w) ∨
    ∃ x v w', (x, v) ∈ D ∧ (∀ p ∈ vis, p.1 ≠ x) ∧ (Instr.next (.pointer (some ⟨r, 0, none⟩)) false ty).run P w = .ok (.tuple #[.bool true, x, v]) w' ∧ GIter P k w' b r D (vis ++ [(x, v)]) ∧ vis.length < D.length ∧ Mod (fun j => j = r) w w' ∧ w'.heap.size = w.heap.size ∧
      (Instr.entry (.pointer (some ⟨r, 0, none⟩))).run P w' = .ok (.tuple #[x, v]) w' := by
  obtain ⟨es, cl, since, seen, c0, E, hb, hs, hk, rfl, hr, hsc, hsl, hold, hE, hEm, hEn, rfl⟩ := h
  have hne : b ≠ r := by intro f; subst f; rw [hb] at hr; cases hr
  have hsub : ∀ x ∈ es.toList, (seen.contains x.born = true ↔ x ∈ E) := fun x hx => by
    rw [Array.contains_iff_mem, ← Array.mem_toList_iff, ← hE, List.mem_map]
    constructor
    · rintro ⟨y, hy, he⟩
      have := entry_of_born hs.2.1 (hEm y hy) hx he
      rwa [← this]
    · exact fun hx' => ⟨x, hx', rfl⟩
  rcases run_next_at (P := P) w ty r b since c0 seen es cl hr hb hold hsc with ⟨h0, hrun⟩ | ⟨e0, he0, w1, hw1, hrun⟩
  · refine .inl ⟨?_, hrun⟩
    have hall : ∀ x ∈ es.toList, x ∈ E := fun x hx => by
      rw [← hsub x hx]
      have : leftOf es seen = #[] := Array.eq_empty_of_size_eq_zero h0
      unfold leftOf at this
      rw [Array.filter_eq_empty_iff] at this
      have := this x (by simpa using hx)
      simpa using this
    exact (perm_of_born hEn hs.2.1 (fun x => ⟨hEm x, hall x⟩)).map _
  · right
    have hmem : e0 ∈ es.toList ∧ e0 ∉ E := by
      unfold leftOf at he0
      simp only [Array.toList_filter, List.mem_filter] at he0
      refine ⟨he0.1, fun f => ?_⟩
      have h7 := (hsub e0 he0.1).2 f
      rw [h7] at he0
      exact absurd he0.2 (by simp)
    have hm1 : Mod (fun j => j = r) w (setBlock w1 r (.mapIter (some b) since (seen.push e0.born) cl)) := by
      rcases hw1 with rfl | rfl
      · exact setBlock_mod _ _ _
      · exact (Mod.drew (Mod.refl (fun j => j = r) w)).trans (setBlock_mod _ _ _)
    have hsz : (setBlock w1 r (.mapIter (some b) since (seen.push e0.born) cl)).heap.size = w.heap.size := by
      rw [size_setBlock]
      rcases hw1 with rfl | rfl <;> rfl
    have hrb : (setBlock w1 r (.mapIter (some b) since (seen.push e0.born) cl)).heap[r]? = some (.mapIter (some b) since (seen.push e0.born) cl) := heap_setBlock_self _ (by have := lt_of_block hr; rcases hw1 with rfl | rfl <;> exact this)
    have hbb := hm1.obj hb hne
    refine ⟨e0.key, e0.val, _, List.mem_map.2 ⟨e0, hmem.1, rfl⟩, ?_, hrun, ⟨es, cl, since, seen.push e0.born, cl, E ++ [e0], hbb, hs, hk, rfl, hrb, hsl, hsl, hold, by simp [hE], ?_, ?_, by simp⟩, ?_, hm1, hsz, ?_⟩
    · intro p hp f
      obtain ⟨y, hy, rfl⟩ := List.mem_map.1 hp
      have hyy := hEm y hy
      have : y = e0 := by
        obtain ⟨i, hi⟩ := List.mem_iff_getElem?.1 hyy
        obtain ⟨j, hj⟩ := List.mem_iff_getElem?.1 hmem.1
        have hij : i = j := (List.getElem?_inj (by have := (List.getElem?_eq_some_iff.1 hi).1; simpa using this) hs.2.2).1 (by simp only [List.getElem?_map, hi, hj, Option.map_some]; exact congrArg some f)
        subst hij
        rw [hi] at hj
        cases hj
        rfl
      exact hmem.2 (this ▸ hy)
    · intro y hy
      rcases List.mem_append.1 hy with h1 | h1
      · exact hEm y h1
      · simp at h1; subst h1; exact hmem.1
    · rw [List.map_append, List.nodup_append]
      refine ⟨hEn, by simp, ?_⟩
      intro a ha c hc
      simp at hc
      subst hc
      intro f
      obtain ⟨y, hy, he⟩ := List.mem_map.1 ha
      have := entry_of_born hs.2.1 (hEm y hy) hmem.1 (he.trans f)
      exact hmem.2 (this ▸ hy)
    · rw [List.length_map, List.length_map]
      have h9 := nodup_le (l := (e0 :: E).map (·.born)) (m := es.toList.map (·.born)) (List.nodup_cons.2 ⟨fun f => by
        obtain ⟨y, hy, he⟩ := List.mem_map.1 f
        exact hmem.2 (entry_of_born hs.2.1 (hEm y hy) hmem.1 he ▸ hy), hEn⟩) (fun x hx => by
        obtain ⟨y, hy, he⟩ := List.mem_map.1 hx
        refine List.mem_map.2 ⟨y, ?_, he⟩
        rcases List.mem_cons.1 hy with h8 | h8
        · exact h8 ▸ hmem.1
        · exact hEm y h8)
      simp only [List.length_map, List.length_cons] at h9
      omega
    · exact run_entry_at _ r b since seen es cl e0 hrb hbb hmem.1 hs.2.1
end
end

section
open Go.ChangeShapes Go.WideShapes Go.ChangeAt Go.RowKit
theorem Mod.toBelow {w w' : World} (h : Mod No w w') : Below w.heap.size w w' :=
  ⟨h.os, h.tape, h.output, h.size, fun k hk => h.block k hk (fun f => f.elim)⟩
variable {H : Type} {enc : TypeId × Value → H} {P : Program}
theorem post_of_mod {f : Func} {s : ChangeSpec} {apart fresh handsOn again : Bool} {W W' : World} {args : Array Value} {v : Value} {ds gs : List (DataW H)} {before pa pv : List MemPlace}
    (hW : DataW.Whole enc P f.params.toList s.vars apart W args.toList ds gs before)
    (hres : ∀ (b : Nat) (sp : Nat → Bool) (hd : Bool), DataW.TrodAll enc P W' b sp hd f.resultTypes.toList (v.resultList f.resultTypes.size) (s.fn H (ds ++ gs)).results [])
    (hargs : ∀ sp : Nat → Bool, (∀ p ∈ before, sp p.block = true) → DataW.TrodAll enc P W' 0 sp true f.params.toList args.toList (s.fn H (ds ++ gs)).args pa)
    (hvars : ∀ sp : Nat → Bool, (∀ p ∈ before, sp p.block = true) → DataW.TrodVars enc P W' sp s.vars (s.fn H (ds ++ gs)).vars pv)
    (hps : before = pa ++ pv) (hm : Mod No W W')
    (hok : ∀ (j : Nat) (t : TypeId) (r : Value), f.resultTypes[j]? = some t → (v.resultList f.resultTypes.size)[j]? = some r → Value.okWide P W' .any 0 t r) :
    s.post enc P f apart fresh handsOn again W args v W' := by
  have hold : ∀ p ∈ before, (fun b => decide (b < W.heap.size)) p.block = true := fun p hp => by simpa using hW.lt p hp
  have hlt := hW.lt
  refine ⟨ds, gs, before, [], pa, pv, hW, hres _ _ _, hargs _ hold, hvars _ hold, World.keptBut_mono (fun p hp => ⟨hp, ?_⟩) (hm.toBelow.frame _), fun _ => ?_⟩
  · rw [hps, List.mem_append] at hp
    exact Or.inr hp
  · obtain ⟨_, _, _, _, _, hz, hn⟩ := hW
    refine ⟨hok, _, _, ([] ++ pa) ++ pv, ⟨[] ++ pa, pv, trodAll_append (hargs _ (fun _ _ => rfl)) (hres _ _ _), hvars _ (fun _ _ => rfl), rfl, ?_, ?_⟩, ?_⟩
    · intro b off hp
      have hp' : MemPlace.cell b off ∈ before := by rw [hps]; simpa using hp
      rw [hm.toBelow.frozen (by have := hlt _ hp'; simpa [MemPlace.block] using this)]
      exact hz b off hp'
    · intro ha
      have := hn ha
      rw [hps] at this
      simpa using this
    · intro p hp _
      rw [hps]
      simpa using hp
/-- What reads in the old world reads alike behind a call that turned nothing of it. -/
theorem trodAll_mod {W W' : World} (hm : Mod No W W') {base : Nat} {sp : Nat → Bool} {held : Bool} : ∀ {ts : List TypeId} {vs : List Value} {ds : List (DataW H)} {ps : List MemPlace},
    DataW.TrodAll enc P W base sp held ts vs ds ps → DataW.TrodAll enc P W' base sp held ts vs ds ps
  | [], [], [], _, h => h
  | _ :: _, _ :: _, _ :: _, _, ⟨p, q, ⟨n, h⟩, hs, e⟩ => ⟨p, q, ⟨n, DataW.trod_carry n _ _ _ h (fun z hz => hm.toBelow.same (DataW.TrodAll.lt (ts := [_]) (vs := [_]) (ds := [_]) (ps := p) ⟨p, [], ⟨n, h⟩, rfl, by simp⟩ z hz))⟩, trodAll_mod hm hs, e⟩
theorem Try.kids : Kids Try.prog (· < Try.prog.types.size) := kids_rows (by kernel_rfl) (by kernel_rfl)
theorem Try.full : ∀ t e, t < Try.prog.types.size → Try.prog.underlying t = some (.slice e) → 0 < Try.prog.cellsOf e := slices_full_of Try.prog (by kernel_rfl)
set_option maxRecDepth 100000 in
/-- A LAW's END, whatever its arguments: it returned true, and nothing that was there has turned. -/
theorem law_post {f : Func} {s : ChangeSpec} {apart fresh handsOn again : Bool} {W W' : World} {args : Array Value} {ds gs : List (DataW H)} {before : List MemPlace}
    (hW : DataW.Whole enc Try.prog f.params.toList s.vars apart W args.toList ds gs before) (hv : s.vars = [])
    (hts : ∀ t ∈ f.params.toList, t < Try.prog.types.size) (hrt : f.resultTypes = #[4])
    (hfn : s.fn H ds = { results := [.lit (.bool true)], args := ds }) (hm : Mod No W W') :
    s.post enc Try.prog f apart fresh handsOn again W args (.bool true) W' := by
  have hW' := hW
  obtain ⟨p, q, hA, hV, rfl, hfz, hnd⟩ := hW
  rw [hv] at hV
  obtain ⟨rfl, rfl⟩ := trodVars_none hV
  have hfn' : s.fn H (ds ++ []) = { results := [.lit (.bool true)], args := ds } := by rw [List.append_nil]; exact hfn
  refine post_of_mod (pa := p) (pv := []) hW' ?_ ?_ ?_ rfl hm ?_
  · intro b sp hd
    rw [hfn', hrt]
    exact trodAll_cons_mk (shut_bool Try.underlying4 _) trodAll_mk0
  · intro sp hsp
    rw [hfn']
    exact DataW.TrodAll.respare Try.kids Try.full hts (trodAll_mod hm hA) (fun x hx => hsp x (by simpa using hx))
  · intro sp hsp
    rw [hfn', hv]
    rfl
  · intro j t r h1 h2
    rw [hrt] at h1 h2
    obtain rfl : j = 0 := by have := (Array.getElem?_eq_some_iff.1 h1).1; simpa using this
    obtain rfl : 4 = t := by simpa using h1
    obtain rfl : Value.bool true = r := by simpa [Value.resultList] using h2
    exact okWide_bool_mk (t := 4) Try.underlying4 true
end

section
open Go.RowKit
set_option linter.unusedVariables false
structure M6 where
  (b0 b1 b2 b3 b4 b5 : UInt8)
  deriving DecidableEq, Inhabited
structure K8 where
  (b0 b1 b2 b3 b4 b5 b6 b7 : UInt8)
  deriving DecidableEq, Inhabited
structure Pr where
  (a b : Nat)
  deriving DecidableEq, Inhabited
structure Ten where
  name : List UInt8
  vni : Nat
  key : K8
  vtep : Nat
  vmac : M6
  host : M6
  pool : List Nat
  lo : Nat
  hi : Nat
  filter : Int
  statics : List Pr
  twices : List Pr
  sess : Int
  queue : Int
  rate : Nat
  burst : Nat
  deriving DecidableEq, Inhabited
def M6.l (m : M6) : List UInt8 := [m.b0, m.b1, m.b2, m.b3, m.b4, m.b5]
def K8.l (m : K8) : List UInt8 := [m.b0, m.b1, m.b2, m.b3, m.b4, m.b5, m.b6, m.b7]
def u8v (b : UInt8) : Value := .int .u8 (b.toNat : Int)
def numCells (l : List Nat) : List Value := l.map fun (n : Nat) => Value.int .u32 (n : Int)
def Pr.cells (p : Pr) : List Value := [.int .u32 (p.a : Int), .int .u32 (p.b : Int)]
def prCells (l : List Pr) : List Value := l.flatMap Pr.cells
theorem Pr.cells_length (p : Pr) : p.cells.length = 2 := rfl
theorem prCells_length (l : List Pr) : (prCells l).length = l.length * 2 := flat_length Pr.cells 2 Pr.cells_length l
theorem numCells_length (l : List Nat) : (numCells l).length = l.length := by simp [numCells]
/-- A tenant's cells, its three lists' values beside. -/
def Ten.cells (t : Ten) (vp vs vt : Value) : Array Value :=
  #[.string (str t.name), .int .u32 (t.vni : Int), .int .u8 (t.key.b0.toNat : Int), .int .u8 (t.key.b1.toNat : Int), .int .u8 (t.key.b2.toNat : Int), .int .u8 (t.key.b3.toNat : Int), .int .u8 (t.key.b4.toNat : Int), .int .u8 (t.key.b5.toNat : Int), .int .u8 (t.key.b6.toNat : Int), .int .u8 (t.key.b7.toNat : Int),
    .int .u32 (t.vtep : Int), .int .u8 (t.vmac.b0.toNat : Int), .int .u8 (t.vmac.b1.toNat : Int), .int .u8 (t.vmac.b2.toNat : Int), .int .u8 (t.vmac.b3.toNat : Int), .int .u8 (t.vmac.b4.toNat : Int), .int .u8 (t.vmac.b5.toNat : Int),
    .int .u8 (t.host.b0.toNat : Int), .int .u8 (t.host.b1.toNat : Int), .int .u8 (t.host.b2.toNat : Int), .int .u8 (t.host.b3.toNat : Int), .int .u8 (t.host.b4.toNat : Int), .int .u8 (t.host.b5.toNat : Int),
    vp, .int .u16 (t.lo : Int), .int .u16 (t.hi : Int), .int .i64 t.filter, vs, vt, .int .i64 t.sess, .int .i64 t.queue, .int .u32 (t.rate : Int), .int .u32 (t.burst : Int)]
def M6.zero : M6 := ⟨0, 0, 0, 0, 0, 0⟩
def K8.zero : K8 := ⟨0, 0, 0, 0, 0, 0, 0, 0⟩
def Ten.zero : Ten := ⟨[], 0, .zero, 0, .zero, .zero, [], 0, 0, 0, [], [], 0, 0, 0, 0⟩
/-- A value that is a tenant: its lists are rows in S. -/
structure TenV (S : Nat → Prop) (w : World) (t : Ten) (v : Value) : Prop where
  val : ∃ P p Q q R r, v = .agg (t.cells (.slice P t.pool.length p) (.slice Q t.statics.length q) (.slice R t.twices.length r)) ∧ RowAt S w P (numCells t.pool) ∧ RowAt S w Q (prCells t.statics) ∧ RowAt S w R (prCells t.twices)
theorem TenV.keeps {S : Nat → Prop} {w w' : World} {t : Ten} {v : Value} (h : TenV S w t v) (hk : Keeps S w w') : TenV S w' t v := by
  obtain ⟨P, p, Q, q, R, r, e, h1, h2, h3⟩ := h.val
  exact ⟨P, p, Q, q, R, r, e, h1.keeps hk, h2.keeps hk, h3.keeps hk⟩
theorem TenV.mono {S S' : Nat → Prop} {w : World} {t : Ten} {v : Value} (h : TenV S w t v) (hs : ∀ b, b < w.heap.size → S b → S' b) : TenV S' w t v := by
  obtain ⟨P, p, Q, q, R, r, e, h1, h2, h3⟩ := h.val
  exact ⟨P, p, Q, q, R, r, e, h1.mono hs, h2.mono hs, h3.mono hs⟩
theorem list_eq_of_get {α : Type} {l m : List α} (hl : l.length = m.length) (h : ∀ j, j < l.length → l[j]? = m[j]?) : l = m := by
  apply List.ext_getElem?
  intro i
  by_cases hi : i < l.length
  · exact h i hi
  · rw [List.getElem?_eq_none (by omega), List.getElem?_eq_none (by omega)]
theorem nums_at {S : Nat → Prop} {w : World} {A : Option Addr} {l : List Nat} (h : RowAt S w A (numCells l)) {i : Nat} {p : Nat} (hi : l[i]? = some p) :
    ∃ b o, A = some ⟨b, o, none⟩ ∧ S b ∧ b < w.heap.size ∧ w.cell? ⟨b, o + i, none⟩ = some (.int .u32 (p : Int)) := by
  have hc : (numCells l)[i]? = some (.int .u32 (p : Int)) := by simp [numCells, hi]
  obtain ⟨b, o, e, hs, hlt, hcc⟩ := h.open (by intro e; rw [e] at hc; simp at hc)
  exact ⟨b, o, e, hs, hlt, hcc i _ hc⟩
theorem prs_at {S : Nat → Prop} {w : World} {A : Option Addr} {l : List Pr} (h : RowAt S w A (prCells l)) {i : Nat} {p : Pr} (hi : l[i]? = some p) :
    ∃ b o, A = some ⟨b, o, none⟩ ∧ S b ∧ b < w.heap.size ∧ w.cell? ⟨b, o + i * 2, none⟩ = some (.int .u32 (p.a : Int)) ∧ w.cell? ⟨b, o + i * 2 + 1, none⟩ = some (.int .u32 (p.b : Int)) := by
  obtain ⟨b, o, e, hs, hlt, hc⟩ := h.elem Pr.cells 2 Pr.cells_length (by omega) hi
  exact ⟨b, o, e, hs, hlt, hc 0 _ rfl, hc 1 _ rfl⟩
theorem stPair : Try.prog.stoodInHeld 68 = false := by kernel_rfl
attribute [local go_sem] stPair
theorem gtPair : Try.prog.eqGuardType Try.prog.depth 68 = false := by kernel_rfl
attribute [local go_sem] gtPair
theorem neqPair (a b c d : Int) (w : World) : (binOp .neq 68 (.agg #[.int .u32 a, .int .u32 b]) (.agg #[.int .u32 c, .int .u32 d])).run Try.prog w = .ok (.bool (!(a == c && b == d))) w := by
  go_simp
  by_cases h1 : a = c <;> by_cases h2 : b = d <;> simp [h1, h2]
attribute [local go_sem high] neqPair
theorem pr_beq (p q : Pr) : ((p.a : Int) == q.a && (p.b : Int) == q.b) = decide (p = q) := by
  obtain ⟨a, b⟩ := p
  obtain ⟨c, d⟩ := q
  by_cases h1 : a = c <;> by_cases h2 : b = d <;> simp [h1, h2] <;> omega
theorem nat_beq (p q : Nat) : ((p : Int) == q) = decide (p = q) := by
  by_cases h : p = q
  · subst h; simp
  · have h' : ¬ (p : Int) = q := by omega
    simp [h, h']
theorem nums_lens (A B : Option Addr) (n m c d : Nat) (w : World) (h : n ≠ m) :
    Calls Try.prog 26 #[.slice A n c, .slice B m d] w fun e w' => e = .returned (.bool false) ∧ ∃ n, w' = w.drewN n := by
  have hl : ((n : Int) != m) = true := by rw [bne_iff_ne]; omega
  go_enter Try.func26, Try.ntmps26
  go_wp2
  go_ret
  exact ⟨rfl, 0, rfl⟩
set_option maxRecDepth 100000 in
theorem nums_same {S S' : Nat → Prop} (A B : Option Addr) (c d : Nat) (xs ys : List Nat) (w : World) (hx : RowAt S w A (numCells xs)) (hy : RowAt S' w B (numCells ys)) (bx : xs.length ≤ 9223372036854775807) (m : Nat) (hm : m = ys.length) (hxy : xs.length = m) :
    Calls Try.prog 26 #[.slice A m c, .slice B m d] w fun e w' => e = .returned (.bool (decide (xs = ys))) ∧ ∃ n, w' = w.drewN n := by
  have hl : ((m : Int) != m) = false := by simp
  have bm : m ≤ 9223372036854775807 := by omega
  have HM := Lib.hid hm
  have HX := Lib.hid hxy
  clear hm hxy
  go_enter Try.func26, Try.ntmps26
  go_wp2
  go_loopw [5] (fun i wr => ∃ k : Nat, i = .int .i64 k ∧ k ≤ m ∧ (∀ j, j < k → xs[j]? = ys[j]?) ∧ ∃ n, wr = w.drewN n) (fun i _ => m - (intOf i).toNat)
  case atStart => exact ⟨0, rfl, by omega, by omega, 0, rfl⟩
  case round =>
    obtain ⟨k, rfl, hk, hpre, n, rfl⟩ := hrel
    have HP := Lib.hid hpre
    clear hpre
    by_cases hlt : k < m
    · have hkx : k < xs.length := by have := HX.out; omega
      have hky : k < ys.length := by have := HM.out; omega
      obtain ⟨p, hp⟩ : ∃ p, xs[k]? = some p := ⟨_, List.getElem?_eq_getElem hkx⟩
      obtain ⟨q, hq⟩ : ∃ q, ys[k]? = some q := ⟨_, List.getElem?_eq_getElem hky⟩
      obtain ⟨b, o, rfl, _, _, hx0⟩ := nums_at hx hp
      obtain ⟨b', o', rfl, _, _, hy0⟩ := nums_at hy hq
      have HPQ := Lib.hid (And.intro hp hq)
      clear hp hq hx hy
      have p1 : (0:Int) ≤ k := by omega
      have p2 : (k:Int) < m := by omega
      have hpq := nat_beq p q
      by_cases hd : p = q
      · have hb : ((p : Int) == q) = true := by rw [hpq]; simpa using hd
        have hb' : (!((p : Int) == q)) = false := by rw [hb]; rfl
        have hb2 : ((p : Int) != q) = false := by subst hd; simp
        have HD := Lib.hid hd
        clear hpq hd
        go_wp2
        go_quiet (fail)
        go_wp2
        all_goals first
          | (exfalso; have e := HD.out; subst e; simp_all; done)
          | (refine ⟨⟨k + 1, by go_num, by omega, ?_, _, by first | rfl | exact World.drewN_drewN ..⟩, by simp [intOf]; omega⟩
             intro j hj
             rcases Nat.lt_or_ge j k with h | h
             · exact HP.out j h
             · obtain rfl : j = k := by omega
               rw [HPQ.out.1, HPQ.out.2, HD.out])
      · have hb : ((p : Int) == q) = false := by rw [hpq]; simpa using hd
        have hb2 : ((p : Int) != q) = true := by rw [bne_iff_ne]; omega
        have HD := Lib.hid hd
        clear hpq hd
        go_wp2
        go_quiet (fail)
        go_wp2
        all_goals first
          | (exfalso; simp_all; done)
          | (go_ret
             refine ⟨?_, _, by first | rfl | exact World.drewN_drewN ..⟩
             have : ¬ xs = ys := by
               intro e
               have h1 := HPQ.out.1
               rw [e, HPQ.out.2] at h1
               exact HD.out (Option.some.inj h1).symm
             simp [this])
    · have hk' : k = m := by omega
      subst hk'
      have : xs = ys := list_eq_of_get (by rw [HX.out, HM.out]) (fun j hj => HP.out j (by have := HX.out; omega))
      have H := Lib.hid this
      clear this
      go_wp2
      go_ret
      exact ⟨by simp [H.out], n, rfl⟩
theorem nums_ok {S S' : Nat → Prop} (A B : Option Addr) (c d : Nat) (xs ys : List Nat) (w : World) (hx : RowAt S w A (numCells xs)) (hy : RowAt S' w B (numCells ys)) (bx : xs.length ≤ 9223372036854775807) :
    Calls Try.prog 26 #[.slice A xs.length c, .slice B ys.length d] w fun e w' => e = .returned (.bool (decide (xs = ys))) ∧ ∃ n, w' = w.drewN n := by
  by_cases h : xs.length = ys.length
  · have := nums_same A B c d xs ys w hx hy bx ys.length rfl h
    rw [h]
    exact this
  · have hne : ¬ xs = ys := fun e => h (by rw [e])
    simp only [hne, decide_false]
    exact nums_lens A B _ _ c d w h
theorem equalU_lens (A B : Option Addr) (n m c d : Nat) (w : World) (h : n ≠ m) :
    Calls Try.prog 42 #[.slice A n c, .slice B m d] w fun e w' => e = .returned (.bool false) ∧ ∃ n, w' = w.drewN n := by
  have hl : ((n : Int) != m) = true := by rw [bne_iff_ne]; omega
  go_enter Try.func42, Try.ntmps42
  go_wp2
  go_ret
  exact ⟨rfl, 0, rfl⟩
set_option maxRecDepth 100000 in
theorem equalU_same {S S' : Nat → Prop} (A B : Option Addr) (c d : Nat) (xs ys : List Nat) (w : World) (hx : RowAt S w A (numCells xs)) (hy : RowAt S' w B (numCells ys)) (bx : xs.length ≤ 9223372036854775807) (m : Nat) (hm : m = ys.length) (hxy : xs.length = m) :
    Calls Try.prog 42 #[.slice A m c, .slice B m d] w fun e w' => e = .returned (.bool (decide (xs = ys))) ∧ ∃ n, w' = w.drewN n := by
  have hl : ((m : Int) != m) = false := by simp
  have bm : m ≤ 9223372036854775807 := by omega
  have HM := Lib.hid hm
  have HX := Lib.hid hxy
  clear hm hxy
  go_enter Try.func42, Try.ntmps42
  go_wp2
  go_loopw [13] (fun i wr => ∃ k : Nat, i = .int .i64 k ∧ k ≤ m ∧ (∀ j, j < k → xs[j]? = ys[j]?) ∧ ∃ n, wr = w.drewN n) (fun i _ => m - (intOf i).toNat)
  case atStart => exact ⟨0, rfl, by omega, by omega, 0, rfl⟩
  case round =>
    obtain ⟨k, rfl, hk, hpre, n, rfl⟩ := hrel
    have HP := Lib.hid hpre
    clear hpre
    by_cases hlt : k < m
    · have hkx : k < xs.length := by have := HX.out; omega
      have hky : k < ys.length := by have := HM.out; omega
      obtain ⟨p, hp⟩ : ∃ p, xs[k]? = some p := ⟨_, List.getElem?_eq_getElem hkx⟩
      obtain ⟨q, hq⟩ : ∃ q, ys[k]? = some q := ⟨_, List.getElem?_eq_getElem hky⟩
      obtain ⟨b, o, rfl, _, _, hx0⟩ := nums_at hx hp
      obtain ⟨b', o', rfl, _, _, hy0⟩ := nums_at hy hq
      have HPQ := Lib.hid (And.intro hp hq)
      clear hp hq hx hy
      have p1 : (0:Int) ≤ k := by omega
      have p2 : (k:Int) < m := by omega
      have hpq := nat_beq p q
      by_cases hd : p = q
      · have hb : ((p : Int) == q) = true := by rw [hpq]; simpa using hd
        have hb' : (!((p : Int) == q)) = false := by rw [hb]; rfl
        have hb2 : ((p : Int) != q) = false := by subst hd; simp
        have HD := Lib.hid hd
        clear hpq hd
        go_wp2
        go_quiet (fail)
        go_wp2
        all_goals first
          | (exfalso; have e := HD.out; subst e; simp_all; done)
          | (refine ⟨⟨k + 1, by go_num, by omega, ?_, _, by first | rfl | exact World.drewN_drewN ..⟩, by simp [intOf]; omega⟩
             intro j hj
             rcases Nat.lt_or_ge j k with h | h
             · exact HP.out j h
             · obtain rfl : j = k := by omega
               rw [HPQ.out.1, HPQ.out.2, HD.out])
      · have hb : ((p : Int) == q) = false := by rw [hpq]; simpa using hd
        have hb2 : ((p : Int) != q) = true := by rw [bne_iff_ne]; omega
        have HD := Lib.hid hd
        clear hpq hd
        go_wp2
        go_quiet (fail)
        go_wp2
        all_goals first
          | (exfalso; simp_all; done)
          | (go_ret
             refine ⟨?_, _, by first | rfl | exact World.drewN_drewN ..⟩
             have : ¬ xs = ys := by
               intro e
               have h1 := HPQ.out.1
               rw [e, HPQ.out.2] at h1
               exact HD.out (Option.some.inj h1).symm
             simp [this])
    · have hk' : k = m := by omega
      subst hk'
      have : xs = ys := list_eq_of_get (by rw [HX.out, HM.out]) (fun j hj => HP.out j (by have := HX.out; omega))
      have H := Lib.hid this
      clear this
      go_wp2
      go_ret
      exact ⟨by simp [H.out], n, rfl⟩
theorem equalU_ok {S S' : Nat → Prop} (A B : Option Addr) (c d : Nat) (xs ys : List Nat) (w : World) (hx : RowAt S w A (numCells xs)) (hy : RowAt S' w B (numCells ys)) (bx : xs.length ≤ 9223372036854775807) :
    Calls Try.prog 42 #[.slice A xs.length c, .slice B ys.length d] w fun e w' => e = .returned (.bool (decide (xs = ys))) ∧ ∃ n, w' = w.drewN n := by
  by_cases h : xs.length = ys.length
  · have := equalU_same A B c d xs ys w hx hy bx ys.length rfl h
    rw [h]
    exact this
  · have hne : ¬ xs = ys := fun e => h (by rw [e])
    simp only [hne, decide_false]
    exact equalU_lens A B _ _ c d w h
theorem pairs_lens (A B : Option Addr) (n m c d : Nat) (w : World) (h : n ≠ m) :
    Calls Try.prog 27 #[.slice A n c, .slice B m d] w fun e w' => e = .returned (.bool false) ∧ ∃ n, w' = w.drewN n := by
  have hl : ((n : Int) != m) = true := by rw [bne_iff_ne]; omega
  go_enter Try.func27, Try.ntmps27
  go_wp2
  go_ret
  exact ⟨rfl, 0, rfl⟩
set_option maxRecDepth 100000 in
theorem pairs_same {S S' : Nat → Prop} (A B : Option Addr) (c d : Nat) (xs ys : List Pr) (w : World) (hx : RowAt S w A (prCells xs)) (hy : RowAt S' w B (prCells ys)) (bx : xs.length ≤ 9223372036854775807) (m : Nat) (hm : m = ys.length) (hxy : xs.length = m) :
    Calls Try.prog 27 #[.slice A m c, .slice B m d] w fun e w' => e = .returned (.bool (decide (xs = ys))) ∧ ∃ n, w' = w.drewN n := by
  have hl : ((m : Int) != m) = false := by simp
  have bm : m ≤ 9223372036854775807 := by omega
  have HM := Lib.hid hm
  have HX := Lib.hid hxy
  clear hm hxy
  go_enter Try.func27, Try.ntmps27
  go_wp2
  go_loopw [5] (fun i wr => ∃ k : Nat, i = .int .i64 k ∧ k ≤ m ∧ (∀ j, j < k → xs[j]? = ys[j]?) ∧ ∃ n, wr = w.drewN n) (fun i _ => m - (intOf i).toNat)
  case atStart => exact ⟨0, rfl, by omega, by omega, 0, rfl⟩
  case round =>
    obtain ⟨k, rfl, hk, hpre, n, rfl⟩ := hrel
    have HP := Lib.hid hpre
    clear hpre
    by_cases hlt : k < m
    · have hkx : k < xs.length := by have := HX.out; omega
      have hky : k < ys.length := by have := HM.out; omega
      obtain ⟨p, hp⟩ : ∃ p, xs[k]? = some p := ⟨_, List.getElem?_eq_getElem hkx⟩
      obtain ⟨q, hq⟩ : ∃ q, ys[k]? = some q := ⟨_, List.getElem?_eq_getElem hky⟩
      obtain ⟨b, o, rfl, _, _, hx0, hx1⟩ := prs_at hx hp
      obtain ⟨b', o', rfl, _, _, hy0, hy1⟩ := prs_at hy hq
      have HPQ := Lib.hid (And.intro hp hq)
      clear hp hq hx hy
      have p1 : (0:Int) ≤ k := by omega
      have p2 : (k:Int) < m := by omega
      have hpq := pr_beq p q
      by_cases hd : p = q
      · have hb : ((p.a : Int) == q.a && (p.b : Int) == q.b) = true := by rw [hpq]; simpa using hd
        have hb' : (!((p.a : Int) == q.a && (p.b : Int) == q.b)) = false := by rw [hb]; rfl
        have hb2 : (!((p.a : Int) == q.a && (p.b : Int) == q.b)) = false := by rw [hb]; rfl
        have HD := Lib.hid hd
        clear hpq hd
        go_wp2
        go_quiet (fail)
        go_wp2
        all_goals first
          | (exfalso; have e := HD.out; subst e; simp_all; done)
          | (refine ⟨⟨k + 1, by go_num, by omega, ?_, _, by first | rfl | exact World.drewN_drewN ..⟩, by simp [intOf]; omega⟩
             intro j hj
             rcases Nat.lt_or_ge j k with h | h
             · exact HP.out j h
             · obtain rfl : j = k := by omega
               rw [HPQ.out.1, HPQ.out.2, HD.out])
      · have hb : ((p.a : Int) == q.a && (p.b : Int) == q.b) = false := by rw [hpq]; simpa using hd
        have hb2 : (!((p.a : Int) == q.a && (p.b : Int) == q.b)) = true := by rw [hb]; rfl
        have HD := Lib.hid hd
        clear hpq hd
        go_wp2
        go_quiet (fail)
        go_wp2
        all_goals first
          | (exfalso; simp_all; done)
          | (go_ret
             refine ⟨?_, _, by first | rfl | exact World.drewN_drewN ..⟩
             have : ¬ xs = ys := by
               intro e
               have h1 := HPQ.out.1
               rw [e, HPQ.out.2] at h1
               exact HD.out (Option.some.inj h1).symm
             simp [this])
    · have hk' : k = m := by omega
      subst hk'
      have : xs = ys := list_eq_of_get (by rw [HX.out, HM.out]) (fun j hj => HP.out j (by have := HX.out; omega))
      have H := Lib.hid this
      clear this
      go_wp2
      go_ret
      exact ⟨by simp [H.out], n, rfl⟩
theorem pairs_ok {S S' : Nat → Prop} (A B : Option Addr) (c d : Nat) (xs ys : List Pr) (w : World) (hx : RowAt S w A (prCells xs)) (hy : RowAt S' w B (prCells ys)) (bx : xs.length ≤ 9223372036854775807) :
    Calls Try.prog 27 #[.slice A xs.length c, .slice B ys.length d] w fun e w' => e = .returned (.bool (decide (xs = ys))) ∧ ∃ n, w' = w.drewN n := by
  by_cases h : xs.length = ys.length
  · have := pairs_same A B c d xs ys w hx hy bx ys.length rfl h
    rw [h]
    exact this
  · have hne : ¬ xs = ys := fun e => h (by rw [e])
    simp only [hne, decide_false]
    exact pairs_lens A B _ _ c d w h
theorem equalP_lens (A B : Option Addr) (n m c d : Nat) (w : World) (h : n ≠ m) :
    Calls Try.prog 43 #[.slice A n c, .slice B m d] w fun e w' => e = .returned (.bool false) ∧ ∃ n, w' = w.drewN n := by
  have hl : ((n : Int) != m) = true := by rw [bne_iff_ne]; omega
  go_enter Try.func43, Try.ntmps43
  go_wp2
  go_ret
  exact ⟨rfl, 0, rfl⟩
set_option maxRecDepth 100000 in
theorem equalP_same {S S' : Nat → Prop} (A B : Option Addr) (c d : Nat) (xs ys : List Pr) (w : World) (hx : RowAt S w A (prCells xs)) (hy : RowAt S' w B (prCells ys)) (bx : xs.length ≤ 9223372036854775807) (m : Nat) (hm : m = ys.length) (hxy : xs.length = m) :
    Calls Try.prog 43 #[.slice A m c, .slice B m d] w fun e w' => e = .returned (.bool (decide (xs = ys))) ∧ ∃ n, w' = w.drewN n := by
  have hl : ((m : Int) != m) = false := by simp
  have bm : m ≤ 9223372036854775807 := by omega
  have HM := Lib.hid hm
  have HX := Lib.hid hxy
  clear hm hxy
  go_enter Try.func43, Try.ntmps43
  go_wp2
  go_loopw [13] (fun i wr => ∃ k : Nat, i = .int .i64 k ∧ k ≤ m ∧ (∀ j, j < k → xs[j]? = ys[j]?) ∧ ∃ n, wr = w.drewN n) (fun i _ => m - (intOf i).toNat)
  case atStart => exact ⟨0, rfl, by omega, by omega, 0, rfl⟩
  case round =>
    obtain ⟨k, rfl, hk, hpre, n, rfl⟩ := hrel
    have HP := Lib.hid hpre
    clear hpre
    by_cases hlt : k < m
    · have hkx : k < xs.length := by have := HX.out; omega
      have hky : k < ys.length := by have := HM.out; omega
      obtain ⟨p, hp⟩ : ∃ p, xs[k]? = some p := ⟨_, List.getElem?_eq_getElem hkx⟩
      obtain ⟨q, hq⟩ : ∃ q, ys[k]? = some q := ⟨_, List.getElem?_eq_getElem hky⟩
      obtain ⟨b, o, rfl, _, _, hx0, hx1⟩ := prs_at hx hp
      obtain ⟨b', o', rfl, _, _, hy0, hy1⟩ := prs_at hy hq
      have HPQ := Lib.hid (And.intro hp hq)
      clear hp hq hx hy
      have p1 : (0:Int) ≤ k := by omega
      have p2 : (k:Int) < m := by omega
      have hpq := pr_beq p q
      by_cases hd : p = q
      · have hb : ((p.a : Int) == q.a && (p.b : Int) == q.b) = true := by rw [hpq]; simpa using hd
        have hb' : (!((p.a : Int) == q.a && (p.b : Int) == q.b)) = false := by rw [hb]; rfl
        have hb2 : (!((p.a : Int) == q.a && (p.b : Int) == q.b)) = false := by rw [hb]; rfl
        have HD := Lib.hid hd
        clear hpq hd
        go_wp2
        go_quiet (fail)
        go_wp2
        all_goals first
          | (exfalso; have e := HD.out; subst e; simp_all; done)
          | (refine ⟨⟨k + 1, by go_num, by omega, ?_, _, by first | rfl | exact World.drewN_drewN ..⟩, by simp [intOf]; omega⟩
             intro j hj
             rcases Nat.lt_or_ge j k with h | h
             · exact HP.out j h
             · obtain rfl : j = k := by omega
               rw [HPQ.out.1, HPQ.out.2, HD.out])
      · have hb : ((p.a : Int) == q.a && (p.b : Int) == q.b) = false := by rw [hpq]; simpa using hd
        have hb2 : (!((p.a : Int) == q.a && (p.b : Int) == q.b)) = true := by rw [hb]; rfl
        have HD := Lib.hid hd
        clear hpq hd
        go_wp2
        go_quiet (fail)
        go_wp2
        all_goals first
          | (exfalso; simp_all; done)
          | (go_ret
             refine ⟨?_, _, by first | rfl | exact World.drewN_drewN ..⟩
             have : ¬ xs = ys := by
               intro e
               have h1 := HPQ.out.1
               rw [e, HPQ.out.2] at h1
               exact HD.out (Option.some.inj h1).symm
             simp [this])
    · have hk' : k = m := by omega
      subst hk'
      have : xs = ys := list_eq_of_get (by rw [HX.out, HM.out]) (fun j hj => HP.out j (by have := HX.out; omega))
      have H := Lib.hid this
      clear this
      go_wp2
      go_ret
      exact ⟨by simp [H.out], n, rfl⟩
theorem equalP_ok {S S' : Nat → Prop} (A B : Option Addr) (c d : Nat) (xs ys : List Pr) (w : World) (hx : RowAt S w A (prCells xs)) (hy : RowAt S' w B (prCells ys)) (bx : xs.length ≤ 9223372036854775807) :
    Calls Try.prog 43 #[.slice A xs.length c, .slice B ys.length d] w fun e w' => e = .returned (.bool (decide (xs = ys))) ∧ ∃ n, w' = w.drewN n := by
  by_cases h : xs.length = ys.length
  · have := equalP_same A B c d xs ys w hx hy bx ys.length rfl h
    rw [h]
    exact this
  · have hne : ¬ xs = ys := fun e => h (by rw [e])
    simp only [hne, decide_false]
    exact equalP_lens A B _ _ c d w h
end

end Go.Proofs.Ytkiikbajbikdeaa
