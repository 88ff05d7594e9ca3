/-
  Small words on memory that all the proofs of these seats use: which blocks a call may turn ('Mod'), rows of cells that are read ('RowAt'), and the model's operations on a map's block. No program in sight.
-/
import Derived.WalkKit
import Derived.ProofKit
import Derived.Maps.Keyed
import Derived.Deep.Draws
namespace Go.Proofs.Ytimbhkbdmcbodaa
open Go.RowKit Go.MapKept Go.ChangeMaps
set_option linter.unusedVariables false

/-! ### which blocks may have turned -/
/-- Of the blocks that were there only those of F may have turned; new ones may have come. -/
structure Mod (F : Nat → Prop) (w w' : World) : Prop where
  os : w'.os = w.os
  tape : w'.tape = w.tape
  output : w'.output = w.output
  size : w.heap.size ≤ w'.heap.size
  block : ∀ b, b < w.heap.size → ¬ F b → w'.heap[b]? = w.heap[b]?

def No : Nat → Prop := fun _ => False

theorem Mod.refl (F : Nat → Prop) (w : World) : Mod F w w := ⟨rfl, rfl, rfl, Nat.le_refl _, fun _ _ _ => rfl⟩
theorem Mod.trans {F : Nat → Prop} {a b c : World} (h : Mod F a b) (k : Mod F b c) : Mod F a c :=
  ⟨k.os.trans h.os, k.tape.trans h.tape, k.output.trans h.output, Nat.le_trans h.size k.size, fun i hi hf => (k.block i (Nat.lt_of_lt_of_le hi h.size) hf).trans (h.block i hi hf)⟩
/-- What is turned later, if it was there before, is F's. -/
theorem Mod.trans' {F G : Nat → Prop} {a b c : World} (h : Mod F a b) (k : Mod G b c) (hg : ∀ i, i < a.heap.size → G i → F i) : Mod F a c :=
  ⟨k.os.trans h.os, k.tape.trans h.tape, k.output.trans h.output, Nat.le_trans h.size k.size, fun i hi hf => (k.block i (Nat.lt_of_lt_of_le hi h.size) (fun g => hf (hg i hi g))).trans (h.block i hi hf)⟩
theorem Mod.mono {F G : Nat → Prop} {a b : World} (h : Mod F a b) (hg : ∀ i, F i → G i) : Mod G a b := ⟨h.os, h.tape, h.output, h.size, fun i hi hf => h.block i hi (fun g => hf (hg i g))⟩
theorem Mod.drew {F : Nat → Prop} {a w : World} (h : Mod F a w) : Mod F a w.drew := ⟨h.os, h.tape, h.output, h.size, h.block⟩
theorem Mod.drewN {F : Nat → Prop} {a w : World} (h : Mod F a w) (n : Nat) : Mod F a (w.drewN n) := ⟨h.os, h.tape, h.output, h.size, h.block⟩
theorem Mod.alloc {F : Nat → Prop} {a w : World} (h : Mod F a w) (o : Obj) : Mod F a (w.alloc o) :=
  h.trans ⟨rfl, rfl, rfl, by simp, fun k hk _ => Below.heap_alloc _ _ _ (by omega)⟩
theorem Mod.setCell {F : Nat → Prop} {a w : World} (h : Mod F a w) {p : Addr} (hp : a.heap.size ≤ p.block ∨ F p.block) (u : Value) : Mod F a (w.setCell p u) :=
  h.trans' (G := fun b => b = p.block) ⟨rfl, rfl, rfl, by simp [World.setCell], fun k hk hf => Below.heap_setCell _ _ _ _ hf⟩ (fun i hi hg => by subst hg; rcases hp with hp | hp; omega; exact hp)
theorem Mod.setBlock {F : Nat → Prop} {a w : World} (h : Mod F a w) {b : Nat} (hp : a.heap.size ≤ b ∨ F b) (o : Obj) : Mod F a (setBlock w b o) :=
  h.trans' (G := fun x => x = b) ⟨rfl, rfl, rfl, by simp [ChangeMaps.setBlock], fun k hk hf => by
    have hf : ¬ b = k := fun e => hf e.symm
    simp [ChangeMaps.setBlock, hf]⟩ (fun i hi hg => by subst hg; rcases hp with hp | hp; omega; exact hp)
theorem Mod.grown {F : Nat → Prop} {a w w' : World} {row : Option Nat} (h : Mod F a w) (hg : w.grownBy w' row) (hr : ∀ k, row = some k → a.heap.size ≤ k ∨ F k) : Mod F a w' :=
  h.trans' (G := fun k => row = some k) ⟨hg.os, hg.tape, hg.output, hg.size, fun k hk hf => hg.block k hk (fun e => hf e.symm)⟩ (fun i hi hgi => by rcases hr i hgi with h1 | h1; omega; exact h1)
theorem Mod.below {w w' : World} (h : Mod No w w') : Below w.heap.size w w' := ⟨h.os, h.tape, h.output, h.size, fun k hk => h.block k hk id⟩
theorem Mod.of_below {F : Nat → Prop} {w w' : World} (h : Below w.heap.size w w') : Mod F w w' := ⟨h.os, h.tape, h.output, h.size, fun k hk _ => h.block k hk⟩
/-- Seen from an elder world: what F holds lies above. -/
theorem Mod.below' {B : Nat} {F : Nat → Prop} {w w' : World} (h : Mod F w w') (hB : B ≤ w.heap.size) (hF : ∀ i, F i → B ≤ i) : Below B w w' :=
  ⟨h.os, h.tape, h.output, h.size, fun k hk => h.block k (by omega) (fun f => by have := hF k f; omega)⟩
theorem Mod.cell {F : Nat → Prop} {w w' : World} (h : Mod F w w') {p : Addr} {v : Value} (hc : w.cell? p = some v) (hf : ¬ F p.block) : w'.cell? p = some v :=
  (World.cell?_of_block (w := w) (h.block p.block (World.block_lt_of_cell? _ _ hc) hf)).trans hc
theorem Mod.obj {F : Nat → Prop} {w w' : World} (h : Mod F w w') {b : Nat} {o : Obj} (hc : w.heap[b]? = some o) (hf : ¬ F b) : w'.heap[b]? = some o :=
  (h.block b (lt_of_block hc) hf).trans hc

/-- What a walk's simp takes of a world behind a call: old cells, old marks read as before. -/
theorem Mod.rules {W w1 : World} (h : Mod No W w1) : (∀ b o, b < W.heap.size → w1.cell? ⟨b, o, none⟩ = W.cell? ⟨b, o, none⟩) ∧ (∀ b o, b < W.heap.size → w1.frozen? ⟨b, o, none⟩ = W.frozen? ⟨b, o, none⟩) ∧ W.heap.size ≤ w1.heap.size :=
  ⟨fun b o hb => World.cell?_of_block (h.block b hb id), fun b o hb => World.frozen?_of_block (h.block b hb id), h.size⟩
/-! the blocks that a call has just laid -/
theorem at10 (w : World) (a : Obj) : (w.alloc a).heap[w.heap.size]? = some a := by show (w.heap.push a)[w.heap.size]? = some a; simp
theorem at20 (w : World) (a b : Obj) : ((w.alloc a).alloc b).heap[w.heap.size]? = some a := (Below.heap_alloc _ _ _ (by simp)).trans (at10 w a)
theorem at21 (w : World) (a b : Obj) : ((w.alloc a).alloc b).heap[w.heap.size + 1]? = some b := by show ((w.heap.push a).push b)[w.heap.size + 1]? = some b; rw [Array.getElem?_push, if_pos (by simp)]
theorem at30 (w : World) (a b c : Obj) : (((w.alloc a).alloc b).alloc c).heap[w.heap.size]? = some a := (Below.heap_alloc _ _ _ (by simp; omega)).trans (at20 w a b)
theorem at31 (w : World) (a b c : Obj) : (((w.alloc a).alloc b).alloc c).heap[w.heap.size + 1]? = some b := (Below.heap_alloc _ _ _ (by simp)).trans (at21 w a b)
theorem at32 (w : World) (a b c : Obj) : (((w.alloc a).alloc b).alloc c).heap[w.heap.size + 1 + 1]? = some c := by show (((w.heap.push a).push b).push c)[w.heap.size + 2]? = some c; rw [Array.getElem?_push, if_pos (by simp)]
theorem at10d (w : World) (a : Obj) : (w.alloc a).drew.heap[w.heap.size]? = some a := at10 w a
theorem at20d (w : World) (a b : Obj) : ((w.alloc a).alloc b).drew.heap[w.heap.size]? = some a := at20 w a b
theorem at21d (w : World) (a b : Obj) : ((w.alloc a).alloc b).drew.heap[w.heap.size + 1]? = some b := at21 w a b
theorem at32dd (w : World) (a b c : Obj) : (((w.alloc a).alloc b).alloc c).drew.drew.heap[w.heap.size + 1 + 1]? = some c := at32 w a b c
/-- A block that is known whole: its cells; none is frozen. -/
theorem blk_cell {w : World} {b : Nat} {cs : Array Value} {t : TypeId} (h : w.heap[b]? = some (.cells cs t (0, 0))) (j : Nat) : w.cell? ⟨b, j, none⟩ = cs[j]? := by simp [World.cell?, h]
theorem blk_free {w : World} {b : Nat} {cs : Array Value} {t : TypeId} (h : w.heap[b]? = some (.cells cs t (0, 0))) (j : Nat) : w.frozen? ⟨b, j, none⟩ = false := by simp [World.frozen?, h]

/-- The blocks of S are as they were. -/
def Keeps (S : Nat → Prop) (w w' : World) : Prop := ∀ b o, S b → w.heap[b]? = some o → w'.heap[b]? = some o
theorem Keeps.refl (S : Nat → Prop) (w : World) : Keeps S w w := fun _ _ _ h => h
theorem Keeps.trans {S : Nat → Prop} {a b c : World} (h : Keeps S a b) (k : Keeps S b c) : Keeps S a c := fun i o hs ho => k i o hs (h i o hs ho)
theorem Mod.keeps {F S : Nat → Prop} {w w' : World} (h : Mod F w w') (hd : ∀ b, b < w.heap.size → S b → ¬ F b) : Keeps S w w' := fun b o hs ho => h.obj ho (hd b (lt_of_block ho) hs)
theorem Keeps.below {B : Nat} {w w' : World} (h : Below B w w') : Keeps (· < B) w w' := fun b o hs ho => (h.block b hs).trans ho

/-! ### rows of cells that are read -/
/-- The cells 'cs' stand at the address A, in a block of S. (Of no cells nothing is asked.) -/
def RowAt (S : Nat → Prop) (w : World) (A : Option Addr) (cs : List Value) : Prop :=
  cs = [] ∨ ∃ b o, A = some ⟨b, o, none⟩ ∧ S b ∧ ∀ j v, cs[j]? = some v → w.cell? ⟨b, o + j, none⟩ = some v

theorem RowAt.nil (S : Nat → Prop) (w : World) (A : Option Addr) : RowAt S w A [] := .inl rfl
theorem RowAt.keeps {S : Nat → Prop} {w w' : World} {A : Option Addr} {cs : List Value} (h : RowAt S w A cs) (hk : Keeps S w w') : RowAt S w' A cs := by
  rcases h with h | ⟨b, o, e, hs, hc⟩
  · exact .inl h
  · refine .inr ⟨b, o, e, hs, fun j v hj => ?_⟩
    have h1 := hc j v hj
    have hlt := World.block_lt_of_cell? _ _ h1
    simp only [World.cell?] at h1 ⊢
    cases ho : w.heap[b]? with
    | none => simp [ho] at h1
    | some x => rw [hk b x hs ho]; rw [ho] at h1; exact h1
theorem RowAt.mono {S S' : Nat → Prop} {w : World} {A : Option Addr} {cs : List Value} (h : RowAt S w A cs) (hs : ∀ b, b < w.heap.size → S b → S' b) : RowAt S' w A cs := by
  rcases h with h | ⟨b, o, e, h1, hc⟩
  · exact .inl h
  · cases cs with
    | nil => exact .inl rfl
    | cons c cs => exact .inr ⟨b, o, e, hs b (World.block_lt_of_cell? _ _ (hc 0 c rfl)) h1, hc⟩
/-- Where there is a cell, there is an address. -/
theorem RowAt.open {S : Nat → Prop} {w : World} {A : Option Addr} {cs : List Value} (h : RowAt S w A cs) (hne : cs ≠ []) : ∃ b o, A = some ⟨b, o, none⟩ ∧ S b ∧ b < w.heap.size ∧ ∀ j v, cs[j]? = some v → w.cell? ⟨b, o + j, none⟩ = some v := by
  rcases h with h | ⟨b, o, e, h1, hc⟩
  · exact absurd h hne
  · cases cs with
    | nil => exact absurd rfl hne
    | cons c cs => exact ⟨b, o, e, h1, World.block_lt_of_cell? _ _ (hc 0 c rfl), hc⟩

/-- Elements of k cells each, laid one behind the other: cell j of element i. -/
theorem flat_at {α : Type} (f : α → List Value) (k : Nat) (hk : ∀ x, (f x).length = k) : ∀ (l : List α) (i j : Nat) (x : α), l[i]? = some x → j < k → (l.flatMap f)[i * k + j]? = (f x)[j]?
  | [], i, j, x, h, _ => by simp at h
  | y :: r, 0, j, x, h, hj => by
    obtain rfl : y = x := by simpa using h
    simp only [List.flatMap_cons, Nat.zero_mul, Nat.zero_add]
    rw [List.getElem?_append_left (by rw [hk]; exact hj)]
  | y :: r, i + 1, j, x, h, hj => by
    have h' : r[i]? = some x := by simpa using h
    simp only [List.flatMap_cons]
    rw [List.getElem?_append_right (by rw [hk]; have : (i + 1) * k = i * k + k := Nat.succ_mul i k; omega), hk]
    have e : (i + 1) * k + j - k = i * k + j := by have : (i + 1) * k = i * k + k := Nat.succ_mul i k; omega
    rw [e]
    exact flat_at f k hk r i j x h' hj
theorem flat_length {α : Type} (f : α → List Value) (k : Nat) (hk : ∀ x, (f x).length = k) : ∀ (l : List α), (l.flatMap f).length = l.length * k
  | [] => by simp
  | y :: r => by rw [List.flatMap_cons, List.length_append, hk, flat_length f k hk r, List.length_cons, Nat.succ_mul]; omega
/-- Element i of a row: its address, its cells. -/
theorem RowAt.elem {α : Type} (f : α → List Value) (k : Nat) (hk : ∀ x, (f x).length = k) (hk0 : 0 < k) {S : Nat → Prop} {w : World} {A : Option Addr} {l : List α} (h : RowAt S w A (l.flatMap f)) {i : Nat} {x : α} (hi : l[i]? = some x) :
    ∃ b o, A = some ⟨b, o, none⟩ ∧ S b ∧ b < w.heap.size ∧ ∀ j v, (f x)[j]? = some v → w.cell? ⟨b, o + i * k + j, none⟩ = some v := by
  have hne : l.flatMap f ≠ [] := by
    intro e
    have := flat_length f k hk l
    rw [e] at this
    have hlt := (List.getElem?_eq_some_iff.1 hi).1
    have : 0 < l.length * k := Nat.mul_pos (by omega) hk0
    simp at *
    omega
  obtain ⟨b, o, e, hs, hlt, hc⟩ := h.open hne
  refine ⟨b, o, e, hs, hlt, fun j v hj => ?_⟩
  have hjk : j < k := by rw [← hk x]; exact (List.getElem?_eq_some_iff.1 hj).1
  rw [Nat.add_assoc]
  exact hc _ _ ((flat_at f k hk l i j x hi hjk).trans hj)
/-- What the call owns is a row. -/
theorem RowAt.of_owns {w : World} {base : Nat} {e : TypeId} {size : Nat} {v : Value} {n : Nat} {xs : List Value} (h : w.ownsRow base e size v n xs) : ∃ A c, v = .slice A n c ∧ n ≤ c ∧ RowAt (fun b => base ≤ b) w A xs := by
  have hl := h.1
  rcases h.2 with ⟨rfl, rfl⟩ | ⟨g, cap, cur, rfl, hb, hg, hn, _⟩
  · exact ⟨none, 0, rfl, Nat.le_refl _, .inl (List.eq_nil_of_length_eq_zero (by simpa using hl))⟩
  · refine ⟨_, cap, rfl, hn, .inr ⟨g, 0, rfl, hb, fun j u hj => ?_⟩⟩
    have := h.cells (g := g) rfl j u hj
    rwa [Addr.add_lit] at this

/-- Two lists, element by element. -/
def All2 {α β : Type} (R : α → β → Prop) : List α → List β → Prop
  | [], [] => True
  | x :: l, y :: m => R x y ∧ All2 R l m
  | _, _ => False
theorem All2.length {α β : Type} {R : α → β → Prop} : ∀ {l : List α} {m : List β}, All2 R l m → l.length = m.length
  | [], [], _ => rfl
  | _ :: _, _ :: _, h => by simp [All2.length h.2]
theorem All2.imp {α β : Type} {R R' : α → β → Prop} (hr : ∀ x y, R x y → R' x y) : ∀ {l : List α} {m : List β}, All2 R l m → All2 R' l m
  | [], [], _ => trivial
  | _ :: _, _ :: _, h => ⟨hr _ _ h.1, All2.imp hr h.2⟩
theorem All2.get {α β : Type} {R : α → β → Prop} : ∀ {l : List α} {m : List β} (_ : All2 R l m) {i : Nat} {x : α} (_ : l[i]? = some x), ∃ y, m[i]? = some y ∧ R x y
  | [], [], _, i, x, e => by simp at e
  | _ :: _, y :: _, h, 0, _, e => ⟨y, rfl, by simp at e; subst e; exact h.1⟩
  | _ :: l, _ :: m, h, i + 1, x, e => by simpa using All2.get h.2 (i := i) (x := x) (by simpa using e)
theorem All2.get' {α β : Type} {R : α → β → Prop} : ∀ {l : List α} {m : List β} (_ : All2 R l m) {i : Nat} {y : β} (_ : m[i]? = some y), ∃ x, l[i]? = some x ∧ R x y
  | [], [], _, i, y, e => by simp at e
  | x :: _, _ :: _, h, 0, _, e => ⟨x, rfl, by simp at e; subst e; exact h.1⟩
  | _ :: l, _ :: m, h, i + 1, y, e => by simpa using All2.get' h.2 (i := i) (y := y) (by simpa using e)
theorem All2.append {α β : Type} {R : α → β → Prop} : ∀ {l l' : List α} {m m' : List β}, All2 R l m → All2 R l' m' → All2 R (l ++ l') (m ++ m')
  | [], _, [], _, _, h => h
  | _ :: _, _, _ :: _, _, h, h' => ⟨h.1, All2.append h.2 h'⟩
theorem All2.eraseIdx {α β : Type} {R : α → β → Prop} : ∀ {l : List α} {m : List β} (_ : All2 R l m) (i : Nat), All2 R (l.eraseIdx i) (m.eraseIdx i)
  | [], [], _, _ => by simp [All2]
  | _ :: _, _ :: _, h, 0 => h.2
  | _ :: l, _ :: m, h, i + 1 => ⟨h.1, All2.eraseIdx h.2 i⟩
theorem All2.set {α β : Type} {R : α → β → Prop} {x : α} {y : β} (hxy : R x y) : ∀ {l : List α} {m : List β} (_ : All2 R l m) (i : Nat), All2 R (l.set i x) (m.set i y)
  | [], [], _, _ => by simp [All2]
  | _ :: _, _ :: _, h, 0 => ⟨hxy, h.2⟩
  | _ :: l, _ :: m, h, i + 1 => ⟨h.1, All2.set hxy h.2 i⟩

/-! ### a map's block -/
section
variable {P : Program} {t k e : TypeId} {w : World} {b : Nat} {es : Array MapEntry} {clock : Nat}

theorem setBlock_self (hb : w.heap[b]? = some (.map es clock)) : setBlock w b (.map es clock) = w := by
  have hlt := lt_of_block hb
  have : w.heap.setIfInBounds b (.map es clock) = w.heap := by
    apply Array.ext_getElem?
    intro i
    by_cases h : b = i
    · subst h; rw [Array.getElem?_setIfInBounds, if_pos rfl, if_pos hlt, hb]
    · simp [h]
  simp [ChangeMaps.setBlock, this]

/-- All keys of the block are keys of their type. -/
def KeysOk (P : Program) (k : TypeId) (es : Array MapEntry) : Prop := ∀ x ∈ es.toList, ∃ l, keyOf P k x.key = some l

theorem find_hit (K : Maps.Keyed P k) (hs : Stamped es clock) (hes : KeysOk P k es) {key : Value} {kl : Lit} (hk : keyOf P k key = some kl) {j : Nat} {e0 : MapEntry} (hj : es[j]? = some e0) (he : e0.key = key) (w : World) :
    (Instr.findKey k key es.toList).run P w = .ok (some (j, e0.val)) w := by
  have hj' : es.toList[j]? = some e0 := by simpa using hj
  rcases K.find w hk es.toList hes with ⟨_, h2⟩ | ⟨i, e1, h1, h2, h3⟩
  · exact absurd he (h2 e0 (List.mem_of_getElem? hj'))
  · have hij : i = j := by
      have hn := hs.2.2
      have e2 : (es.toList.map (·.key))[i]? = (es.toList.map (·.key))[j]? := by simp only [List.getElem?_map, h2, hj', Option.map_some, h3, he]
      exact (List.getElem?_inj (by simpa using (List.getElem?_eq_some_iff.1 h2).1) hn).1 e2
    subst hij
    rw [h2] at hj'
    cases hj'
    exact h1
theorem find_miss (K : Maps.Keyed P k) (hes : KeysOk P k es) {key : Value} {kl : Lit} (hk : keyOf P k key = some kl) (hn : ∀ x ∈ es.toList, x.key ≠ key) (w : World) :
    (Instr.findKey k key es.toList).run P w = .ok none w := by
  rcases K.find w hk es.toList hes with ⟨h1, _⟩ | ⟨i, e1, h1, h2, h3⟩
  · exact h1
  · exact absurd h3 (hn e1 (List.mem_of_getElem? h2))

theorem lookup_hit (K : Maps.Keyed P k) (ht : P.underlying t = some (.map k e)) (hs : Stamped es clock) (hes : KeysOk P k es) {key : Value} {kl : Lit} (hk : keyOf P k key = some kl) {j : Nat} {e0 : MapEntry} (hj : es[j]? = some e0) (he : e0.key = key) (c : Bool) :
    ∀ w : World, w.heap[b]? = some (.map es clock) → (Instr.lookup t (.map (some b)) key c).run P w = .ok (if c then .tuple #[e0.val, .bool true] else e0.val) w := by
  intro w hb
  simp [Instr.lookup, run_underlying ht, MapKept.run_getObj_map hb, K.check w _ hk, find_hit K hs hes hk hj he w, Result.andThen]
theorem lookup_miss (K : Maps.Keyed P k) (ht : P.underlying t = some (.map k e)) {z : Value} (hz : ∀ w, (zeroValue e).run P w = .ok z w) (hes : KeysOk P k es) {key : Value} {kl : Lit} (hk : keyOf P k key = some kl) (hn : ∀ x ∈ es.toList, x.key ≠ key) (c : Bool) :
    ∀ w : World, w.heap[b]? = some (.map es clock) → (Instr.lookup t (.map (some b)) key c).run P w = .ok (if c then .tuple #[z, .bool false] else z) w := by
  intro w hb
  simp [Instr.lookup, run_underlying ht, MapKept.run_getObj_map hb, K.check w _ hk, find_miss K hes hk hn w, hz, Result.andThen]

theorem modify_self {j : Nat} {e0 : MapEntry} (hj : es[j]? = some e0) (f : MapEntry → MapEntry) (hf : f e0 = e0) : es.modify j f = es := by
  apply Array.ext_getElem?
  intro i
  rw [Array.getElem?_modify]
  split
  · rename_i h; subst h; rw [hj]; simp [hf]
  · rfl

theorem mapEntry_hit (K : Maps.Keyed P k) (ht : P.underlying t = some (.map k e)) (hs : Stamped es clock) (hes : KeysOk P k es) {key : Value} {kl : Lit} (hk : keyOf P k key = some kl) {j : Nat} {e0 : MapEntry} (hj : es[j]? = some e0) (he : e0.key = key) :
    ∀ w : World, w.heap[b]? = some (.map es clock) → (Instr.mapEntry t (.map (some b)) key).run P w = .ok (.tuple #[e0.val, .int .i64 e0.born]) w := by
  intro w hb
  have hm : es.modify j (fun x => { x with key := key }) = es := modify_self hj _ (by subst he; rfl)
  have h0 : ({ w with heap := w.heap.setIfInBounds b (.map es clock) } : World) = w := setBlock_self hb
  simp [Instr.mapEntry, run_underlying ht, MapKept.run_getObj_map hb, K.check w _ hk, find_hit K hs hes hk hj he w, hj, he, K.stays w hk, MapKept.run_setObj_map _ hb, hm, h0, Result.andThen, goInt]
theorem mapEntry_miss (K : Maps.Keyed P k) (ht : P.underlying t = some (.map k e)) {z : Value} (hz : ∀ w, (zeroValue e).run P w = .ok z w) (hes : KeysOk P k es) {key : Value} {kl : Lit} (hk : keyOf P k key = some kl) (hn : ∀ x ∈ es.toList, x.key ≠ key) :
    ∀ w : World, w.heap[b]? = some (.map es clock) → (Instr.mapEntry t (.map (some b)) key).run P w = .ok (.tuple #[z, .int .i64 clock]) (setBlock w b (.map (es.push ⟨key, z, clock⟩) (clock + 1))) := by
  intro w hb
  simp [Instr.mapEntry, run_underlying ht, MapKept.run_getObj_map hb, K.check w _ hk, find_miss K hes hk hn w, hz, MapKept.run_setObj_map _ hb, Result.andThen, goInt, ChangeMaps.setBlock]

theorem findIdx_born (hs : Stamped es clock) {j : Nat} {e0 : MapEntry} (hj : es[j]? = some e0) : es.findIdx? (fun x => (x.born : Int) == (e0.born : Int)) = some j := by
  have hlt : j < es.size := (Array.getElem?_eq_some_iff.1 hj).1
  have hej : es[j] = e0 := (Array.getElem?_eq_some_iff.1 hj).2
  rw [Array.findIdx?_eq_some_iff_getElem]
  refine ⟨hlt, by simp [hej], fun i hi => ?_⟩
  have hn := hs.2.1
  have hne : es[i].born ≠ e0.born := by
    intro e1
    have e2 : (es.toList.map (·.born))[i]? = (es.toList.map (·.born))[j]? := by
      simp [List.getElem?_map, Array.getElem?_eq_getElem (show i < es.size by omega), Array.getElem?_eq_getElem hlt, hej, e1]
    have := (List.getElem?_inj (by simp; omega) hn).1 e2
    omega
  simp only [beq_iff_eq, Int.natCast_inj]
  exact hne
theorem entryStore_run (hs : Stamped es clock) {j : Nat} {e0 : MapEntry} (hj : es[j]? = some e0) (v : Value) :
    ∀ w : World, w.heap[b]? = some (.map es clock) → (Instr.entryStore t (.map (some b)) (.int .i64 e0.born) v).run P w = .ok () (setBlock w b (.map (es.modify j (fun x => { x with val := v })) clock)) := by
  intro w hb
  simp [Instr.entryStore, MapKept.run_getObj_map hb, asInt, asIntOf, findIdx_born hs hj, MapKept.run_setObj_map _ hb, Result.andThen, ChangeMaps.setBlock]

theorem mapUpdate_hit (K : Maps.Keyed P k) (ht : P.underlying t = some (.map k e)) (hs : Stamped es clock) (hes : KeysOk P k es) {key : Value} {kl : Lit} (hk : keyOf P k key = some kl) {j : Nat} {e0 : MapEntry} (hj : es[j]? = some e0) (he : e0.key = key) (v : Value) :
    ∀ w : World, w.heap[b]? = some (.map es clock) → (Instr.mapUpdate t (.map (some b)) key v).run P w = .ok () (setBlock w b (.map (es.modify j (fun x => { x with val := v })) clock)) := by
  intro w hb
  have hm : es.modify j (fun x => { x with key := key, val := v }) = es.modify j (fun x => { x with val := v }) := by
    apply Array.ext_getElem?
    intro i
    rw [Array.getElem?_modify, Array.getElem?_modify]
    split
    · rename_i h; subst h; rw [hj]; simp [he]
    · rfl
  simp [Instr.mapUpdate, run_underlying ht, MapKept.run_getObj_map hb, K.check w _ hk, find_hit K hs hes hk hj he w, hj, he, K.stays w hk, MapKept.run_setObj_map _ hb, hm, Result.andThen, ChangeMaps.setBlock]
theorem mapUpdate_miss (K : Maps.Keyed P k) (ht : P.underlying t = some (.map k e)) (hes : KeysOk P k es) {key : Value} {kl : Lit} (hk : keyOf P k key = some kl) (hn : ∀ x ∈ es.toList, x.key ≠ key) (v : Value) :
    ∀ w : World, w.heap[b]? = some (.map es clock) → (Instr.mapUpdate t (.map (some b)) key v).run P w = .ok () (setBlock w b (.map (es.push ⟨key, v, clock⟩) (clock + 1))) := by
  intro w hb
  simp [Instr.mapUpdate, run_underlying ht, MapKept.run_getObj_map hb, K.check w _ hk, find_miss K hes hk hn w, MapKept.run_setObj_map _ hb, Result.andThen, ChangeMaps.setBlock]

theorem delete_hit {ty : TypeId} (K : Maps.Keyed P k) (ht : P.underlying t = some (.map k e)) (hs : Stamped es clock) (hes : KeysOk P k es) {key : Value} {kl : Lit} (hk : keyOf P k key = some kl) {j : Nat} {e0 : MapEntry} (hj : es[j]? = some e0) (he : e0.key = key) :
    ∀ w : World, w.heap[b]? = some (.map es clock) → (Builtin.delete_ #[t, k] ty #[.map (some b), key]).run P w = .ok (.tuple #[]) (setBlock w b (.map (es.eraseIdxIfInBounds j) clock)) := by
  intro w hb
  simp [Builtin.delete_, run_underlying ht, MapKept.run_getObj_map hb, K.check w _ hk, find_hit K hs hes hk hj he w, MapKept.run_setObj_map _ hb, Result.andThen, ChangeMaps.setBlock]
theorem delete_miss {ty : TypeId} (K : Maps.Keyed P k) (ht : P.underlying t = some (.map k e)) (hes : KeysOk P k es) {key : Value} {kl : Lit} (hk : keyOf P k key = some kl) (hn : ∀ x ∈ es.toList, x.key ≠ key) :
    ∀ w : World, w.heap[b]? = some (.map es clock) → (Builtin.delete_ #[t, k] ty #[.map (some b), key]).run P w = .ok (.tuple #[]) w := by
  intro w hb
  have h0 : ({ w with heap := w.heap.setIfInBounds b (.map es clock) } : World) = w := setBlock_self hb
  simp [Builtin.delete_, run_underlying ht, MapKept.run_getObj_map hb, K.check w _ hk, find_miss K hes hk hn w, MapKept.run_setObj_map _ hb, h0, Result.andThen]

theorem len_map {ty : TypeId} (ht : P.underlying t = some (.map k e)) (es : Array MapEntry) (clock : Nat) :
    ∀ w : World, w.heap[b]? = some (.map es clock) → (Builtin.len_ #[t] ty #[.map (some b)]).run P w = .ok (.int .i64 es.size) w := by
  intro w hb
  simp [Builtin.len_, run_underlying ht, MapKept.run_getObj_map hb, Result.andThen, goInt]
end

/-! a map's block in new worlds: the walk's simp takes these -/
theorem heap_setBlock_self {w : World} {b : Nat} (o : Obj) (h : b < w.heap.size) : (setBlock w b o).heap[b]? = some o := by
  simp [ChangeMaps.setBlock, h]
theorem heap_setBlock_ne {w : World} {b i : Nat} (o : Obj) (h : i ≠ b) : (setBlock w b o).heap[i]? = w.heap[i]? := by
  have h' : ¬ b = i := fun e => h e.symm
  simp [ChangeMaps.setBlock, h']
theorem size_setBlock {w : World} {b : Nat} (o : Obj) : (setBlock w b o).heap.size = w.heap.size := by simp [ChangeMaps.setBlock]
theorem cell_setBlock_ne {w : World} {b : Nat} {p : Addr} (o : Obj) (h : p.block ≠ b) : (setBlock w b o).cell? p = w.cell? p := World.cell?_of_block (heap_setBlock_ne o h)

end Go.Proofs.Ytimbhkbdmcbodaa
