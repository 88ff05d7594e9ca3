/-
  A list of one's own that grows by append, element by element; each element may point to rows of its own. Any program, any elements. (The first part of OwnL, for seats without tenants.)
-/
import Derived.Test.YtimbhkbdmcbodaaSessG
import Derived.Test.YtimbhkbdmcbodaaApp
import Derived.Test.YtimbhkbdmcbodaaAppF
namespace Go.Proofs.Ytimbhkbdmcbodaa
open Go.RowKit
set_option linter.unusedVariables false
set_option linter.unusedSimpArgs false

/-- Elements: their cells; what they point to. -/
structure Shp (α : Type) where
  cells : α → List Value
  R : (Nat → Prop) → World → α → Prop
  size : Nat
  len : ∀ x, (cells x).length = size
  pos : 0 < size
  keep : ∀ {S w w' x}, R S w x → Keeps S w w' → R S w' x
  lt : ∀ {S S' w x}, R S w x → (∀ b, b < w.heap.size → S b → S' b) → R S' w x
  one : ∀ {S w x}, R S w x → ∀ u ∈ cells x, u.oneCell' = true
/-- A list of one's own. -/
structure OL {α : Type} (H : Shp α) (e : TypeId) (w : World) (base : Nat) (v : Value) (l : List α) : Prop where
  own : w.ownsRow base e H.size v l.length (l.flatMap H.cells)
  rows : ∀ x ∈ l, H.R (fun b => base ≤ b ∧ v.ownBlock ≠ some b) w x
section
variable {P : Program} {α : Type} {H : Shp α} {e : TypeId} {w w' : World} {base : Nat} {v : Value} {l : List α}
theorem OL.nil (H : Shp α) (e : TypeId) (w : World) (base : Nat) : OL H e w base (.slice none 0 0) [] := ⟨⟨by simp, .inl ⟨rfl, rfl⟩⟩, by simp⟩
theorem OL.block (h : OL H e w base v l) {b : Nat} (hb : v.ownBlock = some b) : base ≤ b ∧ b < w.heap.size := by
  rcases h.own.2 with ⟨rfl, _⟩ | ⟨g, cap, cur, rfl, hg, hgg, _⟩
  · simp [Value.ownBlock] at hb
  · obtain rfl : g = b := by simpa [Value.ownBlock] using hb
    exact ⟨hg, lt_of_block hgg⟩
theorem OL.lower {base' : Nat} (h : OL H e w base v l) (hb : base' ≤ base) : OL H e w base' v l := by
  refine ⟨⟨h.own.1, ?_⟩, fun x hx => H.lt (h.rows x hx) (fun b _ hs => ⟨by have := hs.1; omega, hs.2⟩)⟩
  rcases h.own.2 with hn | ⟨g, cap, cur, rfl, hg, rest⟩
  · exact .inl hn
  · exact .inr ⟨g, cap, cur, rfl, by omega, rest⟩
theorem OL.mod {F : Nat → Prop} (h : OL H e w base v l) (hm : Mod F w w') (hF : ∀ b, base ≤ b → b < w.heap.size → ¬ F b) : OL H e w' base v l :=
  ⟨own_mod h.own hm (fun k hk => hF k (h.block hk).1 (h.block hk).2), fun x hx => H.keep (h.rows x hx) (hm.keeps (fun b hb hs => hF b hs.1 hb))⟩
theorem flatMap_len (H : Shp α) (l : List α) : (l.flatMap H.cells).length = l.length * H.size := by
  induction l with
  | nil => simp
  | cons a l ih => rw [List.flatMap_cons, List.length_append, ih, H.len, List.length_cons, Nat.succ_mul, Nat.add_comm]
/-- One more. -/
theorem OL.push (h : OL H e w base v l) {x : α} (hx : H.R (fun b => base ≤ b ∧ v.ownBlock ≠ some b) w x) {t : TypeId} (ty : TypeId) (i : TypeInfo) (z : Value) (bytes : Nat) (ht : P.underlying t = some (.slice e)) (hi : P.info? e = some i) (hz : i.zero = some z)
    (hsize : i.size = H.size) (hby : i.bytes = bytes) (hzs : z.cells.size = H.size) (h63 : l.length + 1 ≤ maxLen) (hbytes : (l.length + 1) * bytes ≤ 140737488355328) (hbase : base ≤ w.heap.size) :
    ∃ v' w', (Builtin.append_ #[t, t] ty #[v, .slice (some ⟨w.heap.size, 0, none⟩) 1 1]).run P (w.alloc (.cells (H.cells x).toArray e)) = .ok v' w' ∧ OL H e w' base v' (l ++ [x]) ∧ Mod (fun b => v.ownBlock = some b) w w' := by
  have m1 : Mod No w (w.alloc (.cells (H.cells x).toArray e)) := (Mod.refl _ _).alloc _
  have hr : RowAt (fun b => b = w.heap.size) (w.alloc (.cells (H.cells x).toArray e)) (some ⟨w.heap.size, 0, none⟩) (H.cells x) :=
    .inr ⟨w.heap.size, 0, rfl, rfl, fun j u hj => by rw [Nat.zero_add]; exact (blk_cell (at10 w _) j).trans (by simpa using hj)⟩
  obtain ⟨v', w', h1, h2, h3, h4⟩ := run_append_row (P := P) _ base t ty e i z H.size bytes ht hi hz hsize hby hzs H.pos v l.length _ (own_mod h.own m1 (fun k _ f => f)) _ 1 1 (H.cells x) hr (by rw [H.len, Nat.one_mul]) (H.one hx) h63 hbytes (by simp; omega)
  have hm : Mod (fun b => v.ownBlock = some b) w w' := Mod.grown ((Mod.refl _ w).alloc _) h3 (fun k hk => .inr hk)
  refine ⟨v', w', h1, ⟨by simpa using h2, fun y hy => ?_⟩, hm⟩
  have hy' : H.R (fun b => base ≤ b ∧ v.ownBlock ≠ some b) w y := by
    rcases List.mem_append.1 hy with hy | hy
    · exact h.rows y hy
    · obtain rfl : y = x := by simpa using hy
      exact hx
  refine H.lt (H.keep (H.lt (S' := fun b => (base ≤ b ∧ v.ownBlock ≠ some b) ∧ b < w.heap.size) hy' (fun b hb hs => ⟨hs, hb⟩)) (hm.keeps (fun b _ hs f => hs.1.2 f))) (fun b hb hs => ⟨hs.1.1, fun f => ?_⟩)
  rcases h4 with h4 | h4
  · exact hs.1.2 (by rw [← h4]; exact f)
  · rw [h4] at f
    have := Option.some.inj f
    have h5 := hs.2
    simp at this
    omega
/-- A new element's rows, made behind the list. -/
theorem OL.fresh (h : OL H e w base v l) {x : α} {B : Nat} (hB : base ≤ B) (hw : ∀ k, v.ownBlock = some k → k < B) (hx : H.R (fun b => B ≤ b) w' x) : H.R (fun b => base ≤ b ∧ v.ownBlock ≠ some b) w' x :=
  H.lt hx (fun b _ hb => ⟨by have hb' : B ≤ b := hb; omega, fun f => by have := hw b f; have hb' : B ≤ b := hb; omega⟩)
theorem OL.open (h : OL H e w base v l) : ∃ A c, v = .slice A l.length c ∧ l.length ≤ c ∧ RowAt (fun b => base ≤ b) w A (l.flatMap H.cells) ∧ ∀ x ∈ l, H.R (fun b => base ≤ b) w x := by
  obtain ⟨A, c, rfl, hc, hr⟩ := RowAt.of_owns h.own
  exact ⟨A, c, rfl, hc, hr, fun x hx => H.lt (h.rows x hx) (fun b _ hb => hb.1)⟩
/-- What turns is one's own. -/
theorem OL.quiet {w0 : World} (h : OL H e w w0.heap.size v l) (h0 : Mod No w0 w) (hm : Mod (fun b => v.ownBlock = some b) w w') : Mod No w0 w' :=
  h0.trans' hm (fun i hi f => by have := (h.block f).1; omega)
end


end Go.Proofs.Ytimbhkbdmcbodaa
