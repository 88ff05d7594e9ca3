/-
  A map's block as a list of entries, in the order in which they were laid: looked up, stored, struck, counted. Any program, any keys.
-/
import Derived.Test.YtimbhkbdmcbodaaLib
namespace Go.Proofs.Ytimbhkbdmcbodaa
open Go.RowKit Go.MapKept
open Go.ChangeMaps (setBlock)
set_option linter.unusedVariables false

/-- A map's block: its entries. -/
def GMap (P : Program) (k : TypeId) (w : World) (b : Nat) (D : List (Value × Value)) : Prop :=
  ∃ es clock, w.heap[b]? = some (.map es clock) ∧ Stamped es clock ∧ KeysOk P k es ∧ es.toList.map (fun e => (e.key, e.val)) = D
section
variable {P : Program} {t k e : TypeId} {w w' : World} {b : Nat} {D : List (Value × Value)}

theorem GMap.lt (h : GMap P k w b D) : b < w.heap.size := by
  obtain ⟨es, c, hb, _⟩ := h
  exact lt_of_block hb
theorem GMap.mod {F : Nat → Prop} (h : GMap P k w b D) (hm : Mod F w w') (hF : ¬ F b) : GMap P k w' b D := by
  obtain ⟨es, c, hb, r⟩ := h
  exact ⟨es, c, hm.obj hb hF, r⟩
theorem GMap.of_eq (h : GMap P k w b D) (he : w'.heap[b]? = w.heap[b]?) : GMap P k w' b D := by
  obtain ⟨es, c, hb, r⟩ := h
  exact ⟨es, c, he.trans hb, r⟩
theorem GMap.drew (h : GMap P k w b D) : GMap P k w.drew b D := h
theorem GMap.new (P : Program) (k : TypeId) (w : World) : GMap P k (w.alloc (.map #[] 0)) w.heap.size [] := ⟨#[], 0, at10 w _, stamped_empty 0, (fun x hx => by simp at hx), rfl⟩
theorem GMap.nodup (h : GMap P k w b D) : (D.map (·.1)).Nodup := by
  obtain ⟨es, c, hb, hs, _, rfl⟩ := h
  have := hs.2.2
  simpa [List.map_map, Function.comp_def] using this
theorem gm_at {es : Array MapEntry} {i : Nat} {x v : Value} (h : (es.toList.map (fun e => (e.key, e.val)))[i]? = some (x, v)) : ∃ e0, es[i]? = some e0 ∧ e0.key = x ∧ e0.val = v := by
  rw [List.getElem?_map, Option.map_eq_some_iff] at h
  obtain ⟨e0, h1, h2⟩ := h
  cases h2
  exact ⟨e0, by simpa using h1, rfl, rfl⟩
theorem map_eraseIdx {α β : Type} (f : α → β) : ∀ (l : List α) (i : Nat), (l.eraseIdx i).map f = (l.map f).eraseIdx i
  | [], _ => by simp
  | _ :: _, 0 => by simp
  | a :: l, i + 1 => by simp [List.eraseIdx_cons_succ, map_eraseIdx f l i]
theorem gm_no {es : Array MapEntry} {x : Value} (h : ∀ p ∈ es.toList.map (fun e => (e.key, e.val)), p.1 ≠ x) : ∀ y ∈ es.toList, y.key ≠ x := fun y hy => h (y.key, y.val) (List.mem_map.2 ⟨y, hy, rfl⟩)

theorem GMap.look_hit (h : GMap P k w b D) (K : Maps.Keyed P k) (ht : P.underlying t = some (.map k e)) {i : Nat} {x v : Value} (hi : D[i]? = some (x, v)) (c : Bool) :
    (Instr.lookup t (.map (some b)) x c).run P w = .ok (if c then .tuple #[v, .bool true] else v) w := by
  obtain ⟨es, cl, hb, hs, hk, rfl⟩ := h
  obtain ⟨e0, h1, rfl, rfl⟩ := gm_at hi
  obtain ⟨kl, hkl⟩ := hk e0 (List.mem_of_getElem? (by simpa using h1))
  exact lookup_hit K ht hs hk hkl h1 rfl c w hb
theorem GMap.look_miss (h : GMap P k w b D) (K : Maps.Keyed P k) (ht : P.underlying t = some (.map k e)) {z : Value} (hz : ∀ w, (zeroValue e).run P w = .ok z w) {x : Value} {kl : Lit} (hx : keyOf P k x = some kl) (hn : ∀ p ∈ D, p.1 ≠ x) (c : Bool) :
    (Instr.lookup t (.map (some b)) x c).run P w = .ok (if c then .tuple #[z, .bool false] else z) w := by
  obtain ⟨es, cl, hb, hs, hk, rfl⟩ := h
  exact lookup_miss K ht hz hk hx (gm_no hn) c w hb
theorem setBlock_mod (w : World) (b : Nat) (o : Obj) : Mod (fun j => j = b) w (setBlock w b o) := Mod.setBlock (F := fun j => j = b) (Mod.refl _ _) (.inr rfl) o
theorem GMap.put_hit (h : GMap P k w b D) (K : Maps.Keyed P k) (ht : P.underlying t = some (.map k e)) {i : Nat} {x v : Value} (hi : D[i]? = some (x, v)) (v' : Value) :
    ∃ w', (Instr.mapUpdate t (.map (some b)) x v').run P w = .ok () w' ∧ GMap P k w' b (D.set i (x, v')) ∧ Mod (fun j => j = b) w w' ∧ w'.heap.size = w.heap.size := by
  obtain ⟨es, cl, hb, hs, hk, rfl⟩ := h
  obtain ⟨e0, h1, rfl, rfl⟩ := gm_at hi
  obtain ⟨kl, hkl⟩ := hk e0 (List.mem_of_getElem? (by simpa using h1))
  have hlt := (Array.getElem?_eq_some_iff.1 h1).1
  have hl : (es.modify i (fun y => { y with val := v' })).toList = es.toList.set i { e0 with val := v' } := by
    apply List.ext_getElem?
    intro j
    have h1' : es.toList[i]? = some e0 := by simpa using h1
    simp only [Array.getElem?_toList, Array.getElem?_modify, List.getElem?_set, Array.length_toList]
    by_cases hj : i = j
    · subst hj
      have h2 : es[i] = e0 := (Array.getElem?_eq_some_iff.1 h1).2
      simp [hlt, h2]
    · simp [hj]
  refine ⟨_, mapUpdate_hit K ht hs hk hkl h1 rfl v' w hb, ⟨_, cl, heap_setBlock_self _ (lt_of_block hb), stamped_modify hs i _ (fun _ _ => rfl) (fun _ _ _ => rfl), ?_, ?_⟩, setBlock_mod _ _ _, size_setBlock _⟩
  · intro y hy
    rw [hl] at hy
    rcases List.mem_or_eq_of_mem_set hy with h2 | rfl
    · exact hk y h2
    · exact ⟨kl, hkl⟩
  · rw [hl, List.map_set]
theorem GMap.put_miss (h : GMap P k w b D) (K : Maps.Keyed P k) (ht : P.underlying t = some (.map k e)) {x : Value} {kl : Lit} (hx : keyOf P k x = some kl) (hn : ∀ p ∈ D, p.1 ≠ x) (v : Value) :
    ∃ w', (Instr.mapUpdate t (.map (some b)) x v).run P w = .ok () w' ∧ GMap P k w' b (D ++ [(x, v)]) ∧ Mod (fun j => j = b) w w' ∧ w'.heap.size = w.heap.size := by
  obtain ⟨es, cl, hb, hs, hk, rfl⟩ := h
  refine ⟨_, mapUpdate_miss K ht hk hx (gm_no hn) v w hb, ⟨_, _, heap_setBlock_self _ (lt_of_block hb), stamped_push (val := v) hs (gm_no hn), ?_, by simp⟩, setBlock_mod _ _ _, size_setBlock _⟩
  intro y hy
  simp only [Array.toList_push, List.mem_append, List.mem_singleton] at hy
  rcases hy with h2 | rfl
  · exact hk y h2
  · exact ⟨kl, hx⟩
theorem GMap.del_hit (h : GMap P k w b D) (K : Maps.Keyed P k) (ht : P.underlying t = some (.map k e)) {i : Nat} {x v : Value} (hi : D[i]? = some (x, v)) :
    ∃ w', (∀ ty, (Builtin.delete_ #[t, k] ty #[.map (some b), x]).run P w = .ok (.tuple #[]) w') ∧ GMap P k w' b (D.eraseIdx i) ∧ Mod (fun j => j = b) w w' ∧ w'.heap.size = w.heap.size := by
  obtain ⟨es, cl, hb, hs, hk, rfl⟩ := h
  obtain ⟨e0, h1, rfl, rfl⟩ := gm_at hi
  obtain ⟨kl, hkl⟩ := hk e0 (List.mem_of_getElem? (by simpa using h1))
  have hl : (es.eraseIdxIfInBounds i).toList = es.toList.eraseIdx i := by
    have hlt := (Array.getElem?_eq_some_iff.1 h1).1
    simp [Array.eraseIdxIfInBounds, hlt]
  refine ⟨_, fun ty => delete_hit K ht hs hk hkl h1 rfl w hb, ⟨_, cl, heap_setBlock_self _ (lt_of_block hb), stamped_erase hs i, ?_, ?_⟩, setBlock_mod _ _ _, size_setBlock _⟩
  · intro y hy
    rw [hl] at hy
    exact hk y (List.mem_of_mem_eraseIdx hy)
  · rw [hl]
    exact map_eraseIdx _ _ _
theorem GMap.del_miss (h : GMap P k w b D) (K : Maps.Keyed P k) (ht : P.underlying t = some (.map k e)) {x : Value} {kl : Lit} (hx : keyOf P k x = some kl) (hn : ∀ p ∈ D, p.1 ≠ x) (ty : TypeId) :
    (Builtin.delete_ #[t, k] ty #[.map (some b), x]).run P w = .ok (.tuple #[]) w := by
  obtain ⟨es, cl, hb, hs, hk, rfl⟩ := h
  exact delete_miss K ht hk hx (gm_no hn) w hb
theorem GMap.len (h : GMap P k w b D) (ht : P.underlying t = some (.map k e)) (ty : TypeId) : (Builtin.len_ #[t] ty #[.map (some b)]).run P w = .ok (.int .i64 D.length) w := by
  obtain ⟨es, cl, hb, hs, hk, rfl⟩ := h
  have := len_map (ty := ty) ht es cl w hb
  simpa using this
end

end Go.Proofs.Ytimbhkbdmcbodaa
