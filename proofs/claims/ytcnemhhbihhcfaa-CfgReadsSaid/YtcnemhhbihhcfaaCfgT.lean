/-
  Package cfg: a tenant is written: the coder's bytes grow by the tenant's.
-/
import Derived.Test.YtcnemhhbihhcfaaCfgS
namespace Go.Proofs.Ytcnemhhbihhcfaa
open Go.RowKit
set_option linter.unusedVariables false

theorem nums4_length (l : List Nat) : (nums4 l).length = 4 * l.length := by
  induction l with
  | nil => rfl
  | cons x m ih => simp only [nums4, List.flatMap_cons, List.length_append, be_length, List.length_cons] at ih ⊢; omega
theorem prs8_length (l : List Pr) : (prs8 l).length = 8 * l.length := by
  induction l with
  | nil => rfl
  | cons x m ih => simp only [prs8, List.flatMap_cons, List.length_append, be_length, List.length_cons] at ih ⊢; omega
theorem wfields_len (t : Ten) : ∀ x ∈ wfields t, x.length ≤ 2040 := by
  intro x hx
  simp only [wfields, List.mem_cons, List.mem_nil_iff, or_false] at hx
  rcases hx with rfl | rfl | rfl | rfl | rfl | rfl | rfl | rfl | rfl | rfl | rfl | rfl | rfl | rfl | rfl | rfl | rfl | rfl | rfl <;>
    simp only [nameB', be_length, nums4_length, prs8_length, List.length_append, List.length_take, K8.l, M6.l, List.length_cons, List.length_nil] <;> omega
theorem flatten_len : ∀ (l : List (List UInt8)) (m : Nat), (∀ x ∈ l, x.length ≤ m) → l.flatten.length ≤ l.length * m
  | [], m, _ => by simp
  | x :: l, m, h => by
    rw [List.flatten_cons, List.length_append, List.length_cons, Nat.succ_mul]
    have := h x (by simp)
    have := flatten_len l m (fun y hy => h y (by simp [hy]))
    omega
theorem wpre_len (L : List UInt8) (t : Ten) (k : Nat) (hk : k ≤ 19) : (wpre L t k).length ≤ L.length + 40000 := by
  rw [wpre, foldl_app, List.length_append]
  have := flatten_len ((wfields t).take k) 2040 (fun x hx => wfields_len t x (List.mem_of_mem_take hx))
  have h2 : ((wfields t).take k).length ≤ k := List.length_take_le _ _
  have h3 : ((wfields t).take k).length * 2040 ≤ 19 * 2040 := Nat.mul_le_mul_right _ (by omega)
  omega
theorem wten_len (t : Ten) : (wten t).length ≤ 40000 := by
  have := wpre_len [] t 19 (Nat.le_refl _)
  rw [wpre_all] at this
  simpa using this

theorem ti_step {w0 : World} {n C base T o : Nat} {v0 : Value} {pre post : List Value} {tt : TypeId} {vp vs vt : Value} {t : Ten} {L : List UInt8} (g : TG w0 n C base T o v0 pre post tt vp vs vt t) (hL : L.length ≤ 79000000) :
    ∀ k w1 f c, tenFn[k]? = some f → (tenCap n)[k]? = some c → TI w0 n C base T v0 pre post tt vp vs vt t L k w1 → w1.heap[n + 6]? = some (.cells (tenRow n).toArray 1 (0, 0)) ∧ Calls Try.prog f c w1 fun e w' => e = .returned (.tuple #[]) ∧ TI w0 n C base T v0 pre post tt vp vs vt t L (k + 1) w' := by
  intro k w1 f c hf hc h
  have hk : k < 19 := (List.getElem?_eq_some_iff.1 hf).1
  have hl : (wpre L t k).length ≤ 80000000 := Nat.le_trans (wpre_len L t k (by omega)) (by omega)
  have hl0 := hk
  refine ⟨?_, ?_⟩
  · obtain ⟨v, h⟩ := h
    exact h.keep g g.rw6 (by omega) (by omega)
  have hor : k = 0 ∨ k = 1 ∨ k = 2 ∨ k = 3 ∨ k = 4 ∨ k = 5 ∨ k = 6 ∨ k = 7 ∨ k = 8 ∨ k = 9 ∨ k = 10 ∨ k = 11 ∨ k = 12 ∨ k = 13 ∨ k = 14 ∨ k = 15 ∨ k = 16 ∨ k = 17 ∨ k = 18 := by omega
  clear hk hl0
  rcases hor with rfl | rfl | rfl | rfl | rfl | rfl | rfl | rfl | rfl | rfl | rfl | rfl | rfl | rfl | rfl | rfl | rfl | rfl | rfl
  · obtain rfl : 51 = f := Option.some.inj hf; obtain rfl : #[bxv n, bxv (n + 1)] = c := Option.some.inj hc; exact ti_0 g hl h
  · obtain rfl : 52 = f := Option.some.inj hf; obtain rfl : #[bxv n, bxv (n + 1)] = c := Option.some.inj hc; exact ti_1 g hl h
  · obtain rfl : 53 = f := Option.some.inj hf; obtain rfl : #[bxv n, bxv (n + 1)] = c := Option.some.inj hc; exact ti_2 g hl h
  · obtain rfl : 55 = f := Option.some.inj hf; obtain rfl : #[bxv n, bxv (n + 1)] = c := Option.some.inj hc; exact ti_3 g hl h
  · obtain rfl : 56 = f := Option.some.inj hf; obtain rfl : #[bxv n, bxv (n + 1)] = c := Option.some.inj hc; exact ti_4 g hl h
  · obtain rfl : 57 = f := Option.some.inj hf; obtain rfl : #[bxv n, bxv (n + 1)] = c := Option.some.inj hc; exact ti_5 g hl h
  · obtain rfl : 58 = f := Option.some.inj hf; obtain rfl : #[bxv n, bxv (n + 1)] = c := Option.some.inj hc; exact ti_6 g hl h
  · obtain rfl : 60 = f := Option.some.inj hf; obtain rfl : #[bxv n, bxv (n + 1)] = c := Option.some.inj hc; exact ti_7 g hl h
  · obtain rfl : 61 = f := Option.some.inj hf; obtain rfl : #[bxv n, bxv (n + 1)] = c := Option.some.inj hc; exact ti_8 g hl h
  · obtain rfl : 63 = f := Option.some.inj hf; obtain rfl : #[bxv n, bxv (n + 1)] = c := Option.some.inj hc; exact ti_9 g hl h
  · obtain rfl : 64 = f := Option.some.inj hf; obtain rfl : #[bxv n, bxv (n + 1)] = c := Option.some.inj hc; exact ti_10 g hl h
  · obtain rfl : 65 = f := Option.some.inj hf; obtain rfl : #[bxv n, bxv (n + 1)] = c := Option.some.inj hc; exact ti_11 g hl h
  · obtain rfl : 66 = f := Option.some.inj hf; obtain rfl : #[bxv n, bxv (n + 1)] = c := Option.some.inj hc; exact ti_12 g hl h
  · obtain rfl : 67 = f := Option.some.inj hf; obtain rfl : #[bxv n, bxv (n + 1), bxv (n + 2)] = c := Option.some.inj hc; exact ti_13 g hl h
  · obtain rfl : 69 = f := Option.some.inj hf; obtain rfl : #[bxv n, bxv (n + 1), bxv (n + 3)] = c := Option.some.inj hc; exact ti_14 g hl h
  · obtain rfl : 70 = f := Option.some.inj hf; obtain rfl : #[bxv n, bxv (n + 1), bxv (n + 4)] = c := Option.some.inj hc; exact ti_15 g hl h
  · obtain rfl : 71 = f := Option.some.inj hf; obtain rfl : #[bxv n, bxv (n + 2), bxv (n + 1)] = c := Option.some.inj hc; exact ti_16 g hl h
  · obtain rfl : 74 = f := Option.some.inj hf; obtain rfl : #[bxv n, bxv (n + 3), bxv (n + 1), bxv (n + 5)] = c := Option.some.inj hc; exact ti_17 g hl h
  · obtain rfl : 76 = f := Option.some.inj hf; obtain rfl : #[bxv n, bxv (n + 4), bxv (n + 1), bxv (n + 5)] = c := Option.some.inj hc; exact ti_18 g hl h

/-- A TENANT WRITTEN. -/
theorem tenant_wr {w : World} {C base T o : Nat} {L : List UInt8} {v : Value} {pre post : List Value} {tt : TypeId} {vp vs vt : Value} {t : Ten} (h : Wr w C base L v) (hb : base ≤ w.heap.size) (hL : L.length ≤ 79000000)
    (hT : w.heap[T]? = some (.cells (pre ++ (t.cells vp vs vt).toList ++ post).toArray tt (0, 0))) (ho : pre.length = o) (hTC : T ≠ C) (hTb : base ≤ T) (hCb : base ≤ C) (ht5 : tt ≠ 5) (hok : t.Ok) (hnm : t.name.length ≤ 100000000)
    (hrows : ∃ P p Q q R r, vp = .slice P t.pool.length p ∧ vs = .slice Q t.statics.length q ∧ vt = .slice R t.twices.length r ∧ RowAt (· < base) w P (numCells t.pool) ∧ RowAt (· < base) w Q (prCells t.statics) ∧ RowAt (· < base) w R (prCells t.twices)) :
    Calls Try.prog 35 #[.pointer (some ⟨C, 0, none⟩), .pointer (some ⟨T, o, none⟩)] w fun e w' => e = .returned (.tuple #[]) ∧ ∃ v', Wr w' C base (L ++ wten t) v' ∧
      w'.heap[T]? = some (.cells (pre ++ (t.cut.cells vp vs vt).toList ++ post).toArray tt (0, 0)) ∧ Mod (fun b => b = C ∨ v.ownBlock = some b ∨ b = T) w w' ∧ (∀ g, v'.ownBlock = some g → v.ownBlock = some g ∨ w.heap.size ≤ g) := by
  have hC := lt_of_block h.blk
  have hTl := lt_of_block hT
  refine tenant_walk (fun w' => ∃ v', Wr w' C base (L ++ wten t) v' ∧ w'.heap[T]? = some (.cells (pre ++ (t.cut.cells vp vs vt).toList ++ post).toArray tt (0, 0)) ∧ Mod (fun b => b = C ∨ v.ownBlock = some b ∨ b = T) w w' ∧ (∀ g, v'.ownBlock = some g → v.ownBlock = some g ∨ w.heap.size ≤ g))
    (fun w0 hm hbx h2 h3 h4 h5 h6 => ?_)
  have hk : Keeps (· < base) w w0 := hm.keeps (fun _ _ _ f => f)
  have g : TG w0 w.heap.size C base T o v pre post tt vp vs vt t :=
    { bx := hbx, pr := h5, rw6 := h6, C_lt := hC, T_lt := hTl, TC := hTC, T_ge := hTb, own := fun g hg => h.lt hg, base_le := hb, C_ge := hCb, tt5 := ht5, ho := ho, ok := hok, name := hnm,
      rows := by obtain ⟨P, p, Q, q, R, r, e1, e2, e3, r1, r2, r3⟩ := hrows; exact ⟨P, p, Q, q, R, r, e1, e2, e3, r1.keeps hk, r2.keeps hk, r3.keeps hk⟩ }
  refine ⟨TI w0 w.heap.size C base T v pre post tt vp vs vt t L, ?_, ti_step g hL, fun w' ⟨v', h'⟩ => ?_⟩
  · exact ⟨v, ⟨h.ext hm, fun _ hg => .inl hg, hm.obj hT id, Mod.refl _ _, h2, h3, h4⟩⟩
  · rw [TS_out] at h'
    have hsz := hm.size
    refine ⟨v', h'.wr, h'.ten, ?_, fun g hg => ?_⟩
    · refine (hm.mono (fun _ f => f.elim)).trans' h'.mod (fun i hi f => ?_)
      rcases f with f | f | f | f
      · exact .inl f
      · exact .inr (.inl f)
      · exact .inr (.inr f)
      · omega
    · rcases h'.row g hg with f | f
      · exact .inl f
      · exact .inr (by omega)

end Go.Proofs.Ytcnemhhbihhcfaa
