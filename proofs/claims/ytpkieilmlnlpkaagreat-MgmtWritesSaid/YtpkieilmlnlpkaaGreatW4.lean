/-
  CfgS, CfgT, CfgU, RdA, RdP, RdB in one text (pack.py).
-/
import Derived.Test.YtpkieilmlnlpkaaGreatW3
namespace Go.Proofs.YtpkieilmlnlpkaaGreat

section
attribute [local go_sem] stPair gtPair gtK8 gtM6 run_store_func
attribute [local go_sem high] neqPair eqK8 eqM6
open Go.RowKit
set_option linter.unusedVariables false
/-- A number as its low 64 bits. -/
def u64n (z : Int) : Nat := (IntKind.u64.wrap z).toNat
theorem u64n_cast (z : Int) : IntKind.u64.wrap z = (u64n z : Int) := by
  unfold u64n
  have : 0 ≤ IntKind.u64.wrap z := by simp [IntKind.wrap, IntKind.bits, IntKind.signed]; omega
  omega
/-- A tenant's bytes, field by field. -/
def wfields (t : Ten) : List (List UInt8) :=
  [nameB' t.name, be 4 t.vni, t.key.l, be 4 t.vtep, t.vmac.l, t.host.l, be 2 t.lo, be 2 t.hi, be 1 (u64n t.filter), be 2 (u64n t.sess), be 2 (u64n t.queue), be 4 t.rate, be 4 t.burst,
    be 1 (min t.pool.length 255), be 1 (min t.statics.length 255), be 1 (min t.twices.length 255), nums4 (t.pool.take 255), prs8 (t.statics.take 255), prs8 (t.twices.take 255)]
def wpre (L : List UInt8) (t : Ten) (k : Nat) : List UInt8 := ((wfields t).take k).foldl (· ++ ·) L
def wten (t : Ten) : List UInt8 := (wfields t).flatten
theorem foldl_app : ∀ (l : List (List UInt8)) (L : List UInt8), l.foldl (· ++ ·) L = L ++ l.flatten
  | [], L => by simp
  | x :: l, L => by rw [List.foldl_cons, foldl_app l]; simp
theorem wpre_all (L : List UInt8) (t : Ten) : wpre L t 19 = L ++ wten t := foldl_app _ _
/-- The name, cut. -/
def Ten.cut (t : Ten) : Ten := { t with name := t.name.take 255 }
/-- Each number lies in its type. -/
structure Ten.Ok (t : Ten) : Prop where
  vni : t.vni < 4294967296
  vtep : t.vtep < 4294967296
  lo : t.lo < 65536
  hi : t.hi < 65536
  rate : t.rate < 4294967296
  burst : t.burst < 4294967296
  pool : ∀ x ∈ t.pool, x < 4294967296
  statics : ∀ x ∈ t.statics, x.a < 4294967296 ∧ x.b < 4294967296
  twices : ∀ x ∈ t.twices, x.a < 4294967296 ∧ x.b < 4294967296
theorem mid_get {pre X post : List Value} {o j : Nat} (ho : pre.length = o) (hj : j < X.length) : (pre ++ X ++ post)[o + j]? = X[j]? := by
  rw [List.append_assoc, List.getElem?_append_right (by omega), List.getElem?_append_left (by omega)]
  congr 1
  omega
theorem mid_set {pre X post : List Value} {o j : Nat} (ho : pre.length = o) (hj : j < X.length) (v : Value) : (pre ++ X ++ post).set (o + j) v = pre ++ X.set j v ++ post := by
  rw [List.append_assoc, List.set_append_right _ _ (by omega), List.set_append_left _ _ (by omega), List.append_assoc]
  congr 3
  omega
structure TW (w0 : World) (n C base T : Nat) (v0 : Value) (pre post : List Value) (tt : TypeId) (vp vs vt : Value) (t : Ten) (np ns nt : Nat) (X : List UInt8) (v : Value) (w : World) : Prop where
  wr : Wr w C base X v
  row : ∀ g, v.ownBlock = some g → v0.ownBlock = some g ∨ w0.heap.size ≤ g
  ten : w.heap[T]? = some (.cells (pre ++ (t.cells vp vs vt).toList ++ post).toArray tt (0, 0))
  mod : Mod (fun b => b = C ∨ v0.ownBlock = some b ∨ b = T ∨ n + 2 ≤ b ∧ b ≤ n + 4) w0 w
  hp : w.heap[n + 2]? = some (.cells #[.int .i64 (np : Int)] 3 (0, 0))
  hs : w.heap[n + 3]? = some (.cells #[.int .i64 (ns : Int)] 3 (0, 0))
  ht : w.heap[n + 4]? = some (.cells #[.int .i64 (nt : Int)] 3 (0, 0))
/-- What the walk's first world gives, and what the call was given. -/
structure TG (w0 : World) (n C base T o : Nat) (v0 : Value) (pre post : List Value) (tt : TypeId) (vp vs vt : Value) (t : Ten) : Prop where
  bx : Boxes w0 n (n + 1) C T o
  pr : w0.heap[n + 5]? = some (.cells #[.func (.func 62) #[] #[bxv n]] 120 (0, 0))
  rw6 : w0.heap[n + 6]? = some (.cells (tenRow n).toArray 1 (0, 0))
  C_lt : C < n
  T_lt : T < n
  TC : T ≠ C
  T_ge : base ≤ T
  own : ∀ g, v0.ownBlock = some g → base ≤ g ∧ g < n
  base_le : base ≤ n
  C_ge : base ≤ C
  tt5 : tt ≠ 5
  ho : pre.length = o
  ok : t.Ok
  name : t.name.length ≤ 100000000
  rows : ∃ P p Q q R r, vp = .slice P t.pool.length p ∧ vs = .slice Q t.statics.length q ∧ vt = .slice R t.twices.length r ∧ RowAt (· < base) w0 P (numCells t.pool) ∧ RowAt (· < base) w0 Q (prCells t.statics) ∧ RowAt (· < base) w0 R (prCells t.twices)
section
variable {w0 : World} {n C base T o : Nat} {v0 : Value} {pre post : List Value} {tt : TypeId} {vp vs vt : Value} {t t1 : Ten} {np ns nt : Nat} {X : List UInt8} {v : Value} {w : World}
theorem TG.gt (g : TG w0 n C base T o v0 pre post tt vp vs vt t) : n + 6 < w0.heap.size := lt_of_block g.rw6
theorem TW.keep (h : TW w0 n C base T v0 pre post tt vp vs vt t1 np ns nt X v w) (g : TG w0 n C base T o v0 pre post tt vp vs vt t) {b : Nat} {ob : Obj} (hb : w0.heap[b]? = some ob) (h1 : n ≤ b) (h2 : b < n + 2 ∨ n + 4 < b) : w.heap[b]? = some ob := by
  refine h.mod.obj hb ?_
  have := g.C_lt
  have := g.T_lt
  rintro (f | f | f | f)
  · omega
  · have := (g.own b f).2; omega
  · omega
  · omega
theorem TW.boxes (h : TW w0 n C base T v0 pre post tt vp vs vt t1 np ns nt X v w) (g : TG w0 n C base T o v0 pre post tt vp vs vt t) : Boxes w n (n + 1) C T o :=
  ⟨h.keep g g.bx.c (by omega) (by omega), h.keep g g.bx.t (by omega) (by omega)⟩
theorem TW.below (h : TW w0 n C base T v0 pre post tt vp vs vt t1 np ns nt X v w) (g : TG w0 n C base T o v0 pre post tt vp vs vt t) {A : Option Addr} {cs : List Value} (hr : RowAt (· < base) w0 A cs) : RowAt (fun b => b ≠ C ∧ v.ownBlock ≠ some b ∧ b < w.heap.size) w A cs := by
  have k1 := g.C_ge
  have k2 := g.base_le
  have k3 := g.gt
  have k4 := h.mod.size
  have k5 := g.T_ge
  refine (hr.keeps (h.mod.keeps (fun b hb hs f => ?_))).mono (fun b hb hs => ⟨by omega, fun e => by have := (h.wr.lt e).1; omega, hb⟩)
  rcases f with f | f | f | f
  · omega
  · have := (g.own b f).1; omega
  · omega
  · omega
/-- What a step turned of v's, seen from the first world. -/
theorem TW.mod' (h : TW w0 n C base T v0 pre post tt vp vs vt t1 np ns nt X v w) {w' : World} {E : Nat → Prop} (hm : Mod (fun b => b = C ∨ v.ownBlock = some b ∨ E b) w w') (hE : ∀ b, E b → b = T ∨ n + 2 ≤ b ∧ b ≤ n + 4) :
    Mod (fun b => b = C ∨ v0.ownBlock = some b ∨ b = T ∨ n + 2 ≤ b ∧ b ≤ n + 4) w0 w' :=
  h.mod.trans' hm fun i hi f => by
    rcases f with f | f | f
    · exact .inl f
    · rcases h.row i f with f | f
      · exact .inr (.inl f)
      · omega
    · exact .inr (.inr (hE i f))
theorem TW.row' (h : TW w0 n C base T v0 pre post tt vp vs vt t1 np ns nt X v w) {v' : Value} (hr : ∀ g, v'.ownBlock = some g → v.ownBlock = some g ∨ w.heap.size ≤ g) : ∀ g, v'.ownBlock = some g → v0.ownBlock = some g ∨ w0.heap.size ≤ g := by
  intro g hg
  rcases hr g hg with f | f
  · exact h.row g f
  · exact .inr (Nat.le_trans h.mod.size f)
theorem TW.next (h : TW w0 n C base T v0 pre post tt vp vs vt t1 np ns nt X v w) (g : TG w0 n C base T o v0 pre post tt vp vs vt t) {X' : List UInt8} {v' : Value} {w' : World} (hw : Wr w' C base X' v') (hm : WMod C v w v' w') :
    TW w0 n C base T v0 pre post tt vp vs vt t1 np ns nt X' v' w' := by
  have k1 := g.C_lt
  exact ⟨hw, h.row' hm.row, hm.obj h.ten g.TC (h.wr.ne h.ten g.tt5), h.mod' (E := fun _ => False) (hm.mod.mono (fun i f => by rcases f with f | f; exact .inl f; exact .inr (.inl f))) (fun _ f => f.elim),
    hm.obj h.hp (by omega) (h.wr.ne h.hp (by decide)), hm.obj h.hs (by omega) (h.wr.ne h.hs (by decide)), hm.obj h.ht (by omega) (h.wr.ne h.ht (by decide))⟩
theorem TW.cell (h : TW w0 n C base T v0 pre post tt vp vs vt t1 np ns nt X v w) (g : TG w0 n C base T o v0 pre post tt vp vs vt t) {j : Nat} {u : Value} (hj : j < 33) (hu : (t1.cells vp vs vt).toList[j]? = some u) : w.cell? ⟨T, o + j, none⟩ = some u := by
  rw [blk_cell h.ten, List.getElem?_toArray, mid_get g.ho (by simpa [Ten.cells] using hj), hu]
theorem TW.neT (h : TW w0 n C base T v0 pre post tt vp vs vt t1 np ns nt X v w) (g : TG w0 n C base T o v0 pre post tt vp vs vt t) : v.ownBlock ≠ some T := h.wr.ne h.ten g.tt5
end
theorem take_min {α : Type} (l : List α) : l.take (min l.length 255) = l.take 255 := by
  rcases Nat.le_total l.length 255 with h | h
  · rw [Nat.min_eq_left h, List.take_of_length_le (Nat.le_refl _), List.take_of_length_le h]
  · rw [Nat.min_eq_right h]
/-- The state behind k steps. -/
def TS (t : Ten) (L : List UInt8) (k : Nat) : Ten × Nat × Nat × Nat × List UInt8 :=
  (if k = 0 then t else t.cut, if k ≤ 13 then 0 else min t.pool.length 255, if k ≤ 14 then 0 else min t.statics.length 255, if k ≤ 15 then 0 else min t.twices.length 255, wpre L t k)
def TI (w0 : World) (n C base T : Nat) (v0 : Value) (pre post : List Value) (tt : TypeId) (vp vs vt : Value) (t : Ten) (L : List UInt8) (k : Nat) (w : World) : Prop :=
  ∃ v, TW w0 n C base T v0 pre post tt vp vs vt (TS t L k).1 (TS t L k).2.1 (TS t L k).2.2.1 (TS t L k).2.2.2.1 (TS t L k).2.2.2.2 v w
section
variable {w0 : World} {n C base T o : Nat} {v0 : Value} {pre post : List Value} {tt : TypeId} {vp vs vt : Value} {t : Ten} {L : List UInt8} {v : Value} {w : World}
theorem TS_out (t : Ten) (L : List UInt8) : TS t L 19 = (t.cut, min t.pool.length 255, min t.statics.length 255, min t.twices.length 255, L ++ wten t) := by rw [← wpre_all]; rfl
theorem ti_0 (g : TG w0 n C base T o v0 pre post tt vp vs vt t) (hL : (wpre L t 0).length ≤ 80000000) (h : TI w0 n C base T v0 pre post tt vp vs vt t L 0 w) :
    Calls Tryz.prog 64 #[bxv n, bxv (n + 1)] w fun e w' => e = .returned (.tuple #[]) ∧ TI w0 n C base T v0 pre post tt vp vs vt t L 1 w' := by
  obtain ⟨v, h⟩ := h
  replace h : TW w0 n C base T v0 pre post tt vp vs vt t 0 0 0 (wpre L t 0) v w := h
  have hb : base ≤ w.heap.size := by have := g.base_le; have := g.gt; have := h.mod.size; omega
  refine (ten_name_wr h.wr hb (by omega) (h.boxes g) t.name g.name h.ten (by rw [List.getElem?_toArray]; exact mid_get (j := 0) g.ho (by simp [Ten.cells])) g.TC (h.neT g)).mono fun e w' ⟨he, v', a1, a2, a3, a4⟩ => ⟨he, v', a1, h.row' a4, ?_, h.mod' (E := fun b => b = T) a3 (fun b e => .inl e), ?_, ?_, ?_⟩
  · rw [a2, List.setIfInBounds_toArray]
    have := mid_set (pre := pre) (X := (t.cells vp vs vt).toList) (post := post) (j := 0) g.ho (by simp [Ten.cells]) (.string (str (t.name.take 255)))
    rw [Nat.add_zero] at this
    rw [this]
    rfl
  · exact a3.obj h.hp (by have := g.C_lt; have := g.T_lt; rintro (f | f | f); omega; exact h.wr.ne h.hp (by decide) f; omega)
  · exact a3.obj h.hs (by have := g.C_lt; have := g.T_lt; rintro (f | f | f); omega; exact h.wr.ne h.hs (by decide) f; omega)
  · exact a3.obj h.ht (by have := g.C_lt; have := g.T_lt; rintro (f | f | f); omega; exact h.wr.ne h.ht (by decide) f; omega)
theorem ti_1 (g : TG w0 n C base T o v0 pre post tt vp vs vt t) (hL : (wpre L t 1).length ≤ 80000000) (h : TI w0 n C base T v0 pre post tt vp vs vt t L 1 w) :
    Calls Tryz.prog 65 #[bxv n, bxv (n + 1)] w fun e w' => e = .returned (.tuple #[]) ∧ TI w0 n C base T v0 pre post tt vp vs vt t L 2 w' := by
  obtain ⟨v, h⟩ := h
  replace h : TW w0 n C base T v0 pre post tt vp vs vt t.cut 0 0 0 (wpre L t 1) v w := h
  have hb : base ≤ w.heap.size := by have := g.base_le; have := g.gt; have := h.mod.size; omega
  exact (ten_vni_wr h.wr hb (by omega) (h.boxes g) (h.cell g (j := 1) (by decide) rfl) (wrap_u64 t.vni (Nat.lt_trans g.ok.vni (by decide))) g.TC (h.neT g)).mono fun e w' ⟨he, v', a1, a2⟩ => ⟨he, v', h.next g a1 a2⟩
theorem ti_2 (g : TG w0 n C base T o v0 pre post tt vp vs vt t) (hL : (wpre L t 2).length ≤ 80000000) (h : TI w0 n C base T v0 pre post tt vp vs vt t L 2 w) :
    Calls Tryz.prog 66 #[bxv n, bxv (n + 1)] w fun e w' => e = .returned (.tuple #[]) ∧ TI w0 n C base T v0 pre post tt vp vs vt t L 3 w' := by
  obtain ⟨v, h⟩ := h
  replace h : TW w0 n C base T v0 pre post tt vp vs vt t.cut 0 0 0 (wpre L t 2) v w := h
  have hb : base ≤ w.heap.size := by have := g.base_le; have := g.gt; have := h.mod.size; omega
  have hX : ∀ j u, (bcells t.key.l)[j]? = some u → w.cell? ⟨T, o + 2 + j, none⟩ = some u := by
    intro j u hj
    have hj8 : j < 8 := (List.getElem?_eq_some_iff.1 hj).1
    match j, hj8, hj with
    | 0, _, hj => exact h.cell g (j := 2) (by decide) hj
    | 1, _, hj => exact h.cell g (j := 3) (by decide) hj
    | 2, _, hj => exact h.cell g (j := 4) (by decide) hj
    | 3, _, hj => exact h.cell g (j := 5) (by decide) hj
    | 4, _, hj => exact h.cell g (j := 6) (by decide) hj
    | 5, _, hj => exact h.cell g (j := 7) (by decide) hj
    | 6, _, hj => exact h.cell g (j := 8) (by decide) hj
    | 7, _, hj => exact h.cell g (j := 9) (by decide) hj
  exact (ten_key_wr h.wr hb (by omega) (h.boxes g) t.key.l rfl hX).mono fun e w' ⟨he, v', a1, a2⟩ => ⟨he, v', h.next g a1 a2⟩
theorem ti_3 (g : TG w0 n C base T o v0 pre post tt vp vs vt t) (hL : (wpre L t 3).length ≤ 80000000) (h : TI w0 n C base T v0 pre post tt vp vs vt t L 3 w) :
    Calls Tryz.prog 68 #[bxv n, bxv (n + 1)] w fun e w' => e = .returned (.tuple #[]) ∧ TI w0 n C base T v0 pre post tt vp vs vt t L 4 w' := by
  obtain ⟨v, h⟩ := h
  replace h : TW w0 n C base T v0 pre post tt vp vs vt t.cut 0 0 0 (wpre L t 3) v w := h
  have hb : base ≤ w.heap.size := by have := g.base_le; have := g.gt; have := h.mod.size; omega
  exact (ten_vtep_wr h.wr hb (by omega) (h.boxes g) (h.cell g (j := 10) (by decide) rfl) (wrap_u64 t.vtep (Nat.lt_trans g.ok.vtep (by decide))) g.TC (h.neT g)).mono fun e w' ⟨he, v', a1, a2⟩ => ⟨he, v', h.next g a1 a2⟩
theorem ti_4 (g : TG w0 n C base T o v0 pre post tt vp vs vt t) (hL : (wpre L t 4).length ≤ 80000000) (h : TI w0 n C base T v0 pre post tt vp vs vt t L 4 w) :
    Calls Tryz.prog 69 #[bxv n, bxv (n + 1)] w fun e w' => e = .returned (.tuple #[]) ∧ TI w0 n C base T v0 pre post tt vp vs vt t L 5 w' := by
  obtain ⟨v, h⟩ := h
  replace h : TW w0 n C base T v0 pre post tt vp vs vt t.cut 0 0 0 (wpre L t 4) v w := h
  have hb : base ≤ w.heap.size := by have := g.base_le; have := g.gt; have := h.mod.size; omega
  have hX : ∀ j u, (bcells t.vmac.l)[j]? = some u → w.cell? ⟨T, o + 11 + j, none⟩ = some u := by
    intro j u hj
    have hj8 : j < 6 := (List.getElem?_eq_some_iff.1 hj).1
    match j, hj8, hj with
    | 0, _, hj => exact h.cell g (j := 11) (by decide) hj
    | 1, _, hj => exact h.cell g (j := 12) (by decide) hj
    | 2, _, hj => exact h.cell g (j := 13) (by decide) hj
    | 3, _, hj => exact h.cell g (j := 14) (by decide) hj
    | 4, _, hj => exact h.cell g (j := 15) (by decide) hj
    | 5, _, hj => exact h.cell g (j := 16) (by decide) hj
  exact (ten_vmac_wr h.wr hb (by omega) (h.boxes g) t.vmac.l rfl hX).mono fun e w' ⟨he, v', a1, a2⟩ => ⟨he, v', h.next g a1 a2⟩
theorem ti_5 (g : TG w0 n C base T o v0 pre post tt vp vs vt t) (hL : (wpre L t 5).length ≤ 80000000) (h : TI w0 n C base T v0 pre post tt vp vs vt t L 5 w) :
    Calls Tryz.prog 70 #[bxv n, bxv (n + 1)] w fun e w' => e = .returned (.tuple #[]) ∧ TI w0 n C base T v0 pre post tt vp vs vt t L 6 w' := by
  obtain ⟨v, h⟩ := h
  replace h : TW w0 n C base T v0 pre post tt vp vs vt t.cut 0 0 0 (wpre L t 5) v w := h
  have hb : base ≤ w.heap.size := by have := g.base_le; have := g.gt; have := h.mod.size; omega
  have hX : ∀ j u, (bcells t.host.l)[j]? = some u → w.cell? ⟨T, o + 17 + j, none⟩ = some u := by
    intro j u hj
    have hj8 : j < 6 := (List.getElem?_eq_some_iff.1 hj).1
    match j, hj8, hj with
    | 0, _, hj => exact h.cell g (j := 17) (by decide) hj
    | 1, _, hj => exact h.cell g (j := 18) (by decide) hj
    | 2, _, hj => exact h.cell g (j := 19) (by decide) hj
    | 3, _, hj => exact h.cell g (j := 20) (by decide) hj
    | 4, _, hj => exact h.cell g (j := 21) (by decide) hj
    | 5, _, hj => exact h.cell g (j := 22) (by decide) hj
  exact (ten_host_wr h.wr hb (by omega) (h.boxes g) t.host.l rfl hX).mono fun e w' ⟨he, v', a1, a2⟩ => ⟨he, v', h.next g a1 a2⟩
theorem ti_6 (g : TG w0 n C base T o v0 pre post tt vp vs vt t) (hL : (wpre L t 6).length ≤ 80000000) (h : TI w0 n C base T v0 pre post tt vp vs vt t L 6 w) :
    Calls Tryz.prog 71 #[bxv n, bxv (n + 1)] w fun e w' => e = .returned (.tuple #[]) ∧ TI w0 n C base T v0 pre post tt vp vs vt t L 7 w' := by
  obtain ⟨v, h⟩ := h
  replace h : TW w0 n C base T v0 pre post tt vp vs vt t.cut 0 0 0 (wpre L t 6) v w := h
  have hb : base ≤ w.heap.size := by have := g.base_le; have := g.gt; have := h.mod.size; omega
  exact (ten_lo_wr h.wr hb (by omega) (h.boxes g) (h.cell g (j := 24) (by decide) rfl) (wrap_u64 t.lo (Nat.lt_trans g.ok.lo (by decide))) g.TC (h.neT g)).mono fun e w' ⟨he, v', a1, a2⟩ => ⟨he, v', h.next g a1 a2⟩
theorem ti_7 (g : TG w0 n C base T o v0 pre post tt vp vs vt t) (hL : (wpre L t 7).length ≤ 80000000) (h : TI w0 n C base T v0 pre post tt vp vs vt t L 7 w) :
    Calls Tryz.prog 73 #[bxv n, bxv (n + 1)] w fun e w' => e = .returned (.tuple #[]) ∧ TI w0 n C base T v0 pre post tt vp vs vt t L 8 w' := by
  obtain ⟨v, h⟩ := h
  replace h : TW w0 n C base T v0 pre post tt vp vs vt t.cut 0 0 0 (wpre L t 7) v w := h
  have hb : base ≤ w.heap.size := by have := g.base_le; have := g.gt; have := h.mod.size; omega
  exact (ten_hi_wr h.wr hb (by omega) (h.boxes g) (h.cell g (j := 25) (by decide) rfl) (wrap_u64 t.hi (Nat.lt_trans g.ok.hi (by decide))) g.TC (h.neT g)).mono fun e w' ⟨he, v', a1, a2⟩ => ⟨he, v', h.next g a1 a2⟩
theorem ti_8 (g : TG w0 n C base T o v0 pre post tt vp vs vt t) (hL : (wpre L t 8).length ≤ 80000000) (h : TI w0 n C base T v0 pre post tt vp vs vt t L 8 w) :
    Calls Tryz.prog 74 #[bxv n, bxv (n + 1)] w fun e w' => e = .returned (.tuple #[]) ∧ TI w0 n C base T v0 pre post tt vp vs vt t L 9 w' := by
  obtain ⟨v, h⟩ := h
  replace h : TW w0 n C base T v0 pre post tt vp vs vt t.cut 0 0 0 (wpre L t 8) v w := h
  have hb : base ≤ w.heap.size := by have := g.base_le; have := g.gt; have := h.mod.size; omega
  exact (ten_filter_wr h.wr hb (by omega) (h.boxes g) (h.cell g (j := 26) (by decide) rfl) (u64n_cast _) g.TC (h.neT g)).mono fun e w' ⟨he, v', a1, a2⟩ => ⟨he, v', h.next g a1 a2⟩
theorem ti_9 (g : TG w0 n C base T o v0 pre post tt vp vs vt t) (hL : (wpre L t 9).length ≤ 80000000) (h : TI w0 n C base T v0 pre post tt vp vs vt t L 9 w) :
    Calls Tryz.prog 76 #[bxv n, bxv (n + 1)] w fun e w' => e = .returned (.tuple #[]) ∧ TI w0 n C base T v0 pre post tt vp vs vt t L 10 w' := by
  obtain ⟨v, h⟩ := h
  replace h : TW w0 n C base T v0 pre post tt vp vs vt t.cut 0 0 0 (wpre L t 9) v w := h
  have hb : base ≤ w.heap.size := by have := g.base_le; have := g.gt; have := h.mod.size; omega
  exact (ten_sess_wr h.wr hb (by omega) (h.boxes g) (h.cell g (j := 29) (by decide) rfl) (u64n_cast _) g.TC (h.neT g)).mono fun e w' ⟨he, v', a1, a2⟩ => ⟨he, v', h.next g a1 a2⟩
theorem ti_10 (g : TG w0 n C base T o v0 pre post tt vp vs vt t) (hL : (wpre L t 10).length ≤ 80000000) (h : TI w0 n C base T v0 pre post tt vp vs vt t L 10 w) :
    Calls Tryz.prog 77 #[bxv n, bxv (n + 1)] w fun e w' => e = .returned (.tuple #[]) ∧ TI w0 n C base T v0 pre post tt vp vs vt t L 11 w' := by
  obtain ⟨v, h⟩ := h
  replace h : TW w0 n C base T v0 pre post tt vp vs vt t.cut 0 0 0 (wpre L t 10) v w := h
  have hb : base ≤ w.heap.size := by have := g.base_le; have := g.gt; have := h.mod.size; omega
  exact (ten_queue_wr h.wr hb (by omega) (h.boxes g) (h.cell g (j := 30) (by decide) rfl) (u64n_cast _) g.TC (h.neT g)).mono fun e w' ⟨he, v', a1, a2⟩ => ⟨he, v', h.next g a1 a2⟩
theorem ti_11 (g : TG w0 n C base T o v0 pre post tt vp vs vt t) (hL : (wpre L t 11).length ≤ 80000000) (h : TI w0 n C base T v0 pre post tt vp vs vt t L 11 w) :
    Calls Tryz.prog 78 #[bxv n, bxv (n + 1)] w fun e w' => e = .returned (.tuple #[]) ∧ TI w0 n C base T v0 pre post tt vp vs vt t L 12 w' := by
  obtain ⟨v, h⟩ := h
  replace h : TW w0 n C base T v0 pre post tt vp vs vt t.cut 0 0 0 (wpre L t 11) v w := h
  have hb : base ≤ w.heap.size := by have := g.base_le; have := g.gt; have := h.mod.size; omega
  exact (ten_rate_wr h.wr hb (by omega) (h.boxes g) (h.cell g (j := 31) (by decide) rfl) (wrap_u64 t.rate (Nat.lt_trans g.ok.rate (by decide))) g.TC (h.neT g)).mono fun e w' ⟨he, v', a1, a2⟩ => ⟨he, v', h.next g a1 a2⟩
theorem ti_12 (g : TG w0 n C base T o v0 pre post tt vp vs vt t) (hL : (wpre L t 12).length ≤ 80000000) (h : TI w0 n C base T v0 pre post tt vp vs vt t L 12 w) :
    Calls Tryz.prog 79 #[bxv n, bxv (n + 1)] w fun e w' => e = .returned (.tuple #[]) ∧ TI w0 n C base T v0 pre post tt vp vs vt t L 13 w' := by
  obtain ⟨v, h⟩ := h
  replace h : TW w0 n C base T v0 pre post tt vp vs vt t.cut 0 0 0 (wpre L t 12) v w := h
  have hb : base ≤ w.heap.size := by have := g.base_le; have := g.gt; have := h.mod.size; omega
  exact (ten_burst_wr h.wr hb (by omega) (h.boxes g) (h.cell g (j := 32) (by decide) rfl) (wrap_u64 t.burst (Nat.lt_trans g.ok.burst (by decide))) g.TC (h.neT g)).mono fun e w' ⟨he, v', a1, a2⟩ => ⟨he, v', h.next g a1 a2⟩
theorem ti_13 (g : TG w0 n C base T o v0 pre post tt vp vs vt t) (hL : (wpre L t 13).length ≤ 80000000) (h : TI w0 n C base T v0 pre post tt vp vs vt t L 13 w) :
    Calls Tryz.prog 80 #[bxv n, bxv (n + 1), bxv (n + 2)] w fun e w' => e = .returned (.tuple #[]) ∧ TI w0 n C base T v0 pre post tt vp vs vt t L 14 w' := by
  obtain ⟨v, h⟩ := h
  replace h : TW w0 n C base T v0 pre post tt vp vs vt t.cut 0 0 0 (wpre L t 13) v w := h
  have hb : base ≤ w.heap.size := by have := g.base_le; have := g.gt; have := h.mod.size; omega
  obtain ⟨P, p, Q, q, R, r, e1, e2, e3, r1, r2, r3⟩ := g.rows
  subst e1 e2 e3
  refine (ten_npool_wr h.wr hb (by omega) (h.boxes g) (h.cell g (j := 23) (by decide) rfl) h.hp (by have := g.C_lt; omega) (h.wr.ne h.hp (by decide))).mono fun e w' ⟨he, v', a1, a2, a3, a4⟩ => ⟨he, v', a1, h.row' a4, ?_, h.mod' (E := fun b => b = n + 2) a3 (fun b e => .inr (by omega)), a2, ?_, ?_⟩
  · exact a3.obj h.ten (by have := g.C_lt; have := g.T_lt; rintro (f | f | f); exact g.TC f; exact h.neT g f; omega)
  · exact a3.obj h.hs (by have := g.C_lt; have := g.T_lt; rintro (f | f | f); omega; exact h.wr.ne h.hs (by decide) f; omega)
  · exact a3.obj h.ht (by have := g.C_lt; have := g.T_lt; rintro (f | f | f); omega; exact h.wr.ne h.ht (by decide) f; omega)
theorem ti_14 (g : TG w0 n C base T o v0 pre post tt vp vs vt t) (hL : (wpre L t 14).length ≤ 80000000) (h : TI w0 n C base T v0 pre post tt vp vs vt t L 14 w) :
    Calls Tryz.prog 82 #[bxv n, bxv (n + 1), bxv (n + 3)] w fun e w' => e = .returned (.tuple #[]) ∧ TI w0 n C base T v0 pre post tt vp vs vt t L 15 w' := by
  obtain ⟨v, h⟩ := h
  replace h : TW w0 n C base T v0 pre post tt vp vs vt t.cut (min t.pool.length 255) 0 0 (wpre L t 14) v w := h
  have hb : base ≤ w.heap.size := by have := g.base_le; have := g.gt; have := h.mod.size; omega
  obtain ⟨P, p, Q, q, R, r, e1, e2, e3, r1, r2, r3⟩ := g.rows
  subst e1 e2 e3
  refine (ten_nstatics_wr h.wr hb (by omega) (h.boxes g) (h.cell g (j := 27) (by decide) rfl) h.hs (by have := g.C_lt; omega) (h.wr.ne h.hs (by decide))).mono fun e w' ⟨he, v', a1, a2, a3, a4⟩ => ⟨he, v', a1, h.row' a4, ?_, h.mod' (E := fun b => b = n + 3) a3 (fun b e => .inr (by omega)), ?_, a2, ?_⟩
  · exact a3.obj h.ten (by have := g.C_lt; have := g.T_lt; rintro (f | f | f); exact g.TC f; exact h.neT g f; omega)
  · exact a3.obj h.hp (by have := g.C_lt; have := g.T_lt; rintro (f | f | f); omega; exact h.wr.ne h.hp (by decide) f; omega)
  · exact a3.obj h.ht (by have := g.C_lt; have := g.T_lt; rintro (f | f | f); omega; exact h.wr.ne h.ht (by decide) f; omega)
theorem ti_15 (g : TG w0 n C base T o v0 pre post tt vp vs vt t) (hL : (wpre L t 15).length ≤ 80000000) (h : TI w0 n C base T v0 pre post tt vp vs vt t L 15 w) :
    Calls Tryz.prog 83 #[bxv n, bxv (n + 1), bxv (n + 4)] w fun e w' => e = .returned (.tuple #[]) ∧ TI w0 n C base T v0 pre post tt vp vs vt t L 16 w' := by
  obtain ⟨v, h⟩ := h
  replace h : TW w0 n C base T v0 pre post tt vp vs vt t.cut (min t.pool.length 255) (min t.statics.length 255) 0 (wpre L t 15) v w := h
  have hb : base ≤ w.heap.size := by have := g.base_le; have := g.gt; have := h.mod.size; omega
  obtain ⟨P, p, Q, q, R, r, e1, e2, e3, r1, r2, r3⟩ := g.rows
  subst e1 e2 e3
  refine (ten_ntwices_wr h.wr hb (by omega) (h.boxes g) (h.cell g (j := 28) (by decide) rfl) h.ht (by have := g.C_lt; omega) (h.wr.ne h.ht (by decide))).mono fun e w' ⟨he, v', a1, a2, a3, a4⟩ => ⟨he, v', a1, h.row' a4, ?_, h.mod' (E := fun b => b = n + 4) a3 (fun b e => .inr (by omega)), ?_, ?_, a2⟩
  · exact a3.obj h.ten (by have := g.C_lt; have := g.T_lt; rintro (f | f | f); exact g.TC f; exact h.neT g f; omega)
  · exact a3.obj h.hp (by have := g.C_lt; have := g.T_lt; rintro (f | f | f); omega; exact h.wr.ne h.hp (by decide) f; omega)
  · exact a3.obj h.hs (by have := g.C_lt; have := g.T_lt; rintro (f | f | f); omega; exact h.wr.ne h.hs (by decide) f; omega)
theorem ti_16 (g : TG w0 n C base T o v0 pre post tt vp vs vt t) (hL : (wpre L t 16).length ≤ 80000000) (h : TI w0 n C base T v0 pre post tt vp vs vt t L 16 w) :
    Calls Tryz.prog 84 #[bxv n, bxv (n + 2), bxv (n + 1)] w fun e w' => e = .returned (.tuple #[]) ∧ TI w0 n C base T v0 pre post tt vp vs vt t L 17 w' := by
  obtain ⟨v, h⟩ := h
  replace h : TW w0 n C base T v0 pre post tt vp vs vt t.cut (min t.pool.length 255) (min t.statics.length 255) (min t.twices.length 255) (wpre L t 16) v w := h
  have hb : base ≤ w.heap.size := by have := g.base_le; have := g.gt; have := h.mod.size; omega
  obtain ⟨P, p, Q, q, R, r, e1, e2, e3, r1, r2, r3⟩ := g.rows
  have hlo := h.below g r1
  subst e1 e2 e3
  have hx := ten_lpool_wr h.wr hb (by omega) (h.boxes g) (by have := g.C_lt; omega) t.pool g.ok.pool (Nat.min_le_left _ 255) (Nat.le_trans (Nat.min_le_right _ _) (by decide)) h.hp hlo (h.cell g (j := 23) (by decide) rfl) g.TC (h.neT g)
  rw [take_min] at hx
  exact hx.mono fun e w' ⟨he, v', a1, a2⟩ => ⟨he, v', h.next g a1 a2⟩
theorem ti_17 (g : TG w0 n C base T o v0 pre post tt vp vs vt t) (hL : (wpre L t 17).length ≤ 80000000) (h : TI w0 n C base T v0 pre post tt vp vs vt t L 17 w) :
    Calls Tryz.prog 87 #[bxv n, bxv (n + 3), bxv (n + 1), bxv (n + 5)] w fun e w' => e = .returned (.tuple #[]) ∧ TI w0 n C base T v0 pre post tt vp vs vt t L 18 w' := by
  obtain ⟨v, h⟩ := h
  replace h : TW w0 n C base T v0 pre post tt vp vs vt t.cut (min t.pool.length 255) (min t.statics.length 255) (min t.twices.length 255) (wpre L t 17) v w := h
  have hb : base ≤ w.heap.size := by have := g.base_le; have := g.gt; have := h.mod.size; omega
  obtain ⟨P, p, Q, q, R, r, e1, e2, e3, r1, r2, r3⟩ := g.rows
  have hlo := h.below g r2
  subst e1 e2 e3
  have hx := ten_lstatics_wr h.wr hb (by omega) (h.boxes g) (by have := g.C_lt; omega) t.statics g.ok.statics (Nat.min_le_left _ 255) (Nat.le_trans (Nat.min_le_right _ _) (by decide)) h.hs (h.keep g g.pr (by omega) (by omega)) hlo (h.cell g (j := 27) (by decide) rfl) g.TC (h.neT g)
  rw [take_min] at hx
  exact hx.mono fun e w' ⟨he, v', a1, a2⟩ => ⟨he, v', h.next g a1 a2⟩
theorem ti_18 (g : TG w0 n C base T o v0 pre post tt vp vs vt t) (hL : (wpre L t 18).length ≤ 80000000) (h : TI w0 n C base T v0 pre post tt vp vs vt t L 18 w) :
    Calls Tryz.prog 89 #[bxv n, bxv (n + 4), bxv (n + 1), bxv (n + 5)] w fun e w' => e = .returned (.tuple #[]) ∧ TI w0 n C base T v0 pre post tt vp vs vt t L 19 w' := by
  obtain ⟨v, h⟩ := h
  replace h : TW w0 n C base T v0 pre post tt vp vs vt t.cut (min t.pool.length 255) (min t.statics.length 255) (min t.twices.length 255) (wpre L t 18) v w := h
  have hb : base ≤ w.heap.size := by have := g.base_le; have := g.gt; have := h.mod.size; omega
  obtain ⟨P, p, Q, q, R, r, e1, e2, e3, r1, r2, r3⟩ := g.rows
  have hlo := h.below g r3
  subst e1 e2 e3
  have hx := ten_ltwices_wr h.wr hb (by omega) (h.boxes g) (by have := g.C_lt; omega) t.twices g.ok.twices (Nat.min_le_left _ 255) (Nat.le_trans (Nat.min_le_right _ _) (by decide)) h.ht (h.keep g g.pr (by omega) (by omega)) hlo (h.cell g (j := 28) (by decide) rfl) g.TC (h.neT g)
  rw [take_min] at hx
  exact hx.mono fun e w' ⟨he, v', a1, a2⟩ => ⟨he, v', h.next g a1 a2⟩
end
end

section
attribute [local go_sem] stPair gtPair gtK8 gtM6 run_store_func
attribute [local go_sem high] neqPair eqK8 eqM6
open Go.RowKit
set_option linter.unusedVariables false
theorem nums4_length (l : List Nat) : (nums4 l).length = 4 * l.length := by
  induction l with
  | nil => rfl
  | cons x m ih => simp only [nums4, List.flatMap_cons, List.length_append, be_length, List.length_cons] at ih ⊢; omega
theorem prs8_length (l : List Pr) : (prs8 l).length = 8 * l.length := by
  induction l with
  | nil => rfl
  | cons x m ih => simp only [prs8, List.flatMap_cons, List.length_append, be_length, List.length_cons] at ih ⊢; omega
theorem wfields_len (t : Ten) : ∀ x ∈ wfields t, x.length ≤ 2040 := by
  intro x hx
  simp only [wfields, List.mem_cons, List.mem_nil_iff, or_false] at hx
  rcases hx with rfl | rfl | rfl | rfl | rfl | rfl | rfl | rfl | rfl | rfl | rfl | rfl | rfl | rfl | rfl | rfl | rfl | rfl | rfl <;>
    simp only [nameB', be_length, nums4_length, prs8_length, List.length_append, List.length_take, K8.l, M6.l, List.length_cons, List.length_nil] <;> omega
theorem flatten_len : ∀ (l : List (List UInt8)) (m : Nat), (∀ x ∈ l, x.length ≤ m) → l.flatten.length ≤ l.length * m
  | [], m, _ => by simp
  | x :: l, m, h => by
    rw [List.flatten_cons, List.length_append, List.length_cons, Nat.succ_mul]
    have := h x (by simp)
    have := flatten_len l m (fun y hy => h y (by simp [hy]))
    omega
theorem wpre_len (L : List UInt8) (t : Ten) (k : Nat) (hk : k ≤ 19) : (wpre L t k).length ≤ L.length + 40000 := by
  rw [wpre, foldl_app, List.length_append]
  have := flatten_len ((wfields t).take k) 2040 (fun x hx => wfields_len t x (List.mem_of_mem_take hx))
  have h2 : ((wfields t).take k).length ≤ k := List.length_take_le _ _
  have h3 : ((wfields t).take k).length * 2040 ≤ 19 * 2040 := Nat.mul_le_mul_right _ (by omega)
  omega
theorem wten_len (t : Ten) : (wten t).length ≤ 40000 := by
  have := wpre_len [] t 19 (Nat.le_refl _)
  rw [wpre_all] at this
  simpa using this
theorem ti_step {w0 : World} {n C base T o : Nat} {v0 : Value} {pre post : List Value} {tt : TypeId} {vp vs vt : Value} {t : Ten} {L : List UInt8} (g : TG w0 n C base T o v0 pre post tt vp vs vt t) (hL : L.length ≤ 79000000) :
    ∀ k w1 f c, tenFn[k]? = some f → (tenCap n)[k]? = some c → TI w0 n C base T v0 pre post tt vp vs vt t L k w1 → w1.heap[n + 6]? = some (.cells (tenRow n).toArray 1 (0, 0)) ∧ Calls Tryz.prog f c w1 fun e w' => e = .returned (.tuple #[]) ∧ TI w0 n C base T v0 pre post tt vp vs vt t L (k + 1) w' := by
  intro k w1 f c hf hc h
  have hk : k < 19 := (List.getElem?_eq_some_iff.1 hf).1
  have hl : (wpre L t k).length ≤ 80000000 := Nat.le_trans (wpre_len L t k (by omega)) (by omega)
  have hl0 := hk
  refine ⟨?_, ?_⟩
  · obtain ⟨v, h⟩ := h
    exact h.keep g g.rw6 (by omega) (by omega)
  have hor : k = 0 ∨ k = 1 ∨ k = 2 ∨ k = 3 ∨ k = 4 ∨ k = 5 ∨ k = 6 ∨ k = 7 ∨ k = 8 ∨ k = 9 ∨ k = 10 ∨ k = 11 ∨ k = 12 ∨ k = 13 ∨ k = 14 ∨ k = 15 ∨ k = 16 ∨ k = 17 ∨ k = 18 := by omega
  clear hk hl0
  rcases hor with rfl | rfl | rfl | rfl | rfl | rfl | rfl | rfl | rfl | rfl | rfl | rfl | rfl | rfl | rfl | rfl | rfl | rfl | rfl
  · obtain rfl : 64 = f := Option.some.inj hf; obtain rfl : #[bxv n, bxv (n + 1)] = c := Option.some.inj hc; exact ti_0 g hl h
  · obtain rfl : 65 = f := Option.some.inj hf; obtain rfl : #[bxv n, bxv (n + 1)] = c := Option.some.inj hc; exact ti_1 g hl h
  · obtain rfl : 66 = f := Option.some.inj hf; obtain rfl : #[bxv n, bxv (n + 1)] = c := Option.some.inj hc; exact ti_2 g hl h
  · obtain rfl : 68 = f := Option.some.inj hf; obtain rfl : #[bxv n, bxv (n + 1)] = c := Option.some.inj hc; exact ti_3 g hl h
  · obtain rfl : 69 = f := Option.some.inj hf; obtain rfl : #[bxv n, bxv (n + 1)] = c := Option.some.inj hc; exact ti_4 g hl h
  · obtain rfl : 70 = f := Option.some.inj hf; obtain rfl : #[bxv n, bxv (n + 1)] = c := Option.some.inj hc; exact ti_5 g hl h
  · obtain rfl : 71 = f := Option.some.inj hf; obtain rfl : #[bxv n, bxv (n + 1)] = c := Option.some.inj hc; exact ti_6 g hl h
  · obtain rfl : 73 = f := Option.some.inj hf; obtain rfl : #[bxv n, bxv (n + 1)] = c := Option.some.inj hc; exact ti_7 g hl h
  · obtain rfl : 74 = f := Option.some.inj hf; obtain rfl : #[bxv n, bxv (n + 1)] = c := Option.some.inj hc; exact ti_8 g hl h
  · obtain rfl : 76 = f := Option.some.inj hf; obtain rfl : #[bxv n, bxv (n + 1)] = c := Option.some.inj hc; exact ti_9 g hl h
  · obtain rfl : 77 = f := Option.some.inj hf; obtain rfl : #[bxv n, bxv (n + 1)] = c := Option.some.inj hc; exact ti_10 g hl h
  · obtain rfl : 78 = f := Option.some.inj hf; obtain rfl : #[bxv n, bxv (n + 1)] = c := Option.some.inj hc; exact ti_11 g hl h
  · obtain rfl : 79 = f := Option.some.inj hf; obtain rfl : #[bxv n, bxv (n + 1)] = c := Option.some.inj hc; exact ti_12 g hl h
  · obtain rfl : 80 = f := Option.some.inj hf; obtain rfl : #[bxv n, bxv (n + 1), bxv (n + 2)] = c := Option.some.inj hc; exact ti_13 g hl h
  · obtain rfl : 82 = f := Option.some.inj hf; obtain rfl : #[bxv n, bxv (n + 1), bxv (n + 3)] = c := Option.some.inj hc; exact ti_14 g hl h
  · obtain rfl : 83 = f := Option.some.inj hf; obtain rfl : #[bxv n, bxv (n + 1), bxv (n + 4)] = c := Option.some.inj hc; exact ti_15 g hl h
  · obtain rfl : 84 = f := Option.some.inj hf; obtain rfl : #[bxv n, bxv (n + 2), bxv (n + 1)] = c := Option.some.inj hc; exact ti_16 g hl h
  · obtain rfl : 87 = f := Option.some.inj hf; obtain rfl : #[bxv n, bxv (n + 3), bxv (n + 1), bxv (n + 5)] = c := Option.some.inj hc; exact ti_17 g hl h
  · obtain rfl : 89 = f := Option.some.inj hf; obtain rfl : #[bxv n, bxv (n + 4), bxv (n + 1), bxv (n + 5)] = c := Option.some.inj hc; exact ti_18 g hl h
/-- A TENANT WRITTEN. -/
theorem tenant_wr {w : World} {C base T o : Nat} {L : List UInt8} {v : Value} {pre post : List Value} {tt : TypeId} {vp vs vt : Value} {t : Ten} (h : Wr w C base L v) (hb : base ≤ w.heap.size) (hL : L.length ≤ 79000000)
    (hT : w.heap[T]? = some (.cells (pre ++ (t.cells vp vs vt).toList ++ post).toArray tt (0, 0))) (ho : pre.length = o) (hTC : T ≠ C) (hTb : base ≤ T) (hCb : base ≤ C) (ht5 : tt ≠ 5) (hok : t.Ok) (hnm : t.name.length ≤ 100000000)
    (hrows : ∃ P p Q q R r, vp = .slice P t.pool.length p ∧ vs = .slice Q t.statics.length q ∧ vt = .slice R t.twices.length r ∧ RowAt (· < base) w P (numCells t.pool) ∧ RowAt (· < base) w Q (prCells t.statics) ∧ RowAt (· < base) w R (prCells t.twices)) :
    Calls Tryz.prog 51 #[.pointer (some ⟨C, 0, none⟩), .pointer (some ⟨T, o, none⟩)] w fun e w' => e = .returned (.tuple #[]) ∧ ∃ v', Wr w' C base (L ++ wten t) v' ∧
      w'.heap[T]? = some (.cells (pre ++ (t.cut.cells vp vs vt).toList ++ post).toArray tt (0, 0)) ∧ Mod (fun b => b = C ∨ v.ownBlock = some b ∨ b = T) w w' ∧ (∀ g, v'.ownBlock = some g → v.ownBlock = some g ∨ w.heap.size ≤ g) := by
  have hC := lt_of_block h.blk
  have hTl := lt_of_block hT
  refine tenant_walk (fun w' => ∃ v', Wr w' C base (L ++ wten t) v' ∧ w'.heap[T]? = some (.cells (pre ++ (t.cut.cells vp vs vt).toList ++ post).toArray tt (0, 0)) ∧ Mod (fun b => b = C ∨ v.ownBlock = some b ∨ b = T) w w' ∧ (∀ g, v'.ownBlock = some g → v.ownBlock = some g ∨ w.heap.size ≤ g))
    (fun w0 hm hbx h2 h3 h4 h5 h6 => ?_)
  have hk : Keeps (· < base) w w0 := hm.keeps (fun _ _ _ f => f)
  have g : TG w0 w.heap.size C base T o v pre post tt vp vs vt t :=
    { bx := hbx, pr := h5, rw6 := h6, C_lt := hC, T_lt := hTl, TC := hTC, T_ge := hTb, own := fun g hg => h.lt hg, base_le := hb, C_ge := hCb, tt5 := ht5, ho := ho, ok := hok, name := hnm,
      rows := by obtain ⟨P, p, Q, q, R, r, e1, e2, e3, r1, r2, r3⟩ := hrows; exact ⟨P, p, Q, q, R, r, e1, e2, e3, r1.keeps hk, r2.keeps hk, r3.keeps hk⟩ }
  refine ⟨TI w0 w.heap.size C base T v pre post tt vp vs vt t L, ?_, ti_step g hL, fun w' ⟨v', h'⟩ => ?_⟩
  · exact ⟨v, ⟨h.ext hm, fun _ hg => .inl hg, hm.obj hT id, Mod.refl _ _, h2, h3, h4⟩⟩
  · rw [TS_out] at h'
    have hsz := hm.size
    refine ⟨v', h'.wr, h'.ten, ?_, fun g hg => ?_⟩
    · refine (hm.mono (fun _ f => f.elim)).trans' h'.mod (fun i hi f => ?_)
      rcases f with f | f | f | f
      · exact .inl f
      · exact .inr (.inl f)
      · exact .inr (.inr f)
      · omega
    · rcases h'.row g hg with f | f
      · exact .inl f
      · exact .inr (by omega)
end

section
attribute [local go_sem] stPair gtPair gtK8 gtM6 run_store_func
attribute [local go_sem high] neqPair eqK8 eqM6
open Go.RowKit
set_option linter.unusedVariables false
/-- Two boxes: the coder's address, the settings'. -/
structure BoxesC (w : World) (bc bt C T o : Nat) : Prop where
  c : w.heap[bc]? = some (.cells #[.pointer (some ⟨C, 0, none⟩)] 100 (0, 0))
  t : w.heap[bt]? = some (.cells #[.pointer (some ⟨T, o, none⟩)] 108 (0, 0))
set_option maxRecDepth 100000 in
theorem con_ip_wr {w : World} {C base : Nat} {L : List UInt8} {v : Value} {bc bt T o : Nat} {z : Int} {n : Nat} (h : Wr w C base L v) (hb : base ≤ w.heap.size) (hL : L.length ≤ 90000000) (hx : BoxesC w bc bt C T o)
    (hT : w.cell? ⟨T, o, none⟩ = some (.int .u32 z)) (hz : IntKind.u64.wrap z = n) (h1 : T ≠ C) (h2 : v.ownBlock ≠ some T) :
    Calls Tryz.prog 90 #[.pointer (some ⟨bc, 0, none⟩), .pointer (some ⟨bt, 0, none⟩)] w fun e w' => e = .returned (.tuple #[]) ∧ ∃ v', Wr w' C base (L ++ be 4 n) v' ∧ WMod C v w v' w' := by
  have hd : ∀ W, W = w.drew → Calls Tryz.prog 63 #[.pointer (some ⟨C, 0, none⟩), .int .i64 4, .pointer (some ⟨T, o, none⟩)] W fun e w' => e = .returned (.tuple #[]) ∧ ∃ v', Wr w' C base (L ++ be 4 n) v' ∧ WMod C v w v' w' := by
    intro W hW
    subst hW
    exact (num_u32_wr (w := w.drew) ⟨h.blk, h.own⟩ hb 4 n (by decide) hL hT hz h1 h2).mono fun e w' ⟨he, v', a1, a2⟩ => ⟨he, v', a1, ⟨(Mod.refl _ w).drew.trans a2.mod, a2.row⟩⟩
  have c0 := blk_cell hx.c 0
  have c1 := blk_cell hx.t 0
  simp at c0 c1
  have HD := Lib.hid hd
  clear h hb hL hx hT hz h1 h2 hd
  go_enter Tryz.func90, Tryz.ntmps90
  go_wp2_with fail
  go_region_law (first | (go_simp; go_at_call 63; refine (HD.out _ rfl).mono ?_; rintro e w1 ⟨rfl, v', hw1, hm1⟩; have HW := Lib.hid (And.intro hw1 hm1); clear hw1 hm1))
  all_goals
    go_wp2
    first | go_end0 | (simp only [Exit.inBlock, Exit.then]; refine bodyPost_ret (results_none rfl _ _ _) rfl ?_) | refine bodyPost_ret (results_none rfl _ _ _) rfl ?_
    exact ⟨rfl, v', HW.out.1, HW.out.2⟩
set_option maxRecDepth 100000 in
theorem con_ip_rd {S : Nat → Prop} {w : World} {C : Nat} {A : Option Addr} {c at_ : Nat} {sh : Bool} (B : List UInt8) (hb : w.heap[C]? = some (rdObj A B.length c at_ sh)) (hrow : RowAt S w A (bcells B)) (hat : at_ ≤ B.length) (hc : B.length ≤ c) (hB : B.length ≤ 100000000) (hS : ¬ S C) {bc bt T o : Nat} (hx : BoxesC w bc bt C T o)
    {cs : Array Value} {t : TypeId} (hT : w.heap[T]? = some (.cells cs t (0, 0))) (ho : o < cs.size) (h1 : T ≠ C) :
    Calls Tryz.prog 90 #[.pointer (some ⟨bc, 0, none⟩), .pointer (some ⟨bt, 0, none⟩)] w fun e w' => e = .returned (.tuple #[]) ∧ w'.heap[C]? = some (rdObj A B.length c (rtake B (at_, sh) 4).2.1 (rtake B (at_, sh) 4).2.2) ∧
      w'.heap[T]? = some (.cells (cs.setIfInBounds (o) (.int .u32 (beval (rtake B (at_, sh) 4).1))) t (0, 0)) ∧ Mod (fun b => b = C ∨ b = T) w w' := by
  have hd : ∀ W, W = w.drew → Calls Tryz.prog 63 #[.pointer (some ⟨C, 0, none⟩), .int .i64 4, .pointer (some ⟨T, o, none⟩)] W fun e w' => e = .returned (.tuple #[]) ∧ w'.heap[C]? = some (rdObj A B.length c (rtake B (at_, sh) 4).2.1 (rtake B (at_, sh) 4).2.2) ∧
      w'.heap[T]? = some (.cells (cs.setIfInBounds (o) (.int .u32 (beval (rtake B (at_, sh) 4).1))) t (0, 0)) ∧ Mod (fun b => b = C ∨ b = T) w w' := by
    intro W hW
    subst hW
    exact (num_u32_rd (w := w.drew) B hb (hrow.keeps (Mod.keeps (Mod.drew (Mod.refl No w)) (fun _ _ _ f => f))) hat hc hB 4 (by decide) hS hT ho h1).mono fun e w' ⟨e1, e2, e3, e4⟩ => ⟨e1, e2, e3, (Mod.refl _ w).drew.trans e4⟩
  have c0 := blk_cell hx.c 0
  have c1 := blk_cell hx.t 0
  simp at c0 c1
  obtain ⟨R, hR⟩ : ∃ R : World → Prop, R = fun w' => w'.heap[C]? = some (rdObj A B.length c (rtake B (at_, sh) 4).2.1 (rtake B (at_, sh) 4).2.2) ∧
      w'.heap[T]? = some (.cells (cs.setIfInBounds (o) (.int .u32 (beval (rtake B (at_, sh) 4).1))) t (0, 0)) ∧ Mod (fun b => b = C ∨ b = T) w w' := ⟨_, rfl⟩
  have hd' : ∀ W, W = w.drew → Calls Tryz.prog 63 #[.pointer (some ⟨C, 0, none⟩), .int .i64 4, .pointer (some ⟨T, o, none⟩)] W fun e w' => e = .returned (.tuple #[]) ∧ R w' := by
    rw [hR]; exact hd
  suffices hs : Calls Tryz.prog 90 #[.pointer (some ⟨bc, 0, none⟩), .pointer (some ⟨bt, 0, none⟩)] w fun e w' => e = .returned (.tuple #[]) ∧ R w' by
    rw [hR] at hs; exact hs
  have HD := Lib.hid hd'
  clear hb hrow hat hc hB hS hx hT ho hd hd' hR
  go_enter Tryz.func90, Tryz.ntmps90
  go_wp2_with fail
  go_region_law (first | (go_simp; go_at_call 63; refine (HD.out _ rfl).mono ?_; rintro e w1 ⟨rfl, hr⟩; have HW := Lib.hid hr; clear hr))
  all_goals
    go_wp2
    first | go_end0 | (simp only [Exit.inBlock, Exit.then]; refine bodyPost_ret (results_none rfl _ _ _) rfl ?_) | refine bodyPost_ret (results_none rfl _ _ _) rfl ?_
    exact ⟨rfl, HW.out⟩
set_option maxRecDepth 100000 in
theorem con_mac_wr {w : World} {C base : Nat} {L : List UInt8} {v : Value} {bc bt T o : Nat} (h : Wr w C base L v) (hb : base ≤ w.heap.size) (hL : L.length ≤ 90000000) (hx : BoxesC w bc bt C T o)
    (X : List UInt8) (hXl : X.length = 6) (hX : ∀ j u, (bcells X)[j]? = some u → w.cell? ⟨T, o + 1 + j, none⟩ = some u) :
    Calls Tryz.prog 91 #[.pointer (some ⟨bc, 0, none⟩), .pointer (some ⟨bt, 0, none⟩)] w fun e w' => e = .returned (.tuple #[]) ∧ ∃ v', Wr w' C base (L ++ X) v' ∧ WMod C v w v' w' := by
  have hd : ∀ W, W = w.drew → Calls Tryz.prog 67 #[.pointer (some ⟨C, 0, none⟩), .slice (some ⟨T, o + 1, none⟩) 6 6] W fun e w' => e = .returned (.tuple #[]) ∧ ∃ v', Wr w' C base (L ++ X) v' ∧ WMod C v w v' w' := by
    intro W hW
    subst hW
    have hby := bytes_wr (w := w.drew) ⟨h.blk, h.own⟩ hb X (by omega) ⟨T, o + 1, none⟩ 6 (fun j u hj => by rw [Addr.add_lit]; exact hX j u hj)
    rw [hXl] at hby
    exact hby.mono fun e w' ⟨he, v', a1, a2⟩ => ⟨he, v', a1, ⟨(Mod.refl _ w).drew.trans a2.mod, a2.row⟩⟩
  have c0 := blk_cell hx.c 0
  have c1 := blk_cell hx.t 0
  simp at c0 c1
  have HD := Lib.hid hd
  clear h hb hL hx hX hXl hd
  go_enter Tryz.func91, Tryz.ntmps91
  go_wp2_with fail
  go_region_law (first | (go_simp; go_at_call 67; refine (HD.out _ rfl).mono ?_; rintro e w1 ⟨rfl, v', hw1, hm1⟩; have HW := Lib.hid (And.intro hw1 hm1); clear hw1 hm1))
  all_goals
    go_wp2
    first | go_end0 | (simp only [Exit.inBlock, Exit.then]; refine bodyPost_ret (results_none rfl _ _ _) rfl ?_) | refine bodyPost_ret (results_none rfl _ _ _) rfl ?_
    exact ⟨rfl, v', HW.out.1, HW.out.2⟩
set_option maxRecDepth 100000 in
theorem con_mac_rd {S : Nat → Prop} {w : World} {C : Nat} {A : Option Addr} {c at_ : Nat} {sh : Bool} (B : List UInt8) (hb : w.heap[C]? = some (rdObj A B.length c at_ sh)) (hrow : RowAt S w A (bcells B)) (hat : at_ ≤ B.length) (hc : B.length ≤ c) (hB : B.length ≤ 100000000) (hS : ¬ S C) {bc bt T o : Nat} (hx : BoxesC w bc bt C T o)
    {cs : List Value} {t : TypeId} (hT : w.heap[T]? = some (.cells cs.toArray t (0, 0))) (ho : o + 1 + 6 ≤ cs.length) (h1 : T ≠ C) :
    Calls Tryz.prog 91 #[.pointer (some ⟨bc, 0, none⟩), .pointer (some ⟨bt, 0, none⟩)] w fun e w' => e = .returned (.tuple #[]) ∧ w'.heap[C]? = some (rdObj A B.length c (rtake B (at_, sh) 6).2.1 (rtake B (at_, sh) 6).2.2) ∧
      w'.heap[T]? = some (.cells (splice cs (o + 1) (bcells (rtake B (at_, sh) 6).1)).toArray t (0, 0)) ∧ Mod (fun b => b = C ∨ b = T) w w' := by
  obtain ⟨R, hR⟩ : ∃ R : World → Prop, R = fun w' => w'.heap[C]? = some (rdObj A B.length c (rtake B (at_, sh) 6).2.1 (rtake B (at_, sh) 6).2.2) ∧
      w'.heap[T]? = some (.cells (splice cs (o + 1) (bcells (rtake B (at_, sh) 6).1)).toArray t (0, 0)) ∧ Mod (fun b => b = C ∨ b = T) w w' := ⟨_, rfl⟩
  have hd : ∀ W, W = w.drew → Calls Tryz.prog 67 #[.pointer (some ⟨C, 0, none⟩), .slice (some ⟨T, o + 1, none⟩) 6 6] W fun e w' => e = .returned (.tuple #[]) ∧ R w' := by
    intro W hW
    subst hW
    rw [hR]
    exact (bytes_rd (w := w.drew) B hb (hrow.keeps (Mod.keeps (Mod.drew (Mod.refl No w)) (fun _ _ _ f => f))) hat hc hB 6 (by decide) hS hT ho h1).mono fun e w' ⟨e1, e2, e3, e4⟩ => ⟨e1, e2, e3, (Mod.refl _ w).drew.trans e4⟩
  have c0 := blk_cell hx.c 0
  have c1 := blk_cell hx.t 0
  simp at c0 c1
  suffices hs : Calls Tryz.prog 91 #[.pointer (some ⟨bc, 0, none⟩), .pointer (some ⟨bt, 0, none⟩)] w fun e w' => e = .returned (.tuple #[]) ∧ R w' by
    rw [hR] at hs; exact hs
  have HD := Lib.hid hd
  clear hb hrow hat hc hB hS hx hT ho hd hR
  go_enter Tryz.func91, Tryz.ntmps91
  go_wp2_with fail
  go_region_law (first | (go_simp; go_at_call 67; refine (HD.out _ rfl).mono ?_; rintro e w1 ⟨rfl, hr⟩; have HW := Lib.hid hr; clear hr))
  all_goals
    go_wp2
    first | go_end0 | (simp only [Exit.inBlock, Exit.then]; refine bodyPost_ret (results_none rfl _ _ _) rfl ?_) | refine bodyPost_ret (results_none rfl _ _ _) rfl ?_
    exact ⟨rfl, HW.out⟩
set_option maxRecDepth 100000 in
theorem con_omac_wr {w : World} {C base : Nat} {L : List UInt8} {v : Value} {bc bt T o : Nat} (h : Wr w C base L v) (hb : base ≤ w.heap.size) (hL : L.length ≤ 90000000) (hx : BoxesC w bc bt C T o)
    (X : List UInt8) (hXl : X.length = 6) (hX : ∀ j u, (bcells X)[j]? = some u → w.cell? ⟨T, o + 7 + j, none⟩ = some u) :
    Calls Tryz.prog 92 #[.pointer (some ⟨bc, 0, none⟩), .pointer (some ⟨bt, 0, none⟩)] w fun e w' => e = .returned (.tuple #[]) ∧ ∃ v', Wr w' C base (L ++ X) v' ∧ WMod C v w v' w' := by
  have hd : ∀ W, W = w.drew → Calls Tryz.prog 67 #[.pointer (some ⟨C, 0, none⟩), .slice (some ⟨T, o + 7, none⟩) 6 6] W fun e w' => e = .returned (.tuple #[]) ∧ ∃ v', Wr w' C base (L ++ X) v' ∧ WMod C v w v' w' := by
    intro W hW
    subst hW
    have hby := bytes_wr (w := w.drew) ⟨h.blk, h.own⟩ hb X (by omega) ⟨T, o + 7, none⟩ 6 (fun j u hj => by rw [Addr.add_lit]; exact hX j u hj)
    rw [hXl] at hby
    exact hby.mono fun e w' ⟨he, v', a1, a2⟩ => ⟨he, v', a1, ⟨(Mod.refl _ w).drew.trans a2.mod, a2.row⟩⟩
  have c0 := blk_cell hx.c 0
  have c1 := blk_cell hx.t 0
  simp at c0 c1
  have HD := Lib.hid hd
  clear h hb hL hx hX hXl hd
  go_enter Tryz.func92, Tryz.ntmps92
  go_wp2_with fail
  go_region_law (first | (go_simp; go_at_call 67; refine (HD.out _ rfl).mono ?_; rintro e w1 ⟨rfl, v', hw1, hm1⟩; have HW := Lib.hid (And.intro hw1 hm1); clear hw1 hm1))
  all_goals
    go_wp2
    first | go_end0 | (simp only [Exit.inBlock, Exit.then]; refine bodyPost_ret (results_none rfl _ _ _) rfl ?_) | refine bodyPost_ret (results_none rfl _ _ _) rfl ?_
    exact ⟨rfl, v', HW.out.1, HW.out.2⟩
set_option maxRecDepth 100000 in
theorem con_omac_rd {S : Nat → Prop} {w : World} {C : Nat} {A : Option Addr} {c at_ : Nat} {sh : Bool} (B : List UInt8) (hb : w.heap[C]? = some (rdObj A B.length c at_ sh)) (hrow : RowAt S w A (bcells B)) (hat : at_ ≤ B.length) (hc : B.length ≤ c) (hB : B.length ≤ 100000000) (hS : ¬ S C) {bc bt T o : Nat} (hx : BoxesC w bc bt C T o)
    {cs : List Value} {t : TypeId} (hT : w.heap[T]? = some (.cells cs.toArray t (0, 0))) (ho : o + 7 + 6 ≤ cs.length) (h1 : T ≠ C) :
    Calls Tryz.prog 92 #[.pointer (some ⟨bc, 0, none⟩), .pointer (some ⟨bt, 0, none⟩)] w fun e w' => e = .returned (.tuple #[]) ∧ w'.heap[C]? = some (rdObj A B.length c (rtake B (at_, sh) 6).2.1 (rtake B (at_, sh) 6).2.2) ∧
      w'.heap[T]? = some (.cells (splice cs (o + 7) (bcells (rtake B (at_, sh) 6).1)).toArray t (0, 0)) ∧ Mod (fun b => b = C ∨ b = T) w w' := by
  obtain ⟨R, hR⟩ : ∃ R : World → Prop, R = fun w' => w'.heap[C]? = some (rdObj A B.length c (rtake B (at_, sh) 6).2.1 (rtake B (at_, sh) 6).2.2) ∧
      w'.heap[T]? = some (.cells (splice cs (o + 7) (bcells (rtake B (at_, sh) 6).1)).toArray t (0, 0)) ∧ Mod (fun b => b = C ∨ b = T) w w' := ⟨_, rfl⟩
  have hd : ∀ W, W = w.drew → Calls Tryz.prog 67 #[.pointer (some ⟨C, 0, none⟩), .slice (some ⟨T, o + 7, none⟩) 6 6] W fun e w' => e = .returned (.tuple #[]) ∧ R w' := by
    intro W hW
    subst hW
    rw [hR]
    exact (bytes_rd (w := w.drew) B hb (hrow.keeps (Mod.keeps (Mod.drew (Mod.refl No w)) (fun _ _ _ f => f))) hat hc hB 6 (by decide) hS hT ho h1).mono fun e w' ⟨e1, e2, e3, e4⟩ => ⟨e1, e2, e3, (Mod.refl _ w).drew.trans e4⟩
  have c0 := blk_cell hx.c 0
  have c1 := blk_cell hx.t 0
  simp at c0 c1
  suffices hs : Calls Tryz.prog 92 #[.pointer (some ⟨bc, 0, none⟩), .pointer (some ⟨bt, 0, none⟩)] w fun e w' => e = .returned (.tuple #[]) ∧ R w' by
    rw [hR] at hs; exact hs
  have HD := Lib.hid hd
  clear hb hrow hat hc hB hS hx hT ho hd hR
  go_enter Tryz.func92, Tryz.ntmps92
  go_wp2_with fail
  go_region_law (first | (go_simp; go_at_call 67; refine (HD.out _ rfl).mono ?_; rintro e w1 ⟨rfl, hr⟩; have HW := Lib.hid hr; clear hr))
  all_goals
    go_wp2
    first | go_end0 | (simp only [Exit.inBlock, Exit.then]; refine bodyPost_ret (results_none rfl _ _ _) rfl ?_) | refine bodyPost_ret (results_none rfl _ _ _) rfl ?_
    exact ⟨rfl, HW.out⟩
set_option maxRecDepth 100000 in
theorem con_nmac_wr {w : World} {C base : Nat} {L : List UInt8} {v : Value} {bc bt T o : Nat} (h : Wr w C base L v) (hb : base ≤ w.heap.size) (hL : L.length ≤ 90000000) (hx : BoxesC w bc bt C T o)
    (X : List UInt8) (hXl : X.length = 6) (hX : ∀ j u, (bcells X)[j]? = some u → w.cell? ⟨T, o + 13 + j, none⟩ = some u) :
    Calls Tryz.prog 93 #[.pointer (some ⟨bc, 0, none⟩), .pointer (some ⟨bt, 0, none⟩)] w fun e w' => e = .returned (.tuple #[]) ∧ ∃ v', Wr w' C base (L ++ X) v' ∧ WMod C v w v' w' := by
  have hd : ∀ W, W = w.drew → Calls Tryz.prog 67 #[.pointer (some ⟨C, 0, none⟩), .slice (some ⟨T, o + 13, none⟩) 6 6] W fun e w' => e = .returned (.tuple #[]) ∧ ∃ v', Wr w' C base (L ++ X) v' ∧ WMod C v w v' w' := by
    intro W hW
    subst hW
    have hby := bytes_wr (w := w.drew) ⟨h.blk, h.own⟩ hb X (by omega) ⟨T, o + 13, none⟩ 6 (fun j u hj => by rw [Addr.add_lit]; exact hX j u hj)
    rw [hXl] at hby
    exact hby.mono fun e w' ⟨he, v', a1, a2⟩ => ⟨he, v', a1, ⟨(Mod.refl _ w).drew.trans a2.mod, a2.row⟩⟩
  have c0 := blk_cell hx.c 0
  have c1 := blk_cell hx.t 0
  simp at c0 c1
  have HD := Lib.hid hd
  clear h hb hL hx hX hXl hd
  go_enter Tryz.func93, Tryz.ntmps93
  go_wp2_with fail
  go_region_law (first | (go_simp; go_at_call 67; refine (HD.out _ rfl).mono ?_; rintro e w1 ⟨rfl, v', hw1, hm1⟩; have HW := Lib.hid (And.intro hw1 hm1); clear hw1 hm1))
  all_goals
    go_wp2
    first | go_end0 | (simp only [Exit.inBlock, Exit.then]; refine bodyPost_ret (results_none rfl _ _ _) rfl ?_) | refine bodyPost_ret (results_none rfl _ _ _) rfl ?_
    exact ⟨rfl, v', HW.out.1, HW.out.2⟩
set_option maxRecDepth 100000 in
theorem con_nmac_rd {S : Nat → Prop} {w : World} {C : Nat} {A : Option Addr} {c at_ : Nat} {sh : Bool} (B : List UInt8) (hb : w.heap[C]? = some (rdObj A B.length c at_ sh)) (hrow : RowAt S w A (bcells B)) (hat : at_ ≤ B.length) (hc : B.length ≤ c) (hB : B.length ≤ 100000000) (hS : ¬ S C) {bc bt T o : Nat} (hx : BoxesC w bc bt C T o)
    {cs : List Value} {t : TypeId} (hT : w.heap[T]? = some (.cells cs.toArray t (0, 0))) (ho : o + 13 + 6 ≤ cs.length) (h1 : T ≠ C) :
    Calls Tryz.prog 93 #[.pointer (some ⟨bc, 0, none⟩), .pointer (some ⟨bt, 0, none⟩)] w fun e w' => e = .returned (.tuple #[]) ∧ w'.heap[C]? = some (rdObj A B.length c (rtake B (at_, sh) 6).2.1 (rtake B (at_, sh) 6).2.2) ∧
      w'.heap[T]? = some (.cells (splice cs (o + 13) (bcells (rtake B (at_, sh) 6).1)).toArray t (0, 0)) ∧ Mod (fun b => b = C ∨ b = T) w w' := by
  obtain ⟨R, hR⟩ : ∃ R : World → Prop, R = fun w' => w'.heap[C]? = some (rdObj A B.length c (rtake B (at_, sh) 6).2.1 (rtake B (at_, sh) 6).2.2) ∧
      w'.heap[T]? = some (.cells (splice cs (o + 13) (bcells (rtake B (at_, sh) 6).1)).toArray t (0, 0)) ∧ Mod (fun b => b = C ∨ b = T) w w' := ⟨_, rfl⟩
  have hd : ∀ W, W = w.drew → Calls Tryz.prog 67 #[.pointer (some ⟨C, 0, none⟩), .slice (some ⟨T, o + 13, none⟩) 6 6] W fun e w' => e = .returned (.tuple #[]) ∧ R w' := by
    intro W hW
    subst hW
    rw [hR]
    exact (bytes_rd (w := w.drew) B hb (hrow.keeps (Mod.keeps (Mod.drew (Mod.refl No w)) (fun _ _ _ f => f))) hat hc hB 6 (by decide) hS hT ho h1).mono fun e w' ⟨e1, e2, e3, e4⟩ => ⟨e1, e2, e3, (Mod.refl _ w).drew.trans e4⟩
  have c0 := blk_cell hx.c 0
  have c1 := blk_cell hx.t 0
  simp at c0 c1
  suffices hs : Calls Tryz.prog 93 #[.pointer (some ⟨bc, 0, none⟩), .pointer (some ⟨bt, 0, none⟩)] w fun e w' => e = .returned (.tuple #[]) ∧ R w' by
    rw [hR] at hs; exact hs
  have HD := Lib.hid hd
  clear hb hrow hat hc hB hS hx hT ho hd hR
  go_enter Tryz.func93, Tryz.ntmps93
  go_wp2_with fail
  go_region_law (first | (go_simp; go_at_call 67; refine (HD.out _ rfl).mono ?_; rintro e w1 ⟨rfl, hr⟩; have HW := Lib.hid hr; clear hr))
  all_goals
    go_wp2
    first | go_end0 | (simp only [Exit.inBlock, Exit.then]; refine bodyPost_ret (results_none rfl _ _ _) rfl ?_) | refine bodyPost_ret (results_none rfl _ _ _) rfl ?_
    exact ⟨rfl, HW.out⟩
set_option maxRecDepth 100000 in
theorem con_key_wr {w : World} {C base : Nat} {L : List UInt8} {v : Value} {bc bt T o : Nat} (h : Wr w C base L v) (hb : base ≤ w.heap.size) (hL : L.length ≤ 90000000) (hx : BoxesC w bc bt C T o)
    (X : List UInt8) (hXl : X.length = 8) (hX : ∀ j u, (bcells X)[j]? = some u → w.cell? ⟨T, o + 19 + j, none⟩ = some u) :
    Calls Tryz.prog 94 #[.pointer (some ⟨bc, 0, none⟩), .pointer (some ⟨bt, 0, none⟩)] w fun e w' => e = .returned (.tuple #[]) ∧ ∃ v', Wr w' C base (L ++ X) v' ∧ WMod C v w v' w' := by
  have hd : ∀ W, W = w.drew → Calls Tryz.prog 67 #[.pointer (some ⟨C, 0, none⟩), .slice (some ⟨T, o + 19, none⟩) 8 8] W fun e w' => e = .returned (.tuple #[]) ∧ ∃ v', Wr w' C base (L ++ X) v' ∧ WMod C v w v' w' := by
    intro W hW
    subst hW
    have hby := bytes_wr (w := w.drew) ⟨h.blk, h.own⟩ hb X (by omega) ⟨T, o + 19, none⟩ 8 (fun j u hj => by rw [Addr.add_lit]; exact hX j u hj)
    rw [hXl] at hby
    exact hby.mono fun e w' ⟨he, v', a1, a2⟩ => ⟨he, v', a1, ⟨(Mod.refl _ w).drew.trans a2.mod, a2.row⟩⟩
  have c0 := blk_cell hx.c 0
  have c1 := blk_cell hx.t 0
  simp at c0 c1
  have HD := Lib.hid hd
  clear h hb hL hx hX hXl hd
  go_enter Tryz.func94, Tryz.ntmps94
  go_wp2_with fail
  go_region_law (first | (go_simp; go_at_call 67; refine (HD.out _ rfl).mono ?_; rintro e w1 ⟨rfl, v', hw1, hm1⟩; have HW := Lib.hid (And.intro hw1 hm1); clear hw1 hm1))
  all_goals
    go_wp2
    first | go_end0 | (simp only [Exit.inBlock, Exit.then]; refine bodyPost_ret (results_none rfl _ _ _) rfl ?_) | refine bodyPost_ret (results_none rfl _ _ _) rfl ?_
    exact ⟨rfl, v', HW.out.1, HW.out.2⟩
set_option maxRecDepth 100000 in
theorem con_key_rd {S : Nat → Prop} {w : World} {C : Nat} {A : Option Addr} {c at_ : Nat} {sh : Bool} (B : List UInt8) (hb : w.heap[C]? = some (rdObj A B.length c at_ sh)) (hrow : RowAt S w A (bcells B)) (hat : at_ ≤ B.length) (hc : B.length ≤ c) (hB : B.length ≤ 100000000) (hS : ¬ S C) {bc bt T o : Nat} (hx : BoxesC w bc bt C T o)
    {cs : List Value} {t : TypeId} (hT : w.heap[T]? = some (.cells cs.toArray t (0, 0))) (ho : o + 19 + 8 ≤ cs.length) (h1 : T ≠ C) :
    Calls Tryz.prog 94 #[.pointer (some ⟨bc, 0, none⟩), .pointer (some ⟨bt, 0, none⟩)] w fun e w' => e = .returned (.tuple #[]) ∧ w'.heap[C]? = some (rdObj A B.length c (rtake B (at_, sh) 8).2.1 (rtake B (at_, sh) 8).2.2) ∧
      w'.heap[T]? = some (.cells (splice cs (o + 19) (bcells (rtake B (at_, sh) 8).1)).toArray t (0, 0)) ∧ Mod (fun b => b = C ∨ b = T) w w' := by
  obtain ⟨R, hR⟩ : ∃ R : World → Prop, R = fun w' => w'.heap[C]? = some (rdObj A B.length c (rtake B (at_, sh) 8).2.1 (rtake B (at_, sh) 8).2.2) ∧
      w'.heap[T]? = some (.cells (splice cs (o + 19) (bcells (rtake B (at_, sh) 8).1)).toArray t (0, 0)) ∧ Mod (fun b => b = C ∨ b = T) w w' := ⟨_, rfl⟩
  have hd : ∀ W, W = w.drew → Calls Tryz.prog 67 #[.pointer (some ⟨C, 0, none⟩), .slice (some ⟨T, o + 19, none⟩) 8 8] W fun e w' => e = .returned (.tuple #[]) ∧ R w' := by
    intro W hW
    subst hW
    rw [hR]
    exact (bytes_rd (w := w.drew) B hb (hrow.keeps (Mod.keeps (Mod.drew (Mod.refl No w)) (fun _ _ _ f => f))) hat hc hB 8 (by decide) hS hT ho h1).mono fun e w' ⟨e1, e2, e3, e4⟩ => ⟨e1, e2, e3, (Mod.refl _ w).drew.trans e4⟩
  have c0 := blk_cell hx.c 0
  have c1 := blk_cell hx.t 0
  simp at c0 c1
  suffices hs : Calls Tryz.prog 94 #[.pointer (some ⟨bc, 0, none⟩), .pointer (some ⟨bt, 0, none⟩)] w fun e w' => e = .returned (.tuple #[]) ∧ R w' by
    rw [hR] at hs; exact hs
  have HD := Lib.hid hd
  clear hb hrow hat hc hB hS hx hT ho hd hR
  go_enter Tryz.func94, Tryz.ntmps94
  go_wp2_with fail
  go_region_law (first | (go_simp; go_at_call 67; refine (HD.out _ rfl).mono ?_; rintro e w1 ⟨rfl, hr⟩; have HW := Lib.hid hr; clear hr))
  all_goals
    go_wp2
    first | go_end0 | (simp only [Exit.inBlock, Exit.then]; refine bodyPost_ret (results_none rfl _ _ _) rfl ?_) | refine bodyPost_ret (results_none rfl _ _ _) rfl ?_
    exact ⟨rfl, HW.out⟩
set_option maxRecDepth 100000 in
theorem con_drain_wr {w : World} {C base : Nat} {L : List UInt8} {v : Value} {bc bt T o : Nat} {z : Int} {n : Nat} (h : Wr w C base L v) (hb : base ≤ w.heap.size) (hL : L.length ≤ 90000000) (hx : BoxesC w bc bt C T o)
    (hT : w.cell? ⟨T, o + 27, none⟩ = some (.int .u32 z)) (hz : IntKind.u64.wrap z = n) (h1 : T ≠ C) (h2 : v.ownBlock ≠ some T) :
    Calls Tryz.prog 95 #[.pointer (some ⟨bc, 0, none⟩), .pointer (some ⟨bt, 0, none⟩)] w fun e w' => e = .returned (.tuple #[]) ∧ ∃ v', Wr w' C base (L ++ be 4 n) v' ∧ WMod C v w v' w' := by
  have hd : ∀ W, W = w.drew → Calls Tryz.prog 63 #[.pointer (some ⟨C, 0, none⟩), .int .i64 4, .pointer (some ⟨T, o + 27, none⟩)] W fun e w' => e = .returned (.tuple #[]) ∧ ∃ v', Wr w' C base (L ++ be 4 n) v' ∧ WMod C v w v' w' := by
    intro W hW
    subst hW
    exact (num_u32_wr (w := w.drew) ⟨h.blk, h.own⟩ hb 4 n (by decide) hL hT hz h1 h2).mono fun e w' ⟨he, v', a1, a2⟩ => ⟨he, v', a1, ⟨(Mod.refl _ w).drew.trans a2.mod, a2.row⟩⟩
  have c0 := blk_cell hx.c 0
  have c1 := blk_cell hx.t 0
  simp at c0 c1
  have HD := Lib.hid hd
  clear h hb hL hx hT hz h1 h2 hd
  go_enter Tryz.func95, Tryz.ntmps95
  go_wp2_with fail
  go_region_law (first | (go_simp; go_at_call 63; refine (HD.out _ rfl).mono ?_; rintro e w1 ⟨rfl, v', hw1, hm1⟩; have HW := Lib.hid (And.intro hw1 hm1); clear hw1 hm1))
  all_goals
    go_wp2
    first | go_end0 | (simp only [Exit.inBlock, Exit.then]; refine bodyPost_ret (results_none rfl _ _ _) rfl ?_) | refine bodyPost_ret (results_none rfl _ _ _) rfl ?_
    exact ⟨rfl, v', HW.out.1, HW.out.2⟩
set_option maxRecDepth 100000 in
theorem con_drain_rd {S : Nat → Prop} {w : World} {C : Nat} {A : Option Addr} {c at_ : Nat} {sh : Bool} (B : List UInt8) (hb : w.heap[C]? = some (rdObj A B.length c at_ sh)) (hrow : RowAt S w A (bcells B)) (hat : at_ ≤ B.length) (hc : B.length ≤ c) (hB : B.length ≤ 100000000) (hS : ¬ S C) {bc bt T o : Nat} (hx : BoxesC w bc bt C T o)
    {cs : Array Value} {t : TypeId} (hT : w.heap[T]? = some (.cells cs t (0, 0))) (ho : o + 27 < cs.size) (h1 : T ≠ C) :
    Calls Tryz.prog 95 #[.pointer (some ⟨bc, 0, none⟩), .pointer (some ⟨bt, 0, none⟩)] w fun e w' => e = .returned (.tuple #[]) ∧ w'.heap[C]? = some (rdObj A B.length c (rtake B (at_, sh) 4).2.1 (rtake B (at_, sh) 4).2.2) ∧
      w'.heap[T]? = some (.cells (cs.setIfInBounds (o + 27) (.int .u32 (beval (rtake B (at_, sh) 4).1))) t (0, 0)) ∧ Mod (fun b => b = C ∨ b = T) w w' := by
  have hd : ∀ W, W = w.drew → Calls Tryz.prog 63 #[.pointer (some ⟨C, 0, none⟩), .int .i64 4, .pointer (some ⟨T, o + 27, none⟩)] W fun e w' => e = .returned (.tuple #[]) ∧ w'.heap[C]? = some (rdObj A B.length c (rtake B (at_, sh) 4).2.1 (rtake B (at_, sh) 4).2.2) ∧
      w'.heap[T]? = some (.cells (cs.setIfInBounds (o + 27) (.int .u32 (beval (rtake B (at_, sh) 4).1))) t (0, 0)) ∧ Mod (fun b => b = C ∨ b = T) w w' := by
    intro W hW
    subst hW
    exact (num_u32_rd (w := w.drew) B hb (hrow.keeps (Mod.keeps (Mod.drew (Mod.refl No w)) (fun _ _ _ f => f))) hat hc hB 4 (by decide) hS hT ho h1).mono fun e w' ⟨e1, e2, e3, e4⟩ => ⟨e1, e2, e3, (Mod.refl _ w).drew.trans e4⟩
  have c0 := blk_cell hx.c 0
  have c1 := blk_cell hx.t 0
  simp at c0 c1
  obtain ⟨R, hR⟩ : ∃ R : World → Prop, R = fun w' => w'.heap[C]? = some (rdObj A B.length c (rtake B (at_, sh) 4).2.1 (rtake B (at_, sh) 4).2.2) ∧
      w'.heap[T]? = some (.cells (cs.setIfInBounds (o + 27) (.int .u32 (beval (rtake B (at_, sh) 4).1))) t (0, 0)) ∧ Mod (fun b => b = C ∨ b = T) w w' := ⟨_, rfl⟩
  have hd' : ∀ W, W = w.drew → Calls Tryz.prog 63 #[.pointer (some ⟨C, 0, none⟩), .int .i64 4, .pointer (some ⟨T, o + 27, none⟩)] W fun e w' => e = .returned (.tuple #[]) ∧ R w' := by
    rw [hR]; exact hd
  suffices hs : Calls Tryz.prog 95 #[.pointer (some ⟨bc, 0, none⟩), .pointer (some ⟨bt, 0, none⟩)] w fun e w' => e = .returned (.tuple #[]) ∧ R w' by
    rw [hR] at hs; exact hs
  have HD := Lib.hid hd'
  clear hb hrow hat hc hB hS hx hT ho hd hd' hR
  go_enter Tryz.func95, Tryz.ntmps95
  go_wp2_with fail
  go_region_law (first | (go_simp; go_at_call 63; refine (HD.out _ rfl).mono ?_; rintro e w1 ⟨rfl, hr⟩; have HW := Lib.hid hr; clear hr))
  all_goals
    go_wp2
    first | go_end0 | (simp only [Exit.inBlock, Exit.then]; refine bodyPost_ret (results_none rfl _ _ _) rfl ?_) | refine bodyPost_ret (results_none rfl _ _ _) rfl ?_
    exact ⟨rfl, HW.out⟩
set_option maxRecDepth 100000 in
theorem con_n_wr {w : World} {C base : Nat} {L : List UInt8} {v : Value} {bc bt bp T o : Nat} (h : Wr w C base L v) (hb : base ≤ w.heap.size) (hL : L.length ≤ 90000000) (hx : BoxesC w bc bt C T o)
    {P : Option Addr} {n p : Nat} (hT : w.cell? ⟨T, o + 28, none⟩ = some (.slice P n p)) {x0 : Value} (hp : w.heap[bp]? = some (.cells #[x0] 3 (0, 0))) (h3 : bp ≠ C) (h4 : v.ownBlock ≠ some bp) :
    Calls Tryz.prog 96 #[.pointer (some ⟨bc, 0, none⟩), .pointer (some ⟨bt, 0, none⟩), .pointer (some ⟨bp, 0, none⟩)] w fun e w' => e = .returned (.tuple #[]) ∧ ∃ v', Wr w' C base (L ++ be 1 (min n 255)) v' ∧
      w'.heap[bp]? = some (.cells #[.int .i64 (min n 255 : Nat)] 3 (0, 0)) ∧ Mod (fun b => b = C ∨ v.ownBlock = some b ∨ b = bp) w w' ∧ (∀ g, v'.ownBlock = some g → v.ownBlock = some g ∨ w.heap.size ≤ g) := by
  obtain ⟨m, hm⟩ : ∃ m, m = min n 255 := ⟨_, rfl⟩
  rw [← hm]
  have hd : ∀ W, W = w.drew → Calls Tryz.prog 81 #[.pointer (some ⟨C, 0, none⟩), .int .i64 n] W fun e w' => e = .returned (.int .i64 m) ∧ w'.cell? ⟨bp, 0, none⟩ = some x0 ∧ w'.frozen? ⟨bp, 0, none⟩ = false ∧ ∃ v', Wr (w'.setCell ⟨bp, 0, none⟩ (.int .i64 m)) C base (L ++ be 1 m) v' ∧
      (w'.setCell ⟨bp, 0, none⟩ (.int .i64 m)).heap[bp]? = some (.cells #[.int .i64 m] 3 (0, 0)) ∧ Mod (fun b => b = C ∨ v.ownBlock = some b ∨ b = bp) w (w'.setCell ⟨bp, 0, none⟩ (.int .i64 m)) ∧ (∀ g, v'.ownBlock = some g → v.ownBlock = some g ∨ w.heap.size ≤ g) := by
    intro W hW
    subst hW
    have hc := count_wr (w := w.drew) ⟨h.blk, h.own⟩ hb hL n
    rw [← hm] at hc
    refine hc.mono fun e w' ⟨he, v', a1, a2⟩ => ?_
    have hp' : w'.heap[bp]? = some (.cells #[x0] 3 (0, 0)) := a2.obj (w := w.drew) hp h3 h4
    have hne : v'.ownBlock ≠ some bp := a1.ne hp' (by decide)
    refine ⟨he, (blk_cell hp' 0).trans rfl, blk_free hp' 0, v', ⟨?_, own_mod a1.own (Mod.setCell (p := ⟨bp, 0, none⟩) (Mod.refl (fun b => b = bp) w') (.inr rfl) _) (fun g hg e => hne (by rw [← e]; exact hg))⟩, ?_, ?_, fun g hg => a2.row g hg⟩
    · rw [heap_setCell_ne _ _ (fun e => h3 e.symm)]
      exact a1.blk
    · rw [heap_setCell_row hp']; simp
    · refine Mod.setCell ((Mod.refl _ w).drew.trans (a2.mod.mono (fun i hi => ?_))) (.inr (.inr (.inr rfl))) _
      rcases hi with h | h
      · exact .inl h
      · exact .inr (.inl h)
  have c0 := blk_cell hx.c 0
  have c1 := blk_cell hx.t 0
  simp at c0 c1
  obtain ⟨R, hR⟩ : ∃ R : World → Prop, R = fun w' => ∃ v', Wr w' C base (L ++ be 1 m) v' ∧ w'.heap[bp]? = some (.cells #[.int .i64 m] 3 (0, 0)) ∧ Mod (fun b => b = C ∨ v.ownBlock = some b ∨ b = bp) w w' ∧ (∀ g, v'.ownBlock = some g → v.ownBlock = some g ∨ w.heap.size ≤ g) := ⟨_, rfl⟩
  have hd' : ∀ W, W = w.drew → Calls Tryz.prog 81 #[.pointer (some ⟨C, 0, none⟩), .int .i64 n] W fun e w' => e = .returned (.int .i64 m) ∧ w'.cell? ⟨bp, 0, none⟩ = some x0 ∧ w'.frozen? ⟨bp, 0, none⟩ = false ∧ R (w'.setCell ⟨bp, 0, none⟩ (.int .i64 m)) := by
    rw [hR]; exact hd
  suffices hs : Calls Tryz.prog 96 #[.pointer (some ⟨bc, 0, none⟩), .pointer (some ⟨bt, 0, none⟩), .pointer (some ⟨bp, 0, none⟩)] w fun e w' => e = .returned (.tuple #[]) ∧ R w' by
    rw [hR] at hs; exact hs
  have HD := Lib.hid hd'
  clear h hb hL hx hp h3 h4 hd hd' hR hm
  go_enter Tryz.func96, Tryz.ntmps96
  go_wp2_with fail
  go_region_law (first | (go_simp; go_at_call 81; refine (HD.out _ rfl).mono ?_; rintro e w1 ⟨rfl, d1, f1, hr⟩; have HW := Lib.hid hr; clear hr))
  all_goals
    go_wp2
    first | go_end0 | (simp only [Exit.inBlock, Exit.then]; refine bodyPost_ret (results_none rfl _ _ _) rfl ?_) | refine bodyPost_ret (results_none rfl _ _ _) rfl ?_
    exact ⟨rfl, HW.out⟩
set_option maxRecDepth 100000 in
theorem con_n_rd {S : Nat → Prop} {w : World} {C : Nat} {A : Option Addr} {c at_ : Nat} {sh : Bool} (B : List UInt8) (hb : w.heap[C]? = some (rdObj A B.length c at_ sh)) (hrow : RowAt S w A (bcells B)) (hat : at_ ≤ B.length) (hc : B.length ≤ c) (hB : B.length ≤ 100000000) (hS : ¬ S C) {bc bt bp T o : Nat} (hx : BoxesC w bc bt C T o)
    {P : Option Addr} {n p : Nat} (hT : w.cell? ⟨T, o + 28, none⟩ = some (.slice P n p)) {x0 : Value} (hp : w.heap[bp]? = some (.cells #[x0] 3 (0, 0))) (h3 : bp ≠ C) :
    Calls Tryz.prog 96 #[.pointer (some ⟨bc, 0, none⟩), .pointer (some ⟨bt, 0, none⟩), .pointer (some ⟨bp, 0, none⟩)] w fun e w' => e = .returned (.tuple #[]) ∧ w'.heap[C]? = some (rdObj A B.length c (rtake B (at_, sh) 1).2.1 (rtake B (at_, sh) 1).2.2) ∧
      w'.heap[bp]? = some (.cells #[.int .i64 (beval (rtake B (at_, sh) 1).1)] 3 (0, 0)) ∧ Mod (fun b => b = C ∨ b = bp) w w' := by
  obtain ⟨m, hm⟩ : ∃ m, m = beval (rtake B (at_, sh) 1).1 := ⟨_, rfl⟩
  rw [← hm]
  obtain ⟨R, hR⟩ : ∃ R : World → Prop, R = fun w' => w'.heap[C]? = some (rdObj A B.length c (rtake B (at_, sh) 1).2.1 (rtake B (at_, sh) 1).2.2) ∧ w'.heap[bp]? = some (.cells #[.int .i64 m] 3 (0, 0)) ∧ Mod (fun b => b = C ∨ b = bp) w w' := ⟨_, rfl⟩
  have hd : ∀ W, W = w.drew → Calls Tryz.prog 81 #[.pointer (some ⟨C, 0, none⟩), .int .i64 n] W fun e w' => e = .returned (.int .i64 m) ∧ w'.cell? ⟨bp, 0, none⟩ = some x0 ∧ w'.frozen? ⟨bp, 0, none⟩ = false ∧ R (w'.setCell ⟨bp, 0, none⟩ (.int .i64 m)) := by
    intro W hW
    subst hW
    have hcr := count_rd (w := w.drew) B hb (hrow.keeps (Mod.keeps (Mod.drew (Mod.refl No w)) (fun _ _ _ f => f))) hat hc hB hS n
    rw [← hm] at hcr
    refine hcr.mono fun e w' ⟨he, a1, a2⟩ => ?_
    have hp' : w'.heap[bp]? = some (.cells #[x0] 3 (0, 0)) := a2.obj (w := w.drew) hp h3
    rw [hR]
    refine ⟨he, (blk_cell hp' 0).trans rfl, blk_free hp' 0, ?_, ?_, ?_⟩
    · rw [heap_setCell_ne _ _ (fun e => h3 e.symm)]
      exact a1
    · rw [heap_setCell_row hp']; simp
    · exact Mod.setCell ((Mod.refl _ w).drew.trans (a2.mono (fun i hi => .inl hi))) (.inr (.inr rfl)) _
  have c0 := blk_cell hx.c 0
  have c1 := blk_cell hx.t 0
  simp at c0 c1
  suffices hs : Calls Tryz.prog 96 #[.pointer (some ⟨bc, 0, none⟩), .pointer (some ⟨bt, 0, none⟩), .pointer (some ⟨bp, 0, none⟩)] w fun e w' => e = .returned (.tuple #[]) ∧ R w' by
    rw [hR] at hs; exact hs
  have HD := Lib.hid hd
  clear hb hrow hat hc hB hS hx hp h3 hd hR hm
  go_enter Tryz.func96, Tryz.ntmps96
  go_wp2_with fail
  go_region_law (first | (go_simp; go_at_call 81; refine (HD.out _ rfl).mono ?_; rintro e w1 ⟨rfl, d1, f1, hr⟩; have HW := Lib.hid hr; clear hr))
  all_goals
    go_wp2
    first | go_end0 | (simp only [Exit.inBlock, Exit.then]; refine bodyPost_ret (results_none rfl _ _ _) rfl ?_) | refine bodyPost_ret (results_none rfl _ _ _) rfl ?_
    exact ⟨rfl, HW.out⟩
end

section
attribute [local go_sem] stPair gtPair gtK8 gtM6 run_store_func
attribute [local go_sem high] neqPair eqK8 eqM6
open Go.RowKit
set_option linter.unusedVariables false
abbrev St := Nat × Bool
/-- So many are read, till the bytes end. -/
def rmany {α : Type} (rd : St → α × St) : Nat → St → List α × St
  | 0, s => ([], s)
  | n + 1, s => if s.2 = true then ([], s) else ((rd s).1 :: (rmany rd n (rd s).2).1, (rmany rd n (rd s).2).2)
theorem rmany_short {α : Type} (rd : St → α × St) (n : Nat) {s : St} (h : s.2 = true) : rmany rd n s = ([], s) := by
  cases n with
  | zero => rfl
  | succ n => simp [rmany, h]
theorem rmany_step {α : Type} (rd : St → α × St) (n : Nat) {s : St} (h : s.2 = false) : rmany rd (n + 1) s = ((rd s).1 :: (rmany rd n (rd s).2).1, (rmany rd n (rd s).2).2) := by simp [rmany, h]
theorem rmany_le {α : Type} {rd : St → α × St} {m : Nat} (h : ∀ s, s.1 ≤ m → (rd s).2.1 ≤ m) : ∀ n s, s.1 ≤ m → (rmany rd n s).2.1 ≤ m
  | 0, s, hs => hs
  | n + 1, s, hs => by
    unfold rmany
    split
    · exact hs
    · exact rmany_le h n _ (h s hs)
theorem rmany_len {α : Type} (rd : St → α × St) : ∀ n s, (rmany rd n s).1.length ≤ n
  | 0, s => by simp [rmany]
  | n + 1, s => by
    unfold rmany
    split
    · simp
    · have := rmany_len rd n (rd s).2
      simp; omega
def rnum (B : List UInt8) (k : Nat) (s : St) : Nat × St := (beval (rtake B s k).1, (rtake B s k).2)
def rpr (B : List UInt8) (s : St) : Pr × St := (⟨(rnum B 4 s).1, (rnum B 4 (rnum B 4 s).2).1⟩, (rnum B 4 (rnum B 4 s).2).2)
theorem rnum_le (B : List UInt8) (k : Nat) (s : St) (h : s.1 ≤ B.length) : (rnum B k s).2.1 ≤ B.length := rtake_le B s k h
theorem rpr_le (B : List UInt8) (s : St) (h : s.1 ≤ B.length) : (rpr B s).2.1 ≤ B.length := rtake_le B _ 4 (rtake_le B s 4 h)
theorem rnum_lt (B : List UInt8) (k : Nat) (s : St) : (rnum B k s).1 < 256 ^ k := by
  have := beval_lt (rtake B s k).1
  rwa [rtake_length] at this
theorem infou32 : (Tryz.prog.info? 24).map (fun i => (i.zero, i.size, i.bytes)) = some (some (.int .u32 0), 1, 4) := by kernel_rfl
set_option maxRecDepth 100000 in
set_option maxHeartbeats 2000000 in
theorem list_u32_rd {S : Nat → Prop} {w : World} {C : Nat} {A : Option Addr} {c : Nat} {s0 : St} (B : List UInt8) (hb : w.heap[C]? = some (rdObj A B.length c s0.1 s0.2)) (hrow : RowAt S w A (bcells B)) (hat : s0.1 ≤ B.length) (hS : ¬ S C) {T o : Nat} (hST : ¬ S T)
    {cs : Array Value} {t : TypeId} (hT : w.heap[T]? = some (.cells cs t (0, 0))) (ho : o < cs.size) (h1 : T ≠ C) (n : Nat) (hn : n ≤ 1000) (fn : Nat) (cp : Value)
    (hen : ∀ (a : Array Value) (W : World), (callFunc fn a).run Tryz.prog W = .ok (.enter fn a) W)
    (he : ∀ (W : World) (s : St) (X : Nat), Mod (fun b => b = C ∨ b = T) w W → W.heap[C]? = some (rdObj A B.length c s.1 s.2) → s.1 ≤ B.length → RowAt S W A (bcells B) → W.heap[X]? = some (.cells #[.int .u32 0] 24 (0, 0)) → w.heap.size ≤ X →
      Calls Tryz.prog fn #[.pointer (some ⟨X, 0, none⟩), cp] W fun e W' => e = .returned (.tuple #[]) ∧ W'.heap[C]? = some (rdObj A B.length c (rnum B 4 s).2.1 (rnum B 4 s).2.2) ∧ W'.heap[X]? = some (.cells ([.int .u32 ((rnum B 4 s).1 : Int)]).toArray 24 (0, 0)) ∧ Mod (fun b => b = C ∨ b = X) W W') :
    Calls Tryz.prog 85 #[.pointer (some ⟨C, 0, none⟩), .int .i64 n, .pointer (some ⟨T, o, none⟩), .func (.func fn) #[] #[cp]] w fun e w' => e = .returned (.tuple #[]) ∧ w'.heap[C]? = some (rdObj A B.length c (rmany (rnum B 4) n s0).2.1 (rmany (rnum B 4) n s0).2.2) ∧
      (∃ v, w'.heap[T]? = some (.cells (cs.setIfInBounds o v) t (0, 0)) ∧ w'.ownsRow w.heap.size 24 1 v (rmany (rnum B 4) n s0).1.length (numCells (rmany (rnum B 4) n s0).1)) ∧ Mod (fun b => b = C ∨ b = T) w w' := by
  obtain ⟨i0, hi, hz0, hz1, hz2⟩ := info_parts infou32
  have c1 := blk_cell hb 1
  simp at c1
  have c2 := blk_cell hT o
  have f2 := blk_free hT o
  rw [Array.getElem?_eq_getElem ho] at c2
  obtain ⟨v0, hv0⟩ : ∃ v0, v0 = cs[o] := ⟨_, rfl⟩
  rw [← hv0] at c2
  have hlC := lt_of_block hb
  have hlT := lt_of_block hT
  have hrow' := hrow.mono (S' := fun b => S b ∧ b < w.heap.size) (fun b hb hs => ⟨hs, hb⟩)
  have hkp : ∀ W, Mod (fun b => b = C ∨ b = T) w W → RowAt S W A (bcells B) := fun W hW => hrow.keeps (hW.keeps (fun b _ hs f => by rcases f with f | f; exact hS (by subst f; exact hs); exact hST (by subst f; exact hs)))
  have H0 := Lib.hid (And.intro hb (And.intro hT (And.intro ho (And.intro hat hkp))))
  have HE := Lib.hid he
  clear hb hrow hrow' hat hT ho he hkp hv0
  go_enter Tryz.func85, Tryz.ntmps85
  go_wp2
  go_loopw [8] (fun i wr => ∃ (j : Nat) (acc : List Nat) (s : St) (v : Value), i = .int .i64 j ∧ j ≤ n ∧ acc.length ≤ j ∧ rmany (rnum B 4) n s0 = (acc ++ (rmany (rnum B 4) (n - j) s).1, (rmany (rnum B 4) (n - j) s).2) ∧ s.1 ≤ B.length ∧
    wr.heap[C]? = some (rdObj A B.length c s.1 s.2) ∧ wr.heap[T]? = some (.cells (cs.setIfInBounds o v) t (0, 0)) ∧ wr.ownsRow w.heap.size 24 1 v acc.length (numCells acc) ∧ Mod (fun b => b = C ∨ b = T) w wr) (fun i _ => n - (intOf i).toNat)
  case atStart =>
    refine ⟨0, [], s0, .slice none 0 0, rfl, by omega, by simp, by simp, H0.out.2.2.2.1, ?_, ?_, ⟨rfl, .inl ⟨rfl, rfl⟩⟩, ?_⟩
    · rw [heap_setCell_ne _ _ (fun e => h1 e.symm)]; exact H0.out.1
    · exact heap_setCell_row H0.out.2.1 _
    · exact Mod.setCell (Mod.refl _ _) (.inr (.inr rfl)) _
  case round =>
    obtain ⟨j, acc, s, v, rfl, hj, hacc, hsp, hs8, hbC, hbT, hown, hmw⟩ := hrel
    obtain ⟨at_, sh⟩ := s
    have d3 := blk_cell hbC 3
    simp at d3
    have dT : wr.cell? ⟨T, o, none⟩ = some v := (blk_cell hbT o).trans (by simp [H0.out.2.2.1])
    by_cases hlt : j < n
    · have p1 : (0:Int) ≤ j := by omega
      have p2 : (j:Int) < n := by omega
      cases sh
      · have hmA : Mod No wr (wr.alloc (.cells #[.int .u32 0] 24)) := (Mod.refl _ _).alloc _
        have hmwA : Mod (fun b => b = C ∨ b = T) w (wr.alloc (.cells #[.int .u32 0] 24)) := hmw.alloc _
        have hc := HE.out (wr.alloc (.cells #[.int .u32 0] 24)) (at_, false) wr.heap.size hmwA (hmA.obj hbC id) hs8 (H0.out.2.2.2.2 _ hmwA) (at10 wr _) hmw.size
        have hnx : n - j = (n - (j + 1)) + 1 := by omega
        rw [hnx, rmany_step _ _ rfl] at hsp
        have hwl := hmw.size
        obtain ⟨y, hy⟩ : ∃ y, y = (rnum B 4 (at_, false)).1 := ⟨_, rfl⟩
        obtain ⟨s2, hs2⟩ : ∃ s2, s2 = (rnum B 4 (at_, false)).2 := ⟨_, rfl⟩
        have hs28 : s2.1 ≤ B.length := by rw [hs2]; exact rnum_le B 4 (at_, false) hs8
        rw [← hy, ← hs2] at hc hsp
        have hlb : v.ownBlock ≠ some T := by
          intro e
          rcases hown.2 with ⟨rfl, _⟩ | ⟨g, cap, cur, rfl, hg, _⟩
          · simp [Value.ownBlock] at e
          · obtain rfl : g = T := by simpa [Value.ownBlock] using e
            omega
        have hlC' : v.ownBlock ≠ some C := by
          intro e
          rcases hown.2 with ⟨rfl, _⟩ | ⟨g, cap, cur, rfl, hg, _⟩
          · simp [Value.ownBlock] at e
          · obtain rfl : g = C := by simpa [Value.ownBlock] using e
            omega
        have hlX : v.ownBlock ≠ some wr.heap.size := by
          intro e
          rcases hown.2 with ⟨rfl, _⟩ | ⟨g, cap, cur, rfl, hg, hgg, _⟩
          · simp [Value.ownBlock] at e
          · obtain rfl : g = wr.heap.size := by simpa [Value.ownBlock] using e
            exact Nat.lt_irrefl _ (lt_of_block hgg)
        have HC := Lib.hid hc
        have HR := Lib.hid (And.intro hsp (And.intro hbT (And.intro hown (And.intro hmw (And.intro hs28 hbC)))))
        clear hc hsp hbC hbT hmA hmwA hs8 hy hs2 hown hs28
        go_wp2_with fail
        refine HC.out.mono ?_
        rintro e w5 ⟨rfl, k1, k2, k3⟩
        have g3 := k3.obj ((((Mod.refl No wr).alloc (.cells #[.int .u32 0] 24))).obj HR.out.2.1 id) (by rintro (f | f); exact h1 f; omega)
        have dT5 : w5.cell? ⟨T, o, none⟩ = some v := (blk_cell g3 o).trans (by simp [H0.out.2.2.1])
        have fT5 := blk_free g3 o
        have lT5 : T < w5.heap.size := lt_of_block g3
        have lX5 : wr.heap.size < w5.heap.size := lt_of_block k2
        have lC5 : C < w5.heap.size := lt_of_block k1
        have dX5 : w5.cell? ⟨wr.heap.size, 0, none⟩ = some (.int .u32 (y : Int)) := (blk_cell k2 0).trans rfl
        have hown5 : w5.ownsRow w.heap.size 24 1 v acc.length (numCells acc) := own_mod (own_mod HR.out.2.2.1 ((Mod.refl No wr).alloc (.cells #[.int .u32 0] 24)) (fun _ _ f => f)) k3 (fun k hk f => by rcases f with f | f; exact hlC' (by rw [← f]; exact hk); exact hlX (by rw [← f]; exact hk))
        have hsz5 := k3.size
        have hacc8 : acc.length ≤ 1000 := by omega
        have H5 := Lib.hid (And.intro k1 (And.intro k3 (And.intro g3 (And.intro hown5 (And.intro hsz5 hacc8)))))
        clear k1 k2 k3 g3 hown5 hsz5 hacc8 d3 dT
        go_wp2_with fail
        go_region_law (first
          | (refine step_append_lies _ (by rfl) _ _ 27 (by rfl) w.heap.size 24 i0 _ 1 4 Tryz.underlying27 hi hz0 hz1 hz2 (by rfl) (by decide) v acc.length (numCells acc) (by rfl) ?_ _ _ _ ((fun (n : Nat) => [Value.int .u32 (n : Int)]) y) (by rfl) (by rfl) ?_ (by simp [Value.oneCell']) (by decide) ?_ ?_ ?_ _ (by rfl) ?_;
             (exact own_mod H5.out.2.2.2.1 (by repeat (first | with_reducible exact Mod.refl _ _ | refine Mod.alloc ?_ _ | refine Mod.drew ?_)) (fun _ _ f => f));
             (exact World.news_of_block (at10 _ _));
             (have := H5.out.2.2.2.2.2; unfold maxLen; omega);
             (have := H5.out.2.2.2.2.2; omega);
             (have := H5.out.2.2.2.2.1; simp at this; simp; omega);
             intro g cap w6 own6 gr6 hat6 hlt6;
             have m6 : Mod (fun b => v.ownBlock = some b) w5 w6 := Mod.grown (((Mod.refl _ w5)).mono (fun _ f => f) |> (fun h => by repeat (first | with_reducible exact h | refine Mod.alloc ?_ _ | refine Mod.drew ?_))) gr6 (fun k hk => .inr hk);
             have fT6 := blk_free (m6.obj H5.out.2.2.1 hlb) o; have dT6 : w6.cell? ⟨T, o, none⟩ = some v := (blk_cell (m6.obj H5.out.2.2.1 hlb) o).trans (by simp [H0.out.2.2.1]); have H6 := Lib.hid (And.intro own6 (And.intro m6 hat6)); clear own6 m6 hat6 gr6))
        all_goals
          go_wp2
          have hT6 := H6.out.2.1.obj H5.out.2.2.1 hlb
          refine ⟨⟨j + 1, acc ++ [y], s2, .slice (some ⟨g, 0, none⟩) (acc.length + 1) cap, by go_num, by omega, ?_, ?_, HR.out.2.2.2.2.1, ?_, ?_, ?_, ?_⟩, by simp [intOf]; omega⟩
          · simp; omega
          · rw [HR.out.1]; simp
          · rw [heap_setCell_ne _ _ (fun e => h1 e.symm)]; exact H6.out.2.1.obj H5.out.1 hlC'
          · rw [heap_setCell_row hT6]; simp
          · refine own_mod (F := fun b => b = T) ?_ (Mod.setCell (p := ⟨T, o, none⟩) (Mod.refl (fun b => b = T) w6) (.inr rfl) _) (fun k hk f => ?_)
            · have := H6.out.1
              simpa [numCells] using this
            · subst f
              obtain rfl : g = k := by simpa [Value.ownBlock] using hk
              rcases H6.out.2.2 with f | f
              · exact hlb f
              · have := H5.out.2.2.2.2.1; simp at f this; omega
          · refine Mod.setCell ?_ (.inr (.inr rfl)) _
            have m5 : Mod (fun b => b = C ∨ b = T) w w5 := (HR.out.2.2.2.1.alloc (.cells #[.int .u32 0] 24)).trans' H5.out.2.1 (fun i hi f => by rcases f with f | f; exact .inl f; omega)
            refine m5.trans' H6.out.2.1 (fun i hi f => ?_)
            rcases HR.out.2.2.1.2 with ⟨rfl, _⟩ | ⟨g', cap', cur', rfl, hg', _⟩
            · simp [Value.ownBlock] at f
            · obtain rfl : g' = i := by simpa [Value.ownBlock] using f
              omega
      · have HR := Lib.hid (And.intro hsp (And.intro hbC (And.intro hbT (And.intro hown hmw))))
        clear hsp hbC hbT hown hmw
        go_wp2
        first | go_end0 | (simp only [Exit.inBlock, Exit.then]; refine bodyPost_ret (results_none rfl _ _ _) rfl ?_) | refine bodyPost_ret (results_none rfl _ _ _) rfl ?_
        obtain ⟨h5, h6, h7, h8, h9⟩ := HR.out
        rw [rmany_short (rnum B 4) (n - j) (s := (at_, true)) rfl] at h5
        rw [h5]
        exact ⟨rfl, h6, ⟨v, h7, by simpa using h8⟩, h9⟩
    · obtain rfl : n = j := by omega
      have HR := Lib.hid (And.intro hsp (And.intro hbC (And.intro hbT (And.intro hown hmw))))
      clear hsp hbC hbT hown hmw
      go_wp2
      first | go_end0 | (simp only [Exit.inBlock, Exit.then]; refine bodyPost_ret (results_none rfl _ _ _) rfl ?_) | refine bodyPost_ret (results_none rfl _ _ _) rfl ?_
      obtain ⟨h5, h6, h7, h8, h9⟩ := HR.out
      rw [Nat.sub_self] at h5
      rw [h5]
      exact ⟨rfl, h6, ⟨v, h7, by simpa [rmany] using h8⟩, h9⟩
theorem infopr : (Tryz.prog.info? 119).map (fun i => (i.zero, i.size, i.bytes)) = some (some (.agg #[.int .u32 0, .int .u32 0]), 2, 8) := by kernel_rfl
set_option maxRecDepth 100000 in
set_option maxHeartbeats 2000000 in
theorem list_pr_rd {S : Nat → Prop} {w : World} {C : Nat} {A : Option Addr} {c : Nat} {s0 : St} (B : List UInt8) (hb : w.heap[C]? = some (rdObj A B.length c s0.1 s0.2)) (hrow : RowAt S w A (bcells B)) (hat : s0.1 ≤ B.length) (hS : ¬ S C) {T o : Nat} (hST : ¬ S T)
    {cs : Array Value} {t : TypeId} (hT : w.heap[T]? = some (.cells cs t (0, 0))) (ho : o < cs.size) (h1 : T ≠ C) (n : Nat) (hn : n ≤ 1000) (fn : Nat) (cp : Value)
    (hen : ∀ (a : Array Value) (W : World), (callFunc fn a).run Tryz.prog W = .ok (.enter fn a) W)
    (he : ∀ (W : World) (s : St) (X : Nat), Mod (fun b => b = C ∨ b = T) w W → W.heap[C]? = some (rdObj A B.length c s.1 s.2) → s.1 ≤ B.length → RowAt S W A (bcells B) → W.heap[X]? = some (.cells #[.int .u32 0, .int .u32 0] 119 (0, 0)) → w.heap.size ≤ X →
      Calls Tryz.prog fn #[.pointer (some ⟨X, 0, none⟩), cp] W fun e W' => e = .returned (.tuple #[]) ∧ W'.heap[C]? = some (rdObj A B.length c (rpr B s).2.1 (rpr B s).2.2) ∧ W'.heap[X]? = some (.cells ((rpr B s).1.cells).toArray 119 (0, 0)) ∧ Mod (fun b => b = C ∨ b = X) W W') :
    Calls Tryz.prog 88 #[.pointer (some ⟨C, 0, none⟩), .int .i64 n, .pointer (some ⟨T, o, none⟩), .func (.func fn) #[] #[cp]] w fun e w' => e = .returned (.tuple #[]) ∧ w'.heap[C]? = some (rdObj A B.length c (rmany (rpr B) n s0).2.1 (rmany (rpr B) n s0).2.2) ∧
      (∃ v, w'.heap[T]? = some (.cells (cs.setIfInBounds o v) t (0, 0)) ∧ w'.ownsRow w.heap.size 119 2 v (rmany (rpr B) n s0).1.length (prCells (rmany (rpr B) n s0).1)) ∧ Mod (fun b => b = C ∨ b = T) w w' := by
  obtain ⟨i0, hi, hz0, hz1, hz2⟩ := info_parts infopr
  have c1 := blk_cell hb 1
  simp at c1
  have c2 := blk_cell hT o
  have f2 := blk_free hT o
  rw [Array.getElem?_eq_getElem ho] at c2
  obtain ⟨v0, hv0⟩ : ∃ v0, v0 = cs[o] := ⟨_, rfl⟩
  rw [← hv0] at c2
  have hlC := lt_of_block hb
  have hlT := lt_of_block hT
  have hrow' := hrow.mono (S' := fun b => S b ∧ b < w.heap.size) (fun b hb hs => ⟨hs, hb⟩)
  have hkp : ∀ W, Mod (fun b => b = C ∨ b = T) w W → RowAt S W A (bcells B) := fun W hW => hrow.keeps (hW.keeps (fun b _ hs f => by rcases f with f | f; exact hS (by subst f; exact hs); exact hST (by subst f; exact hs)))
  have H0 := Lib.hid (And.intro hb (And.intro hT (And.intro ho (And.intro hat hkp))))
  have HE := Lib.hid he
  clear hb hrow hrow' hat hT ho he hkp hv0
  go_enter Tryz.func88, Tryz.ntmps88
  go_wp2
  go_loopw [8] (fun i wr => ∃ (j : Nat) (acc : List Pr) (s : St) (v : Value), i = .int .i64 j ∧ j ≤ n ∧ acc.length ≤ j ∧ rmany (rpr B) n s0 = (acc ++ (rmany (rpr B) (n - j) s).1, (rmany (rpr B) (n - j) s).2) ∧ s.1 ≤ B.length ∧
    wr.heap[C]? = some (rdObj A B.length c s.1 s.2) ∧ wr.heap[T]? = some (.cells (cs.setIfInBounds o v) t (0, 0)) ∧ wr.ownsRow w.heap.size 119 2 v acc.length (prCells acc) ∧ Mod (fun b => b = C ∨ b = T) w wr) (fun i _ => n - (intOf i).toNat)
  case atStart =>
    refine ⟨0, [], s0, .slice none 0 0, rfl, by omega, by simp, by simp, H0.out.2.2.2.1, ?_, ?_, ⟨rfl, .inl ⟨rfl, rfl⟩⟩, ?_⟩
    · rw [heap_setCell_ne _ _ (fun e => h1 e.symm)]; exact H0.out.1
    · exact heap_setCell_row H0.out.2.1 _
    · exact Mod.setCell (Mod.refl _ _) (.inr (.inr rfl)) _
  case round =>
    obtain ⟨j, acc, s, v, rfl, hj, hacc, hsp, hs8, hbC, hbT, hown, hmw⟩ := hrel
    obtain ⟨at_, sh⟩ := s
    have d3 := blk_cell hbC 3
    simp at d3
    have dT : wr.cell? ⟨T, o, none⟩ = some v := (blk_cell hbT o).trans (by simp [H0.out.2.2.1])
    by_cases hlt : j < n
    · have p1 : (0:Int) ≤ j := by omega
      have p2 : (j:Int) < n := by omega
      cases sh
      · have hmA : Mod No wr (wr.alloc (.cells #[.int .u32 0, .int .u32 0] 119)) := (Mod.refl _ _).alloc _
        have hmwA : Mod (fun b => b = C ∨ b = T) w (wr.alloc (.cells #[.int .u32 0, .int .u32 0] 119)) := hmw.alloc _
        have hc := HE.out (wr.alloc (.cells #[.int .u32 0, .int .u32 0] 119)) (at_, false) wr.heap.size hmwA (hmA.obj hbC id) hs8 (H0.out.2.2.2.2 _ hmwA) (at10 wr _) hmw.size
        have hnx : n - j = (n - (j + 1)) + 1 := by omega
        rw [hnx, rmany_step _ _ rfl] at hsp
        have hwl := hmw.size
        obtain ⟨y, hy⟩ : ∃ y, y = (rpr B (at_, false)).1 := ⟨_, rfl⟩
        obtain ⟨s2, hs2⟩ : ∃ s2, s2 = (rpr B (at_, false)).2 := ⟨_, rfl⟩
        have hs28 : s2.1 ≤ B.length := by rw [hs2]; exact rpr_le B (at_, false) hs8
        rw [← hy, ← hs2] at hc hsp
        have hlb : v.ownBlock ≠ some T := by
          intro e
          rcases hown.2 with ⟨rfl, _⟩ | ⟨g, cap, cur, rfl, hg, _⟩
          · simp [Value.ownBlock] at e
          · obtain rfl : g = T := by simpa [Value.ownBlock] using e
            omega
        have hlC' : v.ownBlock ≠ some C := by
          intro e
          rcases hown.2 with ⟨rfl, _⟩ | ⟨g, cap, cur, rfl, hg, _⟩
          · simp [Value.ownBlock] at e
          · obtain rfl : g = C := by simpa [Value.ownBlock] using e
            omega
        have hlX : v.ownBlock ≠ some wr.heap.size := by
          intro e
          rcases hown.2 with ⟨rfl, _⟩ | ⟨g, cap, cur, rfl, hg, hgg, _⟩
          · simp [Value.ownBlock] at e
          · obtain rfl : g = wr.heap.size := by simpa [Value.ownBlock] using e
            exact Nat.lt_irrefl _ (lt_of_block hgg)
        have HC := Lib.hid hc
        have HR := Lib.hid (And.intro hsp (And.intro hbT (And.intro hown (And.intro hmw (And.intro hs28 hbC)))))
        clear hc hsp hbC hbT hmA hmwA hs8 hy hs2 hown hs28
        go_wp2_with fail
        refine HC.out.mono ?_
        rintro e w5 ⟨rfl, k1, k2, k3⟩
        have g3 := k3.obj ((((Mod.refl No wr).alloc (.cells #[.int .u32 0, .int .u32 0] 119))).obj HR.out.2.1 id) (by rintro (f | f); exact h1 f; omega)
        have dT5 : w5.cell? ⟨T, o, none⟩ = some v := (blk_cell g3 o).trans (by simp [H0.out.2.2.1])
        have fT5 := blk_free g3 o
        have lT5 : T < w5.heap.size := lt_of_block g3
        have lX5 : wr.heap.size < w5.heap.size := lt_of_block k2
        have lC5 : C < w5.heap.size := lt_of_block k1
        have dX5 : w5.cell? ⟨wr.heap.size, 0, none⟩ = some (.int .u32 (y.a : Int)) := (blk_cell k2 0).trans rfl
        have dX6 : w5.cell? ⟨wr.heap.size, 1, none⟩ = some (.int .u32 (y.b : Int)) := (blk_cell k2 1).trans rfl
        have hown5 : w5.ownsRow w.heap.size 119 2 v acc.length (prCells acc) := own_mod (own_mod HR.out.2.2.1 ((Mod.refl No wr).alloc (.cells #[.int .u32 0, .int .u32 0] 119)) (fun _ _ f => f)) k3 (fun k hk f => by rcases f with f | f; exact hlC' (by rw [← f]; exact hk); exact hlX (by rw [← f]; exact hk))
        have hsz5 := k3.size
        have hacc8 : acc.length ≤ 1000 := by omega
        have H5 := Lib.hid (And.intro k1 (And.intro k3 (And.intro g3 (And.intro hown5 (And.intro hsz5 hacc8)))))
        clear k1 k2 k3 g3 hown5 hsz5 hacc8 d3 dT
        go_wp2_with fail
        go_region_law (first
          | (refine step_append_lies _ (by rfl) _ _ 29 (by rfl) w.heap.size 119 i0 _ 2 8 Tryz.underlying29 hi hz0 hz1 hz2 (by rfl) (by decide) v acc.length (prCells acc) (by rfl) ?_ _ _ _ (Pr.cells y) (by rfl) (by rfl) ?_ (by simp [Pr.cells, Value.oneCell']) (by decide) ?_ ?_ ?_ _ (by rfl) ?_;
             (exact own_mod H5.out.2.2.2.1 (by repeat (first | with_reducible exact Mod.refl _ _ | refine Mod.alloc ?_ _ | refine Mod.drew ?_)) (fun _ _ f => f));
             (exact World.news_of_block (at10 _ _));
             (have := H5.out.2.2.2.2.2; unfold maxLen; omega);
             (have := H5.out.2.2.2.2.2; omega);
             (have := H5.out.2.2.2.2.1; simp at this; simp; omega);
             intro g cap w6 own6 gr6 hat6 hlt6;
             have m6 : Mod (fun b => v.ownBlock = some b) w5 w6 := Mod.grown (((Mod.refl _ w5)).mono (fun _ f => f) |> (fun h => by repeat (first | with_reducible exact h | refine Mod.alloc ?_ _ | refine Mod.drew ?_))) gr6 (fun k hk => .inr hk);
             have fT6 := blk_free (m6.obj H5.out.2.2.1 hlb) o; have dT6 : w6.cell? ⟨T, o, none⟩ = some v := (blk_cell (m6.obj H5.out.2.2.1 hlb) o).trans (by simp [H0.out.2.2.1]); have H6 := Lib.hid (And.intro own6 (And.intro m6 hat6)); clear own6 m6 hat6 gr6))
        all_goals
          go_wp2
          have hT6 := H6.out.2.1.obj H5.out.2.2.1 hlb
          refine ⟨⟨j + 1, acc ++ [y], s2, .slice (some ⟨g, 0, none⟩) (acc.length + 1) cap, by go_num, by omega, ?_, ?_, HR.out.2.2.2.2.1, ?_, ?_, ?_, ?_⟩, by simp [intOf]; omega⟩
          · simp; omega
          · rw [HR.out.1]; simp
          · rw [heap_setCell_ne _ _ (fun e => h1 e.symm)]; exact H6.out.2.1.obj H5.out.1 hlC'
          · rw [heap_setCell_row hT6]; simp
          · refine own_mod (F := fun b => b = T) ?_ (Mod.setCell (p := ⟨T, o, none⟩) (Mod.refl (fun b => b = T) w6) (.inr rfl) _) (fun k hk f => ?_)
            · have := H6.out.1
              simpa [prCells] using this
            · subst f
              obtain rfl : g = k := by simpa [Value.ownBlock] using hk
              rcases H6.out.2.2 with f | f
              · exact hlb f
              · have := H5.out.2.2.2.2.1; simp at f this; omega
          · refine Mod.setCell ?_ (.inr (.inr rfl)) _
            have m5 : Mod (fun b => b = C ∨ b = T) w w5 := (HR.out.2.2.2.1.alloc (.cells #[.int .u32 0, .int .u32 0] 119)).trans' H5.out.2.1 (fun i hi f => by rcases f with f | f; exact .inl f; omega)
            refine m5.trans' H6.out.2.1 (fun i hi f => ?_)
            rcases HR.out.2.2.1.2 with ⟨rfl, _⟩ | ⟨g', cap', cur', rfl, hg', _⟩
            · simp [Value.ownBlock] at f
            · obtain rfl : g' = i := by simpa [Value.ownBlock] using f
              omega
      · have HR := Lib.hid (And.intro hsp (And.intro hbC (And.intro hbT (And.intro hown hmw))))
        clear hsp hbC hbT hown hmw
        go_wp2
        first | go_end0 | (simp only [Exit.inBlock, Exit.then]; refine bodyPost_ret (results_none rfl _ _ _) rfl ?_) | refine bodyPost_ret (results_none rfl _ _ _) rfl ?_
        obtain ⟨h5, h6, h7, h8, h9⟩ := HR.out
        rw [rmany_short (rpr B) (n - j) (s := (at_, true)) rfl] at h5
        rw [h5]
        exact ⟨rfl, h6, ⟨v, h7, by simpa using h8⟩, h9⟩
    · obtain rfl : n = j := by omega
      have HR := Lib.hid (And.intro hsp (And.intro hbC (And.intro hbT (And.intro hown hmw))))
      clear hsp hbC hbT hown hmw
      go_wp2
      first | go_end0 | (simp only [Exit.inBlock, Exit.then]; refine bodyPost_ret (results_none rfl _ _ _) rfl ?_) | refine bodyPost_ret (results_none rfl _ _ _) rfl ?_
      obtain ⟨h5, h6, h7, h8, h9⟩ := HR.out
      rw [Nat.sub_self] at h5
      rw [h5]
      exact ⟨rfl, h6, ⟨v, h7, by simpa [rmany] using h8⟩, h9⟩
end

section
attribute [local go_sem] stPair gtPair gtK8 gtM6 run_store_func
attribute [local go_sem high] neqPair eqK8 eqM6
open Go.RowKit
set_option linter.unusedVariables false
def M6.of (l : List UInt8) : M6 := ⟨l.getD 0 0, l.getD 1 0, l.getD 2 0, l.getD 3 0, l.getD 4 0, l.getD 5 0⟩
def K8.of (l : List UInt8) : K8 := ⟨l.getD 0 0, l.getD 1 0, l.getD 2 0, l.getD 3 0, l.getD 4 0, l.getD 5 0, l.getD 6 0, l.getD 7 0⟩
/-- A tenant that is being read: its fields so far, the three counts, the reader's state. -/
structure RS where
  t : Ten
  np : Nat
  ns : Nat
  nt : Nat
  s : St
def rsteps (B : List UInt8) : List (RS → RS) := [
  fun r => { r with t := { r.t with name := (rname B r.s).1 }, s := (rname B r.s).2 },
  fun r => { r with t := { r.t with vni := (rnum B 4 r.s).1 }, s := (rnum B 4 r.s).2 },
  fun r => { r with t := { r.t with key := K8.of (rtake B r.s 8).1 }, s := (rtake B r.s 8).2 },
  fun r => { r with t := { r.t with vtep := (rnum B 4 r.s).1 }, s := (rnum B 4 r.s).2 },
  fun r => { r with t := { r.t with vmac := M6.of (rtake B r.s 6).1 }, s := (rtake B r.s 6).2 },
  fun r => { r with t := { r.t with host := M6.of (rtake B r.s 6).1 }, s := (rtake B r.s 6).2 },
  fun r => { r with t := { r.t with lo := (rnum B 2 r.s).1 }, s := (rnum B 2 r.s).2 },
  fun r => { r with t := { r.t with hi := (rnum B 2 r.s).1 }, s := (rnum B 2 r.s).2 },
  fun r => { r with t := { r.t with filter := (rnum B 1 r.s).1 }, s := (rnum B 1 r.s).2 },
  fun r => { r with t := { r.t with sess := (rnum B 2 r.s).1 }, s := (rnum B 2 r.s).2 },
  fun r => { r with t := { r.t with queue := (rnum B 2 r.s).1 }, s := (rnum B 2 r.s).2 },
  fun r => { r with t := { r.t with rate := (rnum B 4 r.s).1 }, s := (rnum B 4 r.s).2 },
  fun r => { r with t := { r.t with burst := (rnum B 4 r.s).1 }, s := (rnum B 4 r.s).2 },
  fun r => { r with np := (rnum B 1 r.s).1, s := (rnum B 1 r.s).2 },
  fun r => { r with ns := (rnum B 1 r.s).1, s := (rnum B 1 r.s).2 },
  fun r => { r with nt := (rnum B 1 r.s).1, s := (rnum B 1 r.s).2 },
  fun r => { r with t := { r.t with pool := (rmany (rnum B 4) r.np r.s).1 }, s := (rmany (rnum B 4) r.np r.s).2 },
  fun r => { r with t := { r.t with statics := (rmany (rpr B) r.ns r.s).1 }, s := (rmany (rpr B) r.ns r.s).2 },
  fun r => { r with t := { r.t with twices := (rmany (rpr B) r.nt r.s).1 }, s := (rmany (rpr B) r.nt r.s).2 }]
def rk (B : List UInt8) (s : St) (k : Nat) : RS := ((rsteps B).take k).foldl (fun r f => f r) ⟨.zero, 0, 0, 0, s⟩
def rten (B : List UInt8) (s : St) : Ten × St := ((rk B s 19).t, (rk B s 19).s)
end

section
attribute [local go_sem] stPair gtPair gtK8 gtM6 run_store_func
attribute [local go_sem high] neqPair eqK8 eqM6
open Go.RowKit
set_option linter.unusedVariables false
set_option maxRecDepth 100000 in
theorem each_u32_rd {S : Nat → Prop} {w : World} {C : Nat} {A : Option Addr} {c : Nat} {s0 : St} (B : List UInt8) (hb : w.heap[C]? = some (rdObj A B.length c s0.1 s0.2)) (hrow : RowAt S w A (bcells B)) (hat : s0.1 ≤ B.length) (hc : B.length ≤ c) (hB : B.length ≤ 100000000) (hS : ¬ S C) {bc X : Nat} (hbc : w.heap[bc]? = some (.cells #[.pointer (some ⟨C, 0, none⟩)] 100 (0, 0))) (hX : w.heap[X]? = some (.cells #[.int .u32 0] 24 (0, 0))) (hXC : X ≠ C) :
    Calls Tryz.prog 86 #[.pointer (some ⟨X, 0, none⟩), .pointer (some ⟨bc, 0, none⟩)] w fun e w' => e = .returned (.tuple #[]) ∧ w'.heap[C]? = some (rdObj A B.length c (rnum B 4 s0).2.1 (rnum B 4 s0).2.2) ∧ w'.heap[X]? = some (.cells [Value.int .u32 ((rnum B 4 s0).1 : Int)].toArray 24 (0, 0)) ∧ Mod (fun b => b = C ∨ b = X) w w' := by
  have HD := Lib.hid (num_u32_rd B hb hrow hat hc hB 4 (by decide) hS (T := X) (o := 0) hX (by decide) hXC)
  have c0 := blk_cell hbc 0
  simp at c0
  clear hb hrow hat hc hB hS hbc hX hXC
  go_enter Tryz.func86, Tryz.ntmps86
  go_wp2_with (first | (go_at_call 63; refine HD.out.mono ?_; rintro e w1 ⟨rfl, hr⟩; have HW := Lib.hid hr; clear hr) | fail)
  go_end0
  exact ⟨rfl, HW.out.1, by simpa [rnum] using HW.out.2.1, HW.out.2.2⟩
set_option maxRecDepth 100000 in
theorem each_pr_rd {S : Nat → Prop} {w : World} {C : Nat} {A : Option Addr} {c : Nat} {s0 : St} (B : List UInt8) (hb : w.heap[C]? = some (rdObj A B.length c s0.1 s0.2)) (hrow : RowAt S w A (bcells B)) (hat : s0.1 ≤ B.length) (hc : B.length ≤ c) (hB : B.length ≤ 100000000) (hS : ¬ S C) {bc X : Nat} (hbc : w.heap[bc]? = some (.cells #[.pointer (some ⟨C, 0, none⟩)] 100 (0, 0))) (hX : w.heap[X]? = some (.cells #[.int .u32 0, .int .u32 0] 119 (0, 0))) (hXC : X ≠ C) (hbC : bc ≠ C) (hSX : ¬ S X) (hbX : bc ≠ X) :
    Calls Tryz.prog 62 #[.pointer (some ⟨X, 0, none⟩), .pointer (some ⟨bc, 0, none⟩)] w fun e w' => e = .returned (.tuple #[]) ∧ w'.heap[C]? = some (rdObj A B.length c (rpr B s0).2.1 (rpr B s0).2.2) ∧ w'.heap[X]? = some (.cells (rpr B s0).1.cells.toArray 119 (0, 0)) ∧ Mod (fun b => b = C ∨ b = X) w w' := by
  have hd1 : ∀ W1, W1 = w.drew → Calls Tryz.prog 63 #[.pointer (some ⟨C, 0, none⟩), .int .i64 4, .pointer (some ⟨X, 0, none⟩)] W1 fun e w' => e = .returned (.tuple #[]) ∧ w'.cell? ⟨bc, 0, none⟩ = some (.pointer (some ⟨C, 0, none⟩)) ∧
      ∀ W2, W2 = w'.drew → Calls Tryz.prog 63 #[.pointer (some ⟨C, 0, none⟩), .int .i64 4, .pointer (some ⟨X, 1, none⟩)] W2 fun e w'' => e = .returned (.tuple #[]) ∧ w''.heap[C]? = some (rdObj A B.length c (rpr B s0).2.1 (rpr B s0).2.2) ∧ w''.heap[X]? = some (.cells (rpr B s0).1.cells.toArray 119 (0, 0)) ∧ Mod (fun b => b = C ∨ b = X) w w'' := by
    intro W1 hW1
    subst hW1
    have hkd : Keeps S w w.drew := Mod.keeps (Mod.drew (Mod.refl No w)) (fun _ _ _ f => f)
    refine (num_u32_rd (w := w.drew) B hb (hrow.keeps hkd) hat hc hB 4 (by decide) hS (T := X) (o := 0) hX (by decide) hXC).mono fun e w' ⟨he, a1, a2, a3⟩ => ?_
    have m1 : Mod (fun b => b = C ∨ b = X) w w' := (Mod.refl _ w).drew.trans a3
    refine ⟨he, (blk_cell (m1.obj hbc (by rintro (f | f); exact hbC f; exact hbX f)) 0).trans rfl, fun W2 hW2 => ?_⟩
    subst hW2
    have hr2 : RowAt S w'.drew A (bcells B) := hrow.keeps ((m1.drew).keeps (fun b _ hs f => by rcases f with f | f; exact hS (by subst f; exact hs); exact hSX (by subst f; exact hs)))
    refine (num_u32_rd (w := w'.drew) B a1 hr2 (rtake_le B _ 4 hat) hc hB 4 (by decide) hS (T := X) (o := 1) a2 (by simp) hXC).mono fun e w'' ⟨he, b1, b2, b3⟩ => ⟨he, b1, ?_, (m1.drew).trans b3⟩
    rw [b2]
    simp [rpr, rnum, Pr.cells]
  have c0 := blk_cell hbc 0
  simp at c0
  have HD := Lib.hid hd1
  obtain ⟨R, hR⟩ : ∃ R : World → Prop, R = fun w'' => w''.heap[C]? = some (rdObj A B.length c (rpr B s0).2.1 (rpr B s0).2.2) ∧ w''.heap[X]? = some (.cells (rpr B s0).1.cells.toArray 119 (0, 0)) ∧ Mod (fun b => b = C ∨ b = X) w w'' := ⟨_, rfl⟩
  have hd2 : ∀ W1, W1 = w.drew → Calls Tryz.prog 63 #[.pointer (some ⟨C, 0, none⟩), .int .i64 4, .pointer (some ⟨X, 0, none⟩)] W1 fun e w' => e = .returned (.tuple #[]) ∧ w'.cell? ⟨bc, 0, none⟩ = some (.pointer (some ⟨C, 0, none⟩)) ∧
      ∀ W2, W2 = w'.drew → Calls Tryz.prog 63 #[.pointer (some ⟨C, 0, none⟩), .int .i64 4, .pointer (some ⟨X, 1, none⟩)] W2 fun e w'' => e = .returned (.tuple #[]) ∧ R w'' := by rw [hR]; exact hd1
  suffices hs : Calls Tryz.prog 62 #[.pointer (some ⟨X, 0, none⟩), .pointer (some ⟨bc, 0, none⟩)] w fun e w' => e = .returned (.tuple #[]) ∧ R w' by
    rw [hR] at hs; exact hs
  have HD := Lib.hid hd2
  clear hb hrow hat hc hB hS hbc hX hXC hbC hSX hbX hd1 hd2 hR
  go_enter Tryz.func62, Tryz.ntmps62
  go_wp2_with fail
  go_region_law (first | (go_simp; go_at_call 63; refine (HD.out _ rfl).mono ?_; rintro e w1 ⟨rfl, d0, hr⟩; have H2 := Lib.hid hr; clear hr))
  all_goals
    go_wp2_with fail
    go_region_law (first | (go_simp; go_at_call 63; refine (H2.out _ rfl).mono ?_; rintro e w2 ⟨rfl, hr⟩; have HW := Lib.hid hr; clear hr))
  all_goals
    go_wp2
    first | go_end0 | (simp only [Exit.inBlock, Exit.then]; refine bodyPost_ret (results_none rfl _ _ _) rfl ?_) | refine bodyPost_ret (results_none rfl _ _ _) rfl ?_
    exact ⟨rfl, HW.out⟩
set_option maxRecDepth 100000 in
theorem ten_lpool_rd {S : Nat → Prop} {w : World} {C : Nat} {A : Option Addr} {c : Nat} {s0 : St} (B : List UInt8) (hb : w.heap[C]? = some (rdObj A B.length c s0.1 s0.2)) (hrow : RowAt S w A (bcells B)) (hat : s0.1 ≤ B.length) (hc : B.length ≤ c) (hB : B.length ≤ 100000000) (hS : ¬ S C) {bc bt bp T o n : Nat} (hST : ¬ S T) (hx : Boxes w bc bt C T o) (hbC : bc ≠ C) (hbT : bc ≠ T) (hn : n ≤ 1000) (hSn : ∀ b, S b → b < w.heap.size) (hp : w.heap[bp]? = some (.cells #[.int .i64 (n : Int)] 3 (0, 0)))
    {cs : Array Value} {t : TypeId} (hT : w.heap[T]? = some (.cells cs t (0, 0))) (ho : o + 23 < cs.size) (h1 : T ≠ C) :
    Calls Tryz.prog 84 #[.pointer (some ⟨bc, 0, none⟩), .pointer (some ⟨bp, 0, none⟩), .pointer (some ⟨bt, 0, none⟩)] w fun e w' => e = .returned (.tuple #[]) ∧ w'.heap[C]? = some (rdObj A B.length c (rmany (rnum B 4) n s0).2.1 (rmany (rnum B 4) n s0).2.2) ∧
      (∃ v, w'.heap[T]? = some (.cells (cs.setIfInBounds (o + 23) v) t (0, 0)) ∧ w'.ownsRow w.heap.size 24 1 v (rmany (rnum B 4) n s0).1.length (numCells (rmany (rnum B 4) n s0).1)) ∧ Mod (fun b => b = C ∨ b = T) w w' := by
  obtain ⟨R, hR⟩ : ∃ R : World → Prop, R = fun w' => w'.heap[C]? = some (rdObj A B.length c (rmany (rnum B 4) n s0).2.1 (rmany (rnum B 4) n s0).2.2) ∧
      (∃ v, w'.heap[T]? = some (.cells (cs.setIfInBounds (o + 23) v) t (0, 0)) ∧ w'.ownsRow w.heap.size 24 1 v (rmany (rnum B 4) n s0).1.length (numCells (rmany (rnum B 4) n s0).1)) ∧ Mod (fun b => b = C ∨ b = T) w w' := ⟨_, rfl⟩
  have hd : ∀ W, W = w.drew → Calls Tryz.prog 85 #[.pointer (some ⟨C, 0, none⟩), .int .i64 n, .pointer (some ⟨T, o + 23, none⟩), .func (.func 86) #[] #[.pointer (some ⟨bc, 0, none⟩)]] W fun e w' => e = .returned (.tuple #[]) ∧ R w' := by
    intro W hW
    subst hW
    rw [hR]
    refine (list_u32_rd (w := w.drew) (S := S) B hb (hrow.keeps (Mod.keeps (Mod.drew (Mod.refl No w)) (fun _ _ _ f => f))) hat hS (T := T) (o := o + 23) hST hT ho h1 n hn 86 (.pointer (some ⟨bc, 0, none⟩)) (fun a W => by go_simp)
      (fun W s X hm hC hs hr hX hXs => ?_)).mono fun e w' ⟨e1, e2, e3, e4⟩ => ⟨e1, e2, e3, (Mod.refl _ w).drew.trans e4⟩
    have hXs' : w.heap.size ≤ X := hXs
    have hlC := lt_of_block hb
    have hbcW := hm.obj (w := w.drew) hx.c (by rintro (f | f); exact hbC f; exact hbT f)
    have hlb := lt_of_block hx.c
    exact each_u32_rd B hC hr hs hc hB hS hbcW hX (by omega)
  have c0 := blk_cell hx.c 0
  have c1 := blk_cell hx.t 0
  have c2 := blk_cell hp 0
  simp at c0 c1 c2
  suffices hs : Calls Tryz.prog 84 #[.pointer (some ⟨bc, 0, none⟩), .pointer (some ⟨bp, 0, none⟩), .pointer (some ⟨bt, 0, none⟩)] w fun e w' => e = .returned (.tuple #[]) ∧ R w' by
    rw [hR] at hs; exact hs
  have HD := Lib.hid hd
  clear hb hrow hat hc hB hS hx hT ho hd hR hp hbC hbT hn h1 hST hSn
  go_enter Tryz.func84, Tryz.ntmps84
  go_wp2_with fail
  go_region_law (first | (go_simp; go_at_call 85; refine (HD.out _ rfl).mono ?_; rintro e w1 ⟨rfl, hr⟩; have HW := Lib.hid hr; clear hr))
  all_goals
    go_wp2
    first | go_end0 | (simp only [Exit.inBlock, Exit.then]; refine bodyPost_ret (results_none rfl _ _ _) rfl ?_) | refine bodyPost_ret (results_none rfl _ _ _) rfl ?_
    exact ⟨rfl, HW.out⟩
set_option maxRecDepth 100000 in
theorem ten_lstatics_rd {S : Nat → Prop} {w : World} {C : Nat} {A : Option Addr} {c : Nat} {s0 : St} (B : List UInt8) (hb : w.heap[C]? = some (rdObj A B.length c s0.1 s0.2)) (hrow : RowAt S w A (bcells B)) (hat : s0.1 ≤ B.length) (hc : B.length ≤ c) (hB : B.length ≤ 100000000) (hS : ¬ S C) {bc bt bp bq T o n : Nat} (hST : ¬ S T) (hx : Boxes w bc bt C T o) (hbC : bc ≠ C) (hbT : bc ≠ T) (hn : n ≤ 1000) (hSn : ∀ b, S b → b < w.heap.size) (hp : w.heap[bp]? = some (.cells #[.int .i64 (n : Int)] 3 (0, 0))) (hq : w.heap[bq]? = some (.cells #[.func (.func 62) #[] #[.pointer (some ⟨bc, 0, none⟩)]] 120 (0, 0)))
    {cs : Array Value} {t : TypeId} (hT : w.heap[T]? = some (.cells cs t (0, 0))) (ho : o + 27 < cs.size) (h1 : T ≠ C) :
    Calls Tryz.prog 87 #[.pointer (some ⟨bc, 0, none⟩), .pointer (some ⟨bp, 0, none⟩), .pointer (some ⟨bt, 0, none⟩), .pointer (some ⟨bq, 0, none⟩)] w fun e w' => e = .returned (.tuple #[]) ∧ w'.heap[C]? = some (rdObj A B.length c (rmany (rpr B) n s0).2.1 (rmany (rpr B) n s0).2.2) ∧
      (∃ v, w'.heap[T]? = some (.cells (cs.setIfInBounds (o + 27) v) t (0, 0)) ∧ w'.ownsRow w.heap.size 119 2 v (rmany (rpr B) n s0).1.length (prCells (rmany (rpr B) n s0).1)) ∧ Mod (fun b => b = C ∨ b = T) w w' := by
  obtain ⟨R, hR⟩ : ∃ R : World → Prop, R = fun w' => w'.heap[C]? = some (rdObj A B.length c (rmany (rpr B) n s0).2.1 (rmany (rpr B) n s0).2.2) ∧
      (∃ v, w'.heap[T]? = some (.cells (cs.setIfInBounds (o + 27) v) t (0, 0)) ∧ w'.ownsRow w.heap.size 119 2 v (rmany (rpr B) n s0).1.length (prCells (rmany (rpr B) n s0).1)) ∧ Mod (fun b => b = C ∨ b = T) w w' := ⟨_, rfl⟩
  have hd : ∀ W, W = w.drew → Calls Tryz.prog 88 #[.pointer (some ⟨C, 0, none⟩), .int .i64 n, .pointer (some ⟨T, o + 27, none⟩), .func (.func 62) #[] #[.pointer (some ⟨bc, 0, none⟩)]] W fun e w' => e = .returned (.tuple #[]) ∧ R w' := by
    intro W hW
    subst hW
    rw [hR]
    refine (list_pr_rd (w := w.drew) (S := S) B hb (hrow.keeps (Mod.keeps (Mod.drew (Mod.refl No w)) (fun _ _ _ f => f))) hat hS (T := T) (o := o + 27) hST hT ho h1 n hn 62 (.pointer (some ⟨bc, 0, none⟩)) (fun a W => by go_simp)
      (fun W s X hm hC hs hr hX hXs => ?_)).mono fun e w' ⟨e1, e2, e3, e4⟩ => ⟨e1, e2, e3, (Mod.refl _ w).drew.trans e4⟩
    have hXs' : w.heap.size ≤ X := hXs
    have hlC := lt_of_block hb
    have hbcW := hm.obj (w := w.drew) hx.c (by rintro (f | f); exact hbC f; exact hbT f)
    have hlb := lt_of_block hx.c
    exact each_pr_rd B hC hr hs hc hB hS hbcW hX (by omega) hbC (fun f => by have := hSn X f; omega) (by omega)
  have c0 := blk_cell hx.c 0
  have c1 := blk_cell hx.t 0
  have c2 := blk_cell hp 0
  have c3 := blk_cell hq 0
  simp at c0 c1 c2 c3
  suffices hs : Calls Tryz.prog 87 #[.pointer (some ⟨bc, 0, none⟩), .pointer (some ⟨bp, 0, none⟩), .pointer (some ⟨bt, 0, none⟩), .pointer (some ⟨bq, 0, none⟩)] w fun e w' => e = .returned (.tuple #[]) ∧ R w' by
    rw [hR] at hs; exact hs
  have HD := Lib.hid hd
  clear hb hrow hat hc hB hS hx hT ho hd hR hp hbC hbT hn h1 hST hSn hq
  go_enter Tryz.func87, Tryz.ntmps87
  go_wp2_with fail
  go_region_law (first | (go_simp; go_at_call 88; refine (HD.out _ rfl).mono ?_; rintro e w1 ⟨rfl, hr⟩; have HW := Lib.hid hr; clear hr))
  all_goals
    go_wp2
    first | go_end0 | (simp only [Exit.inBlock, Exit.then]; refine bodyPost_ret (results_none rfl _ _ _) rfl ?_) | refine bodyPost_ret (results_none rfl _ _ _) rfl ?_
    exact ⟨rfl, HW.out⟩
set_option maxRecDepth 100000 in
theorem ten_ltwices_rd {S : Nat → Prop} {w : World} {C : Nat} {A : Option Addr} {c : Nat} {s0 : St} (B : List UInt8) (hb : w.heap[C]? = some (rdObj A B.length c s0.1 s0.2)) (hrow : RowAt S w A (bcells B)) (hat : s0.1 ≤ B.length) (hc : B.length ≤ c) (hB : B.length ≤ 100000000) (hS : ¬ S C) {bc bt bp bq T o n : Nat} (hST : ¬ S T) (hx : Boxes w bc bt C T o) (hbC : bc ≠ C) (hbT : bc ≠ T) (hn : n ≤ 1000) (hSn : ∀ b, S b → b < w.heap.size) (hp : w.heap[bp]? = some (.cells #[.int .i64 (n : Int)] 3 (0, 0))) (hq : w.heap[bq]? = some (.cells #[.func (.func 62) #[] #[.pointer (some ⟨bc, 0, none⟩)]] 120 (0, 0)))
    {cs : Array Value} {t : TypeId} (hT : w.heap[T]? = some (.cells cs t (0, 0))) (ho : o + 28 < cs.size) (h1 : T ≠ C) :
    Calls Tryz.prog 89 #[.pointer (some ⟨bc, 0, none⟩), .pointer (some ⟨bp, 0, none⟩), .pointer (some ⟨bt, 0, none⟩), .pointer (some ⟨bq, 0, none⟩)] w fun e w' => e = .returned (.tuple #[]) ∧ w'.heap[C]? = some (rdObj A B.length c (rmany (rpr B) n s0).2.1 (rmany (rpr B) n s0).2.2) ∧
      (∃ v, w'.heap[T]? = some (.cells (cs.setIfInBounds (o + 28) v) t (0, 0)) ∧ w'.ownsRow w.heap.size 119 2 v (rmany (rpr B) n s0).1.length (prCells (rmany (rpr B) n s0).1)) ∧ Mod (fun b => b = C ∨ b = T) w w' := by
  obtain ⟨R, hR⟩ : ∃ R : World → Prop, R = fun w' => w'.heap[C]? = some (rdObj A B.length c (rmany (rpr B) n s0).2.1 (rmany (rpr B) n s0).2.2) ∧
      (∃ v, w'.heap[T]? = some (.cells (cs.setIfInBounds (o + 28) v) t (0, 0)) ∧ w'.ownsRow w.heap.size 119 2 v (rmany (rpr B) n s0).1.length (prCells (rmany (rpr B) n s0).1)) ∧ Mod (fun b => b = C ∨ b = T) w w' := ⟨_, rfl⟩
  have hd : ∀ W, W = w.drew → Calls Tryz.prog 88 #[.pointer (some ⟨C, 0, none⟩), .int .i64 n, .pointer (some ⟨T, o + 28, none⟩), .func (.func 62) #[] #[.pointer (some ⟨bc, 0, none⟩)]] W fun e w' => e = .returned (.tuple #[]) ∧ R w' := by
    intro W hW
    subst hW
    rw [hR]
    refine (list_pr_rd (w := w.drew) (S := S) B hb (hrow.keeps (Mod.keeps (Mod.drew (Mod.refl No w)) (fun _ _ _ f => f))) hat hS (T := T) (o := o + 28) hST hT ho h1 n hn 62 (.pointer (some ⟨bc, 0, none⟩)) (fun a W => by go_simp)
      (fun W s X hm hC hs hr hX hXs => ?_)).mono fun e w' ⟨e1, e2, e3, e4⟩ => ⟨e1, e2, e3, (Mod.refl _ w).drew.trans e4⟩
    have hXs' : w.heap.size ≤ X := hXs
    have hlC := lt_of_block hb
    have hbcW := hm.obj (w := w.drew) hx.c (by rintro (f | f); exact hbC f; exact hbT f)
    have hlb := lt_of_block hx.c
    exact each_pr_rd B hC hr hs hc hB hS hbcW hX (by omega) hbC (fun f => by have := hSn X f; omega) (by omega)
  have c0 := blk_cell hx.c 0
  have c1 := blk_cell hx.t 0
  have c2 := blk_cell hp 0
  have c3 := blk_cell hq 0
  simp at c0 c1 c2 c3
  suffices hs : Calls Tryz.prog 89 #[.pointer (some ⟨bc, 0, none⟩), .pointer (some ⟨bp, 0, none⟩), .pointer (some ⟨bt, 0, none⟩), .pointer (some ⟨bq, 0, none⟩)] w fun e w' => e = .returned (.tuple #[]) ∧ R w' by
    rw [hR] at hs; exact hs
  have HD := Lib.hid hd
  clear hb hrow hat hc hB hS hx hT ho hd hR hp hbC hbT hn h1 hST hSn hq
  go_enter Tryz.func89, Tryz.ntmps89
  go_wp2_with fail
  go_region_law (first | (go_simp; go_at_call 88; refine (HD.out _ rfl).mono ?_; rintro e w1 ⟨rfl, hr⟩; have HW := Lib.hid hr; clear hr))
  all_goals
    go_wp2
    first | go_end0 | (simp only [Exit.inBlock, Exit.then]; refine bodyPost_ret (results_none rfl _ _ _) rfl ?_) | refine bodyPost_ret (results_none rfl _ _ _) rfl ?_
    exact ⟨rfl, HW.out⟩
end

end Go.Proofs.YtpkieilmlnlpkaaGreat
