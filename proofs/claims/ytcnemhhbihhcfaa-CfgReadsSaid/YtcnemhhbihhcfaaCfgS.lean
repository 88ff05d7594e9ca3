/-
  Package cfg: a tenant, writing: the nineteen steps; a tenant's bytes.
-/
import Derived.Test.YtcnemhhbihhcfaaCfgR
namespace Go.Proofs.Ytcnemhhbihhcfaa
open Go.RowKit
set_option linter.unusedVariables false

/-- A number as its low 64 bits. -/
def u64n (z : Int) : Nat := (IntKind.u64.wrap z).toNat
theorem u64n_cast (z : Int) : IntKind.u64.wrap z = (u64n z : Int) := by
  unfold u64n
  have : 0 ≤ IntKind.u64.wrap z := by simp [IntKind.wrap, IntKind.bits, IntKind.signed]; omega
  omega
/-- A tenant's bytes, field by field. -/
def wfields (t : Ten) : List (List UInt8) :=
  [nameB' t.name, be 4 t.vni, t.key.l, be 4 t.vtep, t.vmac.l, t.host.l, be 2 t.lo, be 2 t.hi, be 1 (u64n t.filter), be 2 (u64n t.sess), be 2 (u64n t.queue), be 4 t.rate, be 4 t.burst,
    be 1 (min t.pool.length 255), be 1 (min t.statics.length 255), be 1 (min t.twices.length 255), nums4 (t.pool.take 255), prs8 (t.statics.take 255), prs8 (t.twices.take 255)]
def wpre (L : List UInt8) (t : Ten) (k : Nat) : List UInt8 := ((wfields t).take k).foldl (· ++ ·) L
def wten (t : Ten) : List UInt8 := (wfields t).flatten
theorem foldl_app : ∀ (l : List (List UInt8)) (L : List UInt8), l.foldl (· ++ ·) L = L ++ l.flatten
  | [], L => by simp
  | x :: l, L => by rw [List.foldl_cons, foldl_app l]; simp
theorem wpre_all (L : List UInt8) (t : Ten) : wpre L t 19 = L ++ wten t := foldl_app _ _
/-- The name, cut. -/
def Ten.cut (t : Ten) : Ten := { t with name := t.name.take 255 }
/-- Each number lies in its type. -/
structure Ten.Ok (t : Ten) : Prop where
  vni : t.vni < 4294967296
  vtep : t.vtep < 4294967296
  lo : t.lo < 65536
  hi : t.hi < 65536
  rate : t.rate < 4294967296
  burst : t.burst < 4294967296
  pool : ∀ x ∈ t.pool, x < 4294967296
  statics : ∀ x ∈ t.statics, x.a < 4294967296 ∧ x.b < 4294967296
  twices : ∀ x ∈ t.twices, x.a < 4294967296 ∧ x.b < 4294967296

theorem mid_get {pre X post : List Value} {o j : Nat} (ho : pre.length = o) (hj : j < X.length) : (pre ++ X ++ post)[o + j]? = X[j]? := by
  rw [List.append_assoc, List.getElem?_append_right (by omega), List.getElem?_append_left (by omega)]
  congr 1
  omega
theorem mid_set {pre X post : List Value} {o j : Nat} (ho : pre.length = o) (hj : j < X.length) (v : Value) : (pre ++ X ++ post).set (o + j) v = pre ++ X.set j v ++ post := by
  rw [List.append_assoc, List.set_append_right _ _ (by omega), List.set_append_left _ _ (by omega), List.append_assoc]
  congr 3
  omega

structure TW (w0 : World) (n C base T : Nat) (v0 : Value) (pre post : List Value) (tt : TypeId) (vp vs vt : Value) (t : Ten) (np ns nt : Nat) (X : List UInt8) (v : Value) (w : World) : Prop where
  wr : Wr w C base X v
  row : ∀ g, v.ownBlock = some g → v0.ownBlock = some g ∨ w0.heap.size ≤ g
  ten : w.heap[T]? = some (.cells (pre ++ (t.cells vp vs vt).toList ++ post).toArray tt (0, 0))
  mod : Mod (fun b => b = C ∨ v0.ownBlock = some b ∨ b = T ∨ n + 2 ≤ b ∧ b ≤ n + 4) w0 w
  hp : w.heap[n + 2]? = some (.cells #[.int .i64 (np : Int)] 3 (0, 0))
  hs : w.heap[n + 3]? = some (.cells #[.int .i64 (ns : Int)] 3 (0, 0))
  ht : w.heap[n + 4]? = some (.cells #[.int .i64 (nt : Int)] 3 (0, 0))
/-- What the walk's first world gives, and what the call was given. -/
structure TG (w0 : World) (n C base T o : Nat) (v0 : Value) (pre post : List Value) (tt : TypeId) (vp vs vt : Value) (t : Ten) : Prop where
  bx : Boxes w0 n (n + 1) C T o
  pr : w0.heap[n + 5]? = some (.cells #[.func (.func 49) #[] #[bxv n]] 97 (0, 0))
  rw6 : w0.heap[n + 6]? = some (.cells (tenRow n).toArray 1 (0, 0))
  C_lt : C < n
  T_lt : T < n
  TC : T ≠ C
  T_ge : base ≤ T
  own : ∀ g, v0.ownBlock = some g → base ≤ g ∧ g < n
  base_le : base ≤ n
  C_ge : base ≤ C
  tt5 : tt ≠ 5
  ho : pre.length = o
  ok : t.Ok
  name : t.name.length ≤ 100000000
  rows : ∃ P p Q q R r, vp = .slice P t.pool.length p ∧ vs = .slice Q t.statics.length q ∧ vt = .slice R t.twices.length r ∧ RowAt (· < base) w0 P (numCells t.pool) ∧ RowAt (· < base) w0 Q (prCells t.statics) ∧ RowAt (· < base) w0 R (prCells t.twices)

section
variable {w0 : World} {n C base T o : Nat} {v0 : Value} {pre post : List Value} {tt : TypeId} {vp vs vt : Value} {t t1 : Ten} {np ns nt : Nat} {X : List UInt8} {v : Value} {w : World}

theorem TG.gt (g : TG w0 n C base T o v0 pre post tt vp vs vt t) : n + 6 < w0.heap.size := lt_of_block g.rw6
theorem TW.keep (h : TW w0 n C base T v0 pre post tt vp vs vt t1 np ns nt X v w) (g : TG w0 n C base T o v0 pre post tt vp vs vt t) {b : Nat} {ob : Obj} (hb : w0.heap[b]? = some ob) (h1 : n ≤ b) (h2 : b < n + 2 ∨ n + 4 < b) : w.heap[b]? = some ob := by
  refine h.mod.obj hb ?_
  have := g.C_lt
  have := g.T_lt
  rintro (f | f | f | f)
  · omega
  · have := (g.own b f).2; omega
  · omega
  · omega
theorem TW.boxes (h : TW w0 n C base T v0 pre post tt vp vs vt t1 np ns nt X v w) (g : TG w0 n C base T o v0 pre post tt vp vs vt t) : Boxes w n (n + 1) C T o :=
  ⟨h.keep g g.bx.c (by omega) (by omega), h.keep g g.bx.t (by omega) (by omega)⟩
theorem TW.below (h : TW w0 n C base T v0 pre post tt vp vs vt t1 np ns nt X v w) (g : TG w0 n C base T o v0 pre post tt vp vs vt t) {A : Option Addr} {cs : List Value} (hr : RowAt (· < base) w0 A cs) : RowAt (fun b => b ≠ C ∧ v.ownBlock ≠ some b ∧ b < w.heap.size) w A cs := by
  have k1 := g.C_ge
  have k2 := g.base_le
  have k3 := g.gt
  have k4 := h.mod.size
  have k5 := g.T_ge
  refine (hr.keeps (h.mod.keeps (fun b hb hs f => ?_))).mono (fun b hb hs => ⟨by omega, fun e => by have := (h.wr.lt e).1; omega, hb⟩)
  rcases f with f | f | f | f
  · omega
  · have := (g.own b f).1; omega
  · omega
  · omega
/-- What a step turned of v's, seen from the first world. -/
theorem TW.mod' (h : TW w0 n C base T v0 pre post tt vp vs vt t1 np ns nt X v w) {w' : World} {E : Nat → Prop} (hm : Mod (fun b => b = C ∨ v.ownBlock = some b ∨ E b) w w') (hE : ∀ b, E b → b = T ∨ n + 2 ≤ b ∧ b ≤ n + 4) :
    Mod (fun b => b = C ∨ v0.ownBlock = some b ∨ b = T ∨ n + 2 ≤ b ∧ b ≤ n + 4) w0 w' :=
  h.mod.trans' hm fun i hi f => by
    rcases f with f | f | f
    · exact .inl f
    · rcases h.row i f with f | f
      · exact .inr (.inl f)
      · omega
    · exact .inr (.inr (hE i f))
theorem TW.row' (h : TW w0 n C base T v0 pre post tt vp vs vt t1 np ns nt X v w) {v' : Value} (hr : ∀ g, v'.ownBlock = some g → v.ownBlock = some g ∨ w.heap.size ≤ g) : ∀ g, v'.ownBlock = some g → v0.ownBlock = some g ∨ w0.heap.size ≤ g := by
  intro g hg
  rcases hr g hg with f | f
  · exact h.row g f
  · exact .inr (Nat.le_trans h.mod.size f)
theorem TW.next (h : TW w0 n C base T v0 pre post tt vp vs vt t1 np ns nt X v w) (g : TG w0 n C base T o v0 pre post tt vp vs vt t) {X' : List UInt8} {v' : Value} {w' : World} (hw : Wr w' C base X' v') (hm : WMod C v w v' w') :
    TW w0 n C base T v0 pre post tt vp vs vt t1 np ns nt X' v' w' := by
  have k1 := g.C_lt
  exact ⟨hw, h.row' hm.row, hm.obj h.ten g.TC (h.wr.ne h.ten g.tt5), h.mod' (E := fun _ => False) (hm.mod.mono (fun i f => by rcases f with f | f; exact .inl f; exact .inr (.inl f))) (fun _ f => f.elim),
    hm.obj h.hp (by omega) (h.wr.ne h.hp (by decide)), hm.obj h.hs (by omega) (h.wr.ne h.hs (by decide)), hm.obj h.ht (by omega) (h.wr.ne h.ht (by decide))⟩
theorem TW.cell (h : TW w0 n C base T v0 pre post tt vp vs vt t1 np ns nt X v w) (g : TG w0 n C base T o v0 pre post tt vp vs vt t) {j : Nat} {u : Value} (hj : j < 33) (hu : (t1.cells vp vs vt).toList[j]? = some u) : w.cell? ⟨T, o + j, none⟩ = some u := by
  rw [blk_cell h.ten, List.getElem?_toArray, mid_get g.ho (by simpa [Ten.cells] using hj), hu]
theorem TW.neT (h : TW w0 n C base T v0 pre post tt vp vs vt t1 np ns nt X v w) (g : TG w0 n C base T o v0 pre post tt vp vs vt t) : v.ownBlock ≠ some T := h.wr.ne h.ten g.tt5
end

theorem take_min {α : Type} (l : List α) : l.take (min l.length 255) = l.take 255 := by
  rcases Nat.le_total l.length 255 with h | h
  · rw [Nat.min_eq_left h, List.take_of_length_le (Nat.le_refl _), List.take_of_length_le h]
  · rw [Nat.min_eq_right h]
/-- The state behind k steps. -/
def TS (t : Ten) (L : List UInt8) (k : Nat) : Ten × Nat × Nat × Nat × List UInt8 :=
  (if k = 0 then t else t.cut, if k ≤ 13 then 0 else min t.pool.length 255, if k ≤ 14 then 0 else min t.statics.length 255, if k ≤ 15 then 0 else min t.twices.length 255, wpre L t k)
def TI (w0 : World) (n C base T : Nat) (v0 : Value) (pre post : List Value) (tt : TypeId) (vp vs vt : Value) (t : Ten) (L : List UInt8) (k : Nat) (w : World) : Prop :=
  ∃ v, TW w0 n C base T v0 pre post tt vp vs vt (TS t L k).1 (TS t L k).2.1 (TS t L k).2.2.1 (TS t L k).2.2.2.1 (TS t L k).2.2.2.2 v w
section
variable {w0 : World} {n C base T o : Nat} {v0 : Value} {pre post : List Value} {tt : TypeId} {vp vs vt : Value} {t : Ten} {L : List UInt8} {v : Value} {w : World}
theorem TS_out (t : Ten) (L : List UInt8) : TS t L 19 = (t.cut, min t.pool.length 255, min t.statics.length 255, min t.twices.length 255, L ++ wten t) := by rw [← wpre_all]; rfl

theorem ti_0 (g : TG w0 n C base T o v0 pre post tt vp vs vt t) (hL : (wpre L t 0).length ≤ 80000000) (h : TI w0 n C base T v0 pre post tt vp vs vt t L 0 w) :
    Calls Try.prog 51 #[bxv n, bxv (n + 1)] w fun e w' => e = .returned (.tuple #[]) ∧ TI w0 n C base T v0 pre post tt vp vs vt t L 1 w' := by
  obtain ⟨v, h⟩ := h
  replace h : TW w0 n C base T v0 pre post tt vp vs vt t 0 0 0 (wpre L t 0) v w := h
  have hb : base ≤ w.heap.size := by have := g.base_le; have := g.gt; have := h.mod.size; omega
  refine (ten_name_wr h.wr hb (by omega) (h.boxes g) t.name g.name h.ten (by rw [List.getElem?_toArray]; exact mid_get (j := 0) g.ho (by simp [Ten.cells])) g.TC (h.neT g)).mono fun e w' ⟨he, v', a1, a2, a3, a4⟩ => ⟨he, v', a1, h.row' a4, ?_, h.mod' (E := fun b => b = T) a3 (fun b e => .inl e), ?_, ?_, ?_⟩
  · rw [a2, List.setIfInBounds_toArray]
    have := mid_set (pre := pre) (X := (t.cells vp vs vt).toList) (post := post) (j := 0) g.ho (by simp [Ten.cells]) (.string (str (t.name.take 255)))
    rw [Nat.add_zero] at this
    rw [this]
    rfl
  · exact a3.obj h.hp (by have := g.C_lt; have := g.T_lt; rintro (f | f | f); omega; exact h.wr.ne h.hp (by decide) f; omega)
  · exact a3.obj h.hs (by have := g.C_lt; have := g.T_lt; rintro (f | f | f); omega; exact h.wr.ne h.hs (by decide) f; omega)
  · exact a3.obj h.ht (by have := g.C_lt; have := g.T_lt; rintro (f | f | f); omega; exact h.wr.ne h.ht (by decide) f; omega)
theorem ti_1 (g : TG w0 n C base T o v0 pre post tt vp vs vt t) (hL : (wpre L t 1).length ≤ 80000000) (h : TI w0 n C base T v0 pre post tt vp vs vt t L 1 w) :
    Calls Try.prog 52 #[bxv n, bxv (n + 1)] w fun e w' => e = .returned (.tuple #[]) ∧ TI w0 n C base T v0 pre post tt vp vs vt t L 2 w' := by
  obtain ⟨v, h⟩ := h
  replace h : TW w0 n C base T v0 pre post tt vp vs vt t.cut 0 0 0 (wpre L t 1) v w := h
  have hb : base ≤ w.heap.size := by have := g.base_le; have := g.gt; have := h.mod.size; omega
  exact (ten_vni_wr h.wr hb (by omega) (h.boxes g) (h.cell g (j := 1) (by decide) rfl) (wrap_u64 t.vni (Nat.lt_trans g.ok.vni (by decide))) g.TC (h.neT g)).mono fun e w' ⟨he, v', a1, a2⟩ => ⟨he, v', h.next g a1 a2⟩
theorem ti_2 (g : TG w0 n C base T o v0 pre post tt vp vs vt t) (hL : (wpre L t 2).length ≤ 80000000) (h : TI w0 n C base T v0 pre post tt vp vs vt t L 2 w) :
    Calls Try.prog 53 #[bxv n, bxv (n + 1)] w fun e w' => e = .returned (.tuple #[]) ∧ TI w0 n C base T v0 pre post tt vp vs vt t L 3 w' := by
  obtain ⟨v, h⟩ := h
  replace h : TW w0 n C base T v0 pre post tt vp vs vt t.cut 0 0 0 (wpre L t 2) v w := h
  have hb : base ≤ w.heap.size := by have := g.base_le; have := g.gt; have := h.mod.size; omega
  have hX : ∀ j u, (bcells t.key.l)[j]? = some u → w.cell? ⟨T, o + 2 + j, none⟩ = some u := by
    intro j u hj
    have hj8 : j < 8 := (List.getElem?_eq_some_iff.1 hj).1
    match j, hj8, hj with
    | 0, _, hj => exact h.cell g (j := 2) (by decide) hj
    | 1, _, hj => exact h.cell g (j := 3) (by decide) hj
    | 2, _, hj => exact h.cell g (j := 4) (by decide) hj
    | 3, _, hj => exact h.cell g (j := 5) (by decide) hj
    | 4, _, hj => exact h.cell g (j := 6) (by decide) hj
    | 5, _, hj => exact h.cell g (j := 7) (by decide) hj
    | 6, _, hj => exact h.cell g (j := 8) (by decide) hj
    | 7, _, hj => exact h.cell g (j := 9) (by decide) hj
  exact (ten_key_wr h.wr hb (by omega) (h.boxes g) t.key.l rfl hX).mono fun e w' ⟨he, v', a1, a2⟩ => ⟨he, v', h.next g a1 a2⟩
theorem ti_3 (g : TG w0 n C base T o v0 pre post tt vp vs vt t) (hL : (wpre L t 3).length ≤ 80000000) (h : TI w0 n C base T v0 pre post tt vp vs vt t L 3 w) :
    Calls Try.prog 55 #[bxv n, bxv (n + 1)] w fun e w' => e = .returned (.tuple #[]) ∧ TI w0 n C base T v0 pre post tt vp vs vt t L 4 w' := by
  obtain ⟨v, h⟩ := h
  replace h : TW w0 n C base T v0 pre post tt vp vs vt t.cut 0 0 0 (wpre L t 3) v w := h
  have hb : base ≤ w.heap.size := by have := g.base_le; have := g.gt; have := h.mod.size; omega
  exact (ten_vtep_wr h.wr hb (by omega) (h.boxes g) (h.cell g (j := 10) (by decide) rfl) (wrap_u64 t.vtep (Nat.lt_trans g.ok.vtep (by decide))) g.TC (h.neT g)).mono fun e w' ⟨he, v', a1, a2⟩ => ⟨he, v', h.next g a1 a2⟩
theorem ti_4 (g : TG w0 n C base T o v0 pre post tt vp vs vt t) (hL : (wpre L t 4).length ≤ 80000000) (h : TI w0 n C base T v0 pre post tt vp vs vt t L 4 w) :
    Calls Try.prog 56 #[bxv n, bxv (n + 1)] w fun e w' => e = .returned (.tuple #[]) ∧ TI w0 n C base T v0 pre post tt vp vs vt t L 5 w' := by
  obtain ⟨v, h⟩ := h
  replace h : TW w0 n C base T v0 pre post tt vp vs vt t.cut 0 0 0 (wpre L t 4) v w := h
  have hb : base ≤ w.heap.size := by have := g.base_le; have := g.gt; have := h.mod.size; omega
  have hX : ∀ j u, (bcells t.vmac.l)[j]? = some u → w.cell? ⟨T, o + 11 + j, none⟩ = some u := by
    intro j u hj
    have hj8 : j < 6 := (List.getElem?_eq_some_iff.1 hj).1
    match j, hj8, hj with
    | 0, _, hj => exact h.cell g (j := 11) (by decide) hj
    | 1, _, hj => exact h.cell g (j := 12) (by decide) hj
    | 2, _, hj => exact h.cell g (j := 13) (by decide) hj
    | 3, _, hj => exact h.cell g (j := 14) (by decide) hj
    | 4, _, hj => exact h.cell g (j := 15) (by decide) hj
    | 5, _, hj => exact h.cell g (j := 16) (by decide) hj
  exact (ten_vmac_wr h.wr hb (by omega) (h.boxes g) t.vmac.l rfl hX).mono fun e w' ⟨he, v', a1, a2⟩ => ⟨he, v', h.next g a1 a2⟩
theorem ti_5 (g : TG w0 n C base T o v0 pre post tt vp vs vt t) (hL : (wpre L t 5).length ≤ 80000000) (h : TI w0 n C base T v0 pre post tt vp vs vt t L 5 w) :
    Calls Try.prog 57 #[bxv n, bxv (n + 1)] w fun e w' => e = .returned (.tuple #[]) ∧ TI w0 n C base T v0 pre post tt vp vs vt t L 6 w' := by
  obtain ⟨v, h⟩ := h
  replace h : TW w0 n C base T v0 pre post tt vp vs vt t.cut 0 0 0 (wpre L t 5) v w := h
  have hb : base ≤ w.heap.size := by have := g.base_le; have := g.gt; have := h.mod.size; omega
  have hX : ∀ j u, (bcells t.host.l)[j]? = some u → w.cell? ⟨T, o + 17 + j, none⟩ = some u := by
    intro j u hj
    have hj8 : j < 6 := (List.getElem?_eq_some_iff.1 hj).1
    match j, hj8, hj with
    | 0, _, hj => exact h.cell g (j := 17) (by decide) hj
    | 1, _, hj => exact h.cell g (j := 18) (by decide) hj
    | 2, _, hj => exact h.cell g (j := 19) (by decide) hj
    | 3, _, hj => exact h.cell g (j := 20) (by decide) hj
    | 4, _, hj => exact h.cell g (j := 21) (by decide) hj
    | 5, _, hj => exact h.cell g (j := 22) (by decide) hj
  exact (ten_host_wr h.wr hb (by omega) (h.boxes g) t.host.l rfl hX).mono fun e w' ⟨he, v', a1, a2⟩ => ⟨he, v', h.next g a1 a2⟩
theorem ti_6 (g : TG w0 n C base T o v0 pre post tt vp vs vt t) (hL : (wpre L t 6).length ≤ 80000000) (h : TI w0 n C base T v0 pre post tt vp vs vt t L 6 w) :
    Calls Try.prog 58 #[bxv n, bxv (n + 1)] w fun e w' => e = .returned (.tuple #[]) ∧ TI w0 n C base T v0 pre post tt vp vs vt t L 7 w' := by
  obtain ⟨v, h⟩ := h
  replace h : TW w0 n C base T v0 pre post tt vp vs vt t.cut 0 0 0 (wpre L t 6) v w := h
  have hb : base ≤ w.heap.size := by have := g.base_le; have := g.gt; have := h.mod.size; omega
  exact (ten_lo_wr h.wr hb (by omega) (h.boxes g) (h.cell g (j := 24) (by decide) rfl) (wrap_u64 t.lo (Nat.lt_trans g.ok.lo (by decide))) g.TC (h.neT g)).mono fun e w' ⟨he, v', a1, a2⟩ => ⟨he, v', h.next g a1 a2⟩
theorem ti_7 (g : TG w0 n C base T o v0 pre post tt vp vs vt t) (hL : (wpre L t 7).length ≤ 80000000) (h : TI w0 n C base T v0 pre post tt vp vs vt t L 7 w) :
    Calls Try.prog 60 #[bxv n, bxv (n + 1)] w fun e w' => e = .returned (.tuple #[]) ∧ TI w0 n C base T v0 pre post tt vp vs vt t L 8 w' := by
  obtain ⟨v, h⟩ := h
  replace h : TW w0 n C base T v0 pre post tt vp vs vt t.cut 0 0 0 (wpre L t 7) v w := h
  have hb : base ≤ w.heap.size := by have := g.base_le; have := g.gt; have := h.mod.size; omega
  exact (ten_hi_wr h.wr hb (by omega) (h.boxes g) (h.cell g (j := 25) (by decide) rfl) (wrap_u64 t.hi (Nat.lt_trans g.ok.hi (by decide))) g.TC (h.neT g)).mono fun e w' ⟨he, v', a1, a2⟩ => ⟨he, v', h.next g a1 a2⟩
theorem ti_8 (g : TG w0 n C base T o v0 pre post tt vp vs vt t) (hL : (wpre L t 8).length ≤ 80000000) (h : TI w0 n C base T v0 pre post tt vp vs vt t L 8 w) :
    Calls Try.prog 61 #[bxv n, bxv (n + 1)] w fun e w' => e = .returned (.tuple #[]) ∧ TI w0 n C base T v0 pre post tt vp vs vt t L 9 w' := by
  obtain ⟨v, h⟩ := h
  replace h : TW w0 n C base T v0 pre post tt vp vs vt t.cut 0 0 0 (wpre L t 8) v w := h
  have hb : base ≤ w.heap.size := by have := g.base_le; have := g.gt; have := h.mod.size; omega
  exact (ten_filter_wr h.wr hb (by omega) (h.boxes g) (h.cell g (j := 26) (by decide) rfl) (u64n_cast _) g.TC (h.neT g)).mono fun e w' ⟨he, v', a1, a2⟩ => ⟨he, v', h.next g a1 a2⟩
theorem ti_9 (g : TG w0 n C base T o v0 pre post tt vp vs vt t) (hL : (wpre L t 9).length ≤ 80000000) (h : TI w0 n C base T v0 pre post tt vp vs vt t L 9 w) :
    Calls Try.prog 63 #[bxv n, bxv (n + 1)] w fun e w' => e = .returned (.tuple #[]) ∧ TI w0 n C base T v0 pre post tt vp vs vt t L 10 w' := by
  obtain ⟨v, h⟩ := h
  replace h : TW w0 n C base T v0 pre post tt vp vs vt t.cut 0 0 0 (wpre L t 9) v w := h
  have hb : base ≤ w.heap.size := by have := g.base_le; have := g.gt; have := h.mod.size; omega
  exact (ten_sess_wr h.wr hb (by omega) (h.boxes g) (h.cell g (j := 29) (by decide) rfl) (u64n_cast _) g.TC (h.neT g)).mono fun e w' ⟨he, v', a1, a2⟩ => ⟨he, v', h.next g a1 a2⟩
theorem ti_10 (g : TG w0 n C base T o v0 pre post tt vp vs vt t) (hL : (wpre L t 10).length ≤ 80000000) (h : TI w0 n C base T v0 pre post tt vp vs vt t L 10 w) :
    Calls Try.prog 64 #[bxv n, bxv (n + 1)] w fun e w' => e = .returned (.tuple #[]) ∧ TI w0 n C base T v0 pre post tt vp vs vt t L 11 w' := by
  obtain ⟨v, h⟩ := h
  replace h : TW w0 n C base T v0 pre post tt vp vs vt t.cut 0 0 0 (wpre L t 10) v w := h
  have hb : base ≤ w.heap.size := by have := g.base_le; have := g.gt; have := h.mod.size; omega
  exact (ten_queue_wr h.wr hb (by omega) (h.boxes g) (h.cell g (j := 30) (by decide) rfl) (u64n_cast _) g.TC (h.neT g)).mono fun e w' ⟨he, v', a1, a2⟩ => ⟨he, v', h.next g a1 a2⟩
theorem ti_11 (g : TG w0 n C base T o v0 pre post tt vp vs vt t) (hL : (wpre L t 11).length ≤ 80000000) (h : TI w0 n C base T v0 pre post tt vp vs vt t L 11 w) :
    Calls Try.prog 65 #[bxv n, bxv (n + 1)] w fun e w' => e = .returned (.tuple #[]) ∧ TI w0 n C base T v0 pre post tt vp vs vt t L 12 w' := by
  obtain ⟨v, h⟩ := h
  replace h : TW w0 n C base T v0 pre post tt vp vs vt t.cut 0 0 0 (wpre L t 11) v w := h
  have hb : base ≤ w.heap.size := by have := g.base_le; have := g.gt; have := h.mod.size; omega
  exact (ten_rate_wr h.wr hb (by omega) (h.boxes g) (h.cell g (j := 31) (by decide) rfl) (wrap_u64 t.rate (Nat.lt_trans g.ok.rate (by decide))) g.TC (h.neT g)).mono fun e w' ⟨he, v', a1, a2⟩ => ⟨he, v', h.next g a1 a2⟩
theorem ti_12 (g : TG w0 n C base T o v0 pre post tt vp vs vt t) (hL : (wpre L t 12).length ≤ 80000000) (h : TI w0 n C base T v0 pre post tt vp vs vt t L 12 w) :
    Calls Try.prog 66 #[bxv n, bxv (n + 1)] w fun e w' => e = .returned (.tuple #[]) ∧ TI w0 n C base T v0 pre post tt vp vs vt t L 13 w' := by
  obtain ⟨v, h⟩ := h
  replace h : TW w0 n C base T v0 pre post tt vp vs vt t.cut 0 0 0 (wpre L t 12) v w := h
  have hb : base ≤ w.heap.size := by have := g.base_le; have := g.gt; have := h.mod.size; omega
  exact (ten_burst_wr h.wr hb (by omega) (h.boxes g) (h.cell g (j := 32) (by decide) rfl) (wrap_u64 t.burst (Nat.lt_trans g.ok.burst (by decide))) g.TC (h.neT g)).mono fun e w' ⟨he, v', a1, a2⟩ => ⟨he, v', h.next g a1 a2⟩
theorem ti_13 (g : TG w0 n C base T o v0 pre post tt vp vs vt t) (hL : (wpre L t 13).length ≤ 80000000) (h : TI w0 n C base T v0 pre post tt vp vs vt t L 13 w) :
    Calls Try.prog 67 #[bxv n, bxv (n + 1), bxv (n + 2)] w fun e w' => e = .returned (.tuple #[]) ∧ TI w0 n C base T v0 pre post tt vp vs vt t L 14 w' := by
  obtain ⟨v, h⟩ := h
  replace h : TW w0 n C base T v0 pre post tt vp vs vt t.cut 0 0 0 (wpre L t 13) v w := h
  have hb : base ≤ w.heap.size := by have := g.base_le; have := g.gt; have := h.mod.size; omega
  obtain ⟨P, p, Q, q, R, r, e1, e2, e3, r1, r2, r3⟩ := g.rows
  subst e1 e2 e3
  refine (ten_npool_wr h.wr hb (by omega) (h.boxes g) (h.cell g (j := 23) (by decide) rfl) h.hp (by have := g.C_lt; omega) (h.wr.ne h.hp (by decide))).mono fun e w' ⟨he, v', a1, a2, a3, a4⟩ => ⟨he, v', a1, h.row' a4, ?_, h.mod' (E := fun b => b = n + 2) a3 (fun b e => .inr (by omega)), a2, ?_, ?_⟩
  · exact a3.obj h.ten (by have := g.C_lt; have := g.T_lt; rintro (f | f | f); exact g.TC f; exact h.neT g f; omega)
  · exact a3.obj h.hs (by have := g.C_lt; have := g.T_lt; rintro (f | f | f); omega; exact h.wr.ne h.hs (by decide) f; omega)
  · exact a3.obj h.ht (by have := g.C_lt; have := g.T_lt; rintro (f | f | f); omega; exact h.wr.ne h.ht (by decide) f; omega)
theorem ti_14 (g : TG w0 n C base T o v0 pre post tt vp vs vt t) (hL : (wpre L t 14).length ≤ 80000000) (h : TI w0 n C base T v0 pre post tt vp vs vt t L 14 w) :
    Calls Try.prog 69 #[bxv n, bxv (n + 1), bxv (n + 3)] w fun e w' => e = .returned (.tuple #[]) ∧ TI w0 n C base T v0 pre post tt vp vs vt t L 15 w' := by
  obtain ⟨v, h⟩ := h
  replace h : TW w0 n C base T v0 pre post tt vp vs vt t.cut (min t.pool.length 255) 0 0 (wpre L t 14) v w := h
  have hb : base ≤ w.heap.size := by have := g.base_le; have := g.gt; have := h.mod.size; omega
  obtain ⟨P, p, Q, q, R, r, e1, e2, e3, r1, r2, r3⟩ := g.rows
  subst e1 e2 e3
  refine (ten_nstatics_wr h.wr hb (by omega) (h.boxes g) (h.cell g (j := 27) (by decide) rfl) h.hs (by have := g.C_lt; omega) (h.wr.ne h.hs (by decide))).mono fun e w' ⟨he, v', a1, a2, a3, a4⟩ => ⟨he, v', a1, h.row' a4, ?_, h.mod' (E := fun b => b = n + 3) a3 (fun b e => .inr (by omega)), ?_, a2, ?_⟩
  · exact a3.obj h.ten (by have := g.C_lt; have := g.T_lt; rintro (f | f | f); exact g.TC f; exact h.neT g f; omega)
  · exact a3.obj h.hp (by have := g.C_lt; have := g.T_lt; rintro (f | f | f); omega; exact h.wr.ne h.hp (by decide) f; omega)
  · exact a3.obj h.ht (by have := g.C_lt; have := g.T_lt; rintro (f | f | f); omega; exact h.wr.ne h.ht (by decide) f; omega)
theorem ti_15 (g : TG w0 n C base T o v0 pre post tt vp vs vt t) (hL : (wpre L t 15).length ≤ 80000000) (h : TI w0 n C base T v0 pre post tt vp vs vt t L 15 w) :
    Calls Try.prog 70 #[bxv n, bxv (n + 1), bxv (n + 4)] w fun e w' => e = .returned (.tuple #[]) ∧ TI w0 n C base T v0 pre post tt vp vs vt t L 16 w' := by
  obtain ⟨v, h⟩ := h
  replace h : TW w0 n C base T v0 pre post tt vp vs vt t.cut (min t.pool.length 255) (min t.statics.length 255) 0 (wpre L t 15) v w := h
  have hb : base ≤ w.heap.size := by have := g.base_le; have := g.gt; have := h.mod.size; omega
  obtain ⟨P, p, Q, q, R, r, e1, e2, e3, r1, r2, r3⟩ := g.rows
  subst e1 e2 e3
  refine (ten_ntwices_wr h.wr hb (by omega) (h.boxes g) (h.cell g (j := 28) (by decide) rfl) h.ht (by have := g.C_lt; omega) (h.wr.ne h.ht (by decide))).mono fun e w' ⟨he, v', a1, a2, a3, a4⟩ => ⟨he, v', a1, h.row' a4, ?_, h.mod' (E := fun b => b = n + 4) a3 (fun b e => .inr (by omega)), ?_, ?_, a2⟩
  · exact a3.obj h.ten (by have := g.C_lt; have := g.T_lt; rintro (f | f | f); exact g.TC f; exact h.neT g f; omega)
  · exact a3.obj h.hp (by have := g.C_lt; have := g.T_lt; rintro (f | f | f); omega; exact h.wr.ne h.hp (by decide) f; omega)
  · exact a3.obj h.hs (by have := g.C_lt; have := g.T_lt; rintro (f | f | f); omega; exact h.wr.ne h.hs (by decide) f; omega)
theorem ti_16 (g : TG w0 n C base T o v0 pre post tt vp vs vt t) (hL : (wpre L t 16).length ≤ 80000000) (h : TI w0 n C base T v0 pre post tt vp vs vt t L 16 w) :
    Calls Try.prog 71 #[bxv n, bxv (n + 2), bxv (n + 1)] w fun e w' => e = .returned (.tuple #[]) ∧ TI w0 n C base T v0 pre post tt vp vs vt t L 17 w' := by
  obtain ⟨v, h⟩ := h
  replace h : TW w0 n C base T v0 pre post tt vp vs vt t.cut (min t.pool.length 255) (min t.statics.length 255) (min t.twices.length 255) (wpre L t 16) v w := h
  have hb : base ≤ w.heap.size := by have := g.base_le; have := g.gt; have := h.mod.size; omega
  obtain ⟨P, p, Q, q, R, r, e1, e2, e3, r1, r2, r3⟩ := g.rows
  have hlo := h.below g r1
  subst e1 e2 e3
  have hx := ten_lpool_wr h.wr hb (by omega) (h.boxes g) (by have := g.C_lt; omega) t.pool g.ok.pool (Nat.min_le_left _ 255) (Nat.le_trans (Nat.min_le_right _ _) (by decide)) h.hp hlo (h.cell g (j := 23) (by decide) rfl) g.TC (h.neT g)
  rw [take_min] at hx
  exact hx.mono fun e w' ⟨he, v', a1, a2⟩ => ⟨he, v', h.next g a1 a2⟩
theorem ti_17 (g : TG w0 n C base T o v0 pre post tt vp vs vt t) (hL : (wpre L t 17).length ≤ 80000000) (h : TI w0 n C base T v0 pre post tt vp vs vt t L 17 w) :
    Calls Try.prog 74 #[bxv n, bxv (n + 3), bxv (n + 1), bxv (n + 5)] w fun e w' => e = .returned (.tuple #[]) ∧ TI w0 n C base T v0 pre post tt vp vs vt t L 18 w' := by
  obtain ⟨v, h⟩ := h
  replace h : TW w0 n C base T v0 pre post tt vp vs vt t.cut (min t.pool.length 255) (min t.statics.length 255) (min t.twices.length 255) (wpre L t 17) v w := h
  have hb : base ≤ w.heap.size := by have := g.base_le; have := g.gt; have := h.mod.size; omega
  obtain ⟨P, p, Q, q, R, r, e1, e2, e3, r1, r2, r3⟩ := g.rows
  have hlo := h.below g r2
  subst e1 e2 e3
  have hx := ten_lstatics_wr h.wr hb (by omega) (h.boxes g) (by have := g.C_lt; omega) t.statics g.ok.statics (Nat.min_le_left _ 255) (Nat.le_trans (Nat.min_le_right _ _) (by decide)) h.hs (h.keep g g.pr (by omega) (by omega)) hlo (h.cell g (j := 27) (by decide) rfl) g.TC (h.neT g)
  rw [take_min] at hx
  exact hx.mono fun e w' ⟨he, v', a1, a2⟩ => ⟨he, v', h.next g a1 a2⟩
theorem ti_18 (g : TG w0 n C base T o v0 pre post tt vp vs vt t) (hL : (wpre L t 18).length ≤ 80000000) (h : TI w0 n C base T v0 pre post tt vp vs vt t L 18 w) :
    Calls Try.prog 76 #[bxv n, bxv (n + 4), bxv (n + 1), bxv (n + 5)] w fun e w' => e = .returned (.tuple #[]) ∧ TI w0 n C base T v0 pre post tt vp vs vt t L 19 w' := by
  obtain ⟨v, h⟩ := h
  replace h : TW w0 n C base T v0 pre post tt vp vs vt t.cut (min t.pool.length 255) (min t.statics.length 255) (min t.twices.length 255) (wpre L t 18) v w := h
  have hb : base ≤ w.heap.size := by have := g.base_le; have := g.gt; have := h.mod.size; omega
  obtain ⟨P, p, Q, q, R, r, e1, e2, e3, r1, r2, r3⟩ := g.rows
  have hlo := h.below g r3
  subst e1 e2 e3
  have hx := ten_ltwices_wr h.wr hb (by omega) (h.boxes g) (by have := g.C_lt; omega) t.twices g.ok.twices (Nat.min_le_left _ 255) (Nat.le_trans (Nat.min_le_right _ _) (by decide)) h.ht (h.keep g g.pr (by omega) (by omega)) hlo (h.cell g (j := 28) (by decide) rfl) g.TC (h.neT g)
  rw [take_min] at hx
  exact hx.mono fun e w' ⟨he, v', a1, a2⟩ => ⟨he, v', h.next g a1 a2⟩
end


end Go.Proofs.Ytcnemhhbihhcfaa
