/-
  Package cfg: settings, writing: the last closure, the loop over the eight, the steps, the bytes.
-/
import Derived.Test.YtcnemhhbihhcfaaCfgV
namespace Go.Proofs.Ytcnemhhbihhcfaa
open Go.RowKit
set_option linter.unusedVariables false

set_option maxRecDepth 100000 in
set_option maxHeartbeats 2000000 in
theorem con_list_wr {w : World} {C base : Nat} {L : List UInt8} {v : Value} {bc bt bp T o k p : Nat} {P : Option Addr} (h : Wr w C base L v) (hb : base ≤ w.heap.size) (hCb : base ≤ C) (hL : L.length ≤ 60000000) (hx : BoxesC w bc bt C T o)
    (l : List TV) (hk : k ≤ l.length) (hk8 : k ≤ 255) (hp : w.heap[bp]? = some (.cells #[.int .i64 (k : Int)] 3 (0, 0)))
    (hrow : RowAt (· < base) w P (tvCells l)) (hT : w.cell? ⟨T, o + 28, none⟩ = some (.slice P l.length p)) (h1 : T ≠ C) (h2 : v.ownBlock ≠ some T)
    (hok : ∀ x ∈ l, x.t.Ok ∧ x.t.name.length ≤ 100000000 ∧ x.Rows (· < base) w) :
    Calls Try.prog 84 #[.pointer (some ⟨bc, 0, none⟩), .pointer (some ⟨bp, 0, none⟩), .pointer (some ⟨bt, 0, none⟩)] w fun e w' => e = .returned (.tuple #[]) ∧ ∃ v', Wr w' C base (L ++ wtens (l.take k)) v' ∧ WMod C v w v' w' := by
  have hd : ∀ W, W = w.drew → Calls Try.prog 85 #[.pointer (some ⟨C, 0, none⟩), .int .i64 k, .pointer (some ⟨T, o + 28, none⟩), .func (.func 35) #[.pointer (some ⟨C, 0, none⟩)] #[]] W fun e w' => e = .returned (.tuple #[]) ∧ ∃ v', Wr w' C base (L ++ wtens (l.take k)) v' ∧ WMod C v w v' w' := by
    intro W hW
    subst hW
    have hkp : Keeps (· < base) w w.drew := Mod.keeps (Mod.drew (Mod.refl No w)) (fun _ _ _ f => f)
    exact (list_ten_wr (w := w.drew) (v := v) ⟨h.blk, h.own⟩ hb hCb hL (T := T) (o := o + 28) l hk hk8 (hrow.keeps hkp) hT h1 h2 (fun x hx => ⟨(hok x hx).1, (hok x hx).2.1, (hok x hx).2.2.keeps hkp⟩)).mono fun e w' ⟨he, v', a1, a2⟩ => ⟨he, v', a1, ⟨(Mod.refl _ w).drew.trans a2.mod, a2.row⟩⟩
  have c0 := blk_cell hx.c 0
  have c1 := blk_cell hx.t 0
  have c2 := blk_cell hp 0
  simp at c0 c1 c2
  have HD := Lib.hid hd
  clear h hb hCb hL hx hk hk8 hp hrow hT h1 h2 hok hd
  go_enter Try.func84, Try.ntmps84
  go_wp2_with fail
  go_region_law (first | (go_simp; go_at_call 85; refine (HD.out _ rfl).mono ?_; rintro e w1 ⟨rfl, v', hw1, hm1⟩; have HW := Lib.hid (And.intro hw1 hm1); clear hw1 hm1))
  all_goals
    go_wp2
    first | go_end0 | (simp only [Exit.inBlock, Exit.then]; refine bodyPost_ret (results_none rfl _ _ _) rfl ?_) | refine bodyPost_ret (results_none rfl _ _ _) rfl ?_
    exact ⟨rfl, v', HW.out.1, HW.out.2⟩

def conFn : List Nat := [77, 78, 79, 80, 81, 82, 83, 84]
def conCap (n : Nat) : List (Array Value) := List.replicate 6 #[bxv n, bxv (n + 1)] ++ [#[bxv n, bxv (n + 1), bxv (n + 2)], #[bxv n, bxv (n + 2), bxv (n + 1)]]
def conRow (n : Nat) : List Value := (conFn.zip (conCap n)).map fun x => .func (.func x.1) #[] x.2
theorem con_enters : ∀ f ∈ conFn, ∀ (a : Array Value) (W : World), (callFunc f a).run Try.prog W = .ok (.enter f a) W := by
  intro f hf a W
  simp only [conFn, List.mem_cons, List.mem_nil_iff, or_false] at hf
  rcases hf with rfl | rfl | rfl | rfl | rfl | rfl | rfl | rfl <;> go_simp

set_option maxRecDepth 100000 in
theorem config_walk {w : World} {C T o : Nat} (R : World → Prop)
    (H : ∀ w0, Mod No w w0 → BoxesC w0 w.heap.size (w.heap.size + 1) C T o → w0.heap[w.heap.size + 2]? = some (.cells #[.int .i64 0] 3 (0, 0)) → 
      w0.heap[w.heap.size + 3]? = some (.cells (conRow w.heap.size).toArray 1 (0, 0)) →
      ∃ Inv : Nat → World → Prop, Inv 0 w0 ∧ (∀ k w1 f c, conFn[k]? = some f → (conCap w.heap.size)[k]? = some c → Inv k w1 → w1.heap[w.heap.size + 3]? = some (.cells (conRow w.heap.size).toArray 1 (0, 0)) ∧ Calls Try.prog f c w1 fun e w' => e = .returned (.tuple #[]) ∧ Inv (k + 1) w') ∧ ∀ w', Inv 8 w' → R w') :
    Calls Try.prog 38 #[.pointer (some ⟨C, 0, none⟩), .pointer (some ⟨T, o, none⟩)] w fun e w' => e = .returned (.tuple #[]) ∧ R w' := by
  have HH := Lib.hid H
  clear H
  go_enter Try.func38, Try.ntmps38
  go_wp2
  refine grab_world fun w0 hw0 => ?_
  have hm0 : Mod No w w0 := by rw [hw0]; repeat (first | with_reducible exact Mod.refl _ _ | refine Mod.alloc ?_ _ | refine Mod.setCell ?_ (.inl (by simp; omega)) _)
  have k0 : w0.heap[w.heap.size]? = some (.cells #[.pointer (some ⟨C, 0, none⟩)] 71 (0, 0)) := by rw [hw0]; (repeat (first | (refine at_eq _ _ ?_; simp; done) | (refine (Below.heap_alloc _ _ _ ?_).trans ?_; (simp; try omega))))
  have k1 : w0.heap[w.heap.size + 1]? = some (.cells #[.pointer (some ⟨T, o, none⟩)] 79 (0, 0)) := by rw [hw0]; (repeat (first | (refine at_eq _ _ ?_; simp; done) | (refine (Below.heap_alloc _ _ _ ?_).trans ?_; (simp; try omega))))
  have k2 : w0.heap[w.heap.size + 2]? = some (.cells #[.int .i64 0] 3 (0, 0)) := by rw [hw0]; (repeat (first | (refine at_eq _ _ ?_; simp; done) | (refine (Below.heap_alloc _ _ _ ?_).trans ?_; (simp; try omega))))
  have k6 : w0.heap[w.heap.size + 3]? = some (.cells (conRow w.heap.size).toArray 1 (0, 0)) := by rw [hw0]; refine (at_eq _ _ (by simp)).trans ?_; simp [conRow, conFn, conCap, bxv, List.replicate]
  obtain ⟨Inv, h0, hstep, hend⟩ := HH.out w0 hm0 ⟨k0, k1⟩ k2 k6
  have HI := Lib.hid (And.intro h0 (And.intro hstep hend))
  clear HH h0 hstep hend k0 k1 k2 k6 hm0 hw0
  go_loopw [19] (fun i wr => ∃ k : Nat, i = .int .i64 k ∧ k ≤ 8 ∧ Inv k wr) (fun i _ => 8 - (intOf i).toNat)
  case atStart => exact ⟨0, rfl, by omega, HI.out.1⟩
  case round =>
    obtain ⟨k, rfl, hk, hinv⟩ := hrel
    have HV := Lib.hid hinv
    clear hinv
    by_cases hlt : k < 8
    · obtain ⟨f, hf⟩ : ∃ f, conFn[k]? = some f := ⟨_, List.getElem?_eq_getElem hlt⟩
      obtain ⟨c, hc⟩ : ∃ c, (conCap w.heap.size)[k]? = some c := ⟨_, List.getElem?_eq_getElem hlt⟩
      obtain ⟨hrow, hcall⟩ := HI.out.2.1 k _ f c hf hc HV.out
      have hcell : wr.cell? ⟨w.heap.size + 1 + 1 + 1, k, none⟩ = some (.func (.func f) #[] c) := by
        rw [show w.heap.size + 1 + 1 + 1 = w.heap.size + 3 from rfl, blk_cell hrow]
        simp [conRow, (List.getElem?_zip_eq_some (z := (f, c))).2 ⟨hf, hc⟩]
      have hen := con_enters f (List.mem_of_getElem? hf)
      have p1 : (0:Int) ≤ k := by omega
      have p2 : (k:Int) < 8 := by omega
      have HC := Lib.hid hcall
      clear hrow hcall hf hc
      go_wp2_with fail
      refine HC.out.mono ?_
      rintro e w2 ⟨rfl, hi⟩
      have HV2 := Lib.hid hi
      clear hi
      go_wp2
      exact ⟨⟨k + 1, by go_num, by omega, HV2.out⟩, by simp [intOf]; omega⟩
    · have hk' : k = 8 := by omega
      subst hk'
      go_wp2
      go_end0
      exact ⟨rfl, HI.out.2.2 _ HV.out⟩


/-- Settings as data, but for their tenants. -/
structure Con where
  ip : Nat
  mac : M6
  omac : M6
  nmac : M6
  key : K8
  drain : Nat
  deriving DecidableEq, Inhabited
def Con.cells (c : Con) (vt : Value) : Array Value :=
  #[.int .u32 (c.ip : Int), u8v c.mac.b0, u8v c.mac.b1, u8v c.mac.b2, u8v c.mac.b3, u8v c.mac.b4, u8v c.mac.b5,
    u8v c.omac.b0, u8v c.omac.b1, u8v c.omac.b2, u8v c.omac.b3, u8v c.omac.b4, u8v c.omac.b5,
    u8v c.nmac.b0, u8v c.nmac.b1, u8v c.nmac.b2, u8v c.nmac.b3, u8v c.nmac.b4, u8v c.nmac.b5,
    u8v c.key.b0, u8v c.key.b1, u8v c.key.b2, u8v c.key.b3, u8v c.key.b4, u8v c.key.b5, u8v c.key.b6, u8v c.key.b7, .int .u32 (c.drain : Int), vt]
/-- Settings' bytes, field by field. -/
def cfields (c : Con) (l : List TV) : List (List UInt8) := [be 4 c.ip, c.mac.l, c.omac.l, c.nmac.l, c.key.l, be 4 c.drain, be 1 (min l.length 255), wtens (l.take 255)]
def cpre (c : Con) (l : List TV) (k : Nat) : List UInt8 := ((cfields c l).take k).foldl (· ++ ·) []
def wcon (c : Con) (l : List TV) : List UInt8 := (cfields c l).flatten
theorem cpre_all (c : Con) (l : List TV) : cpre c l 8 = wcon c l := (foldl_app _ _).trans (List.nil_append _)

structure CW (w0 : World) (n C base T : Nat) (c : Con) (vt : Value) (nt : Nat) (X : List UInt8) (v : Value) (w : World) : Prop where
  wr : Wr w C base X v
  row : ∀ g, v.ownBlock = some g → w0.heap.size ≤ g
  con : w.heap[T]? = some (.cells (c.cells vt) 48 (0, 0))
  mod : Mod (fun b => b = C ∨ b = n + 2) w0 w
  hn : w.heap[n + 2]? = some (.cells #[.int .i64 (nt : Int)] 3 (0, 0))
structure CG (w0 : World) (n C base T : Nat) (c : Con) (vt : Value) (l : List TV) : Prop where
  bx : BoxesC w0 n (n + 1) C T 0
  rw3 : w0.heap[n + 3]? = some (.cells (conRow n).toArray 1 (0, 0))
  C_lt : C < n
  T_lt : T < n
  TC : T ≠ C
  base_le : base ≤ n
  C_ge : base ≤ C
  ip : c.ip < 4294967296
  drain : c.drain < 4294967296
  rows : ∃ P p, vt = .slice P l.length p ∧ RowAt (· < base) w0 P (tvCells l)
  tens : ∀ x ∈ l, x.t.Ok ∧ x.t.name.length ≤ 100000000 ∧ x.Rows (· < base) w0

section
variable {w0 : World} {n C base T : Nat} {c : Con} {vt : Value} {l : List TV} {nt : Nat} {X : List UInt8} {v : Value} {w : World}
theorem CW.keep (h : CW w0 n C base T c vt nt X v w) (g : CG w0 n C base T c vt l) {b : Nat} {ob : Obj} (hb : w0.heap[b]? = some ob) (h1 : n ≤ b) (h2 : b ≠ n + 2) : w.heap[b]? = some ob := by
  refine h.mod.obj hb ?_
  have := g.C_lt
  rintro (f | f) <;> omega
theorem CW.boxes (h : CW w0 n C base T c vt nt X v w) (g : CG w0 n C base T c vt l) : BoxesC w n (n + 1) C T 0 := ⟨h.keep g g.bx.c (by omega) (by omega), h.keep g g.bx.t (by omega) (by omega)⟩
theorem CW.keeps (h : CW w0 n C base T c vt nt X v w) (g : CG w0 n C base T c vt l) : Keeps (· < base) w0 w := h.mod.keeps fun b hb hs f => by
  have := g.C_ge
  have := g.base_le
  rcases f with f | f <;> omega
theorem CW.mod' (h : CW w0 n C base T c vt nt X v w) {w' : World} {E : Nat → Prop} (hm : Mod (fun b => b = C ∨ v.ownBlock = some b ∨ E b) w w') (hE : ∀ b, E b → b = n + 2) : Mod (fun b => b = C ∨ b = n + 2) w0 w' :=
  h.mod.trans' hm fun i hi f => by
    rcases f with f | f | f
    · exact .inl f
    · have := h.row i f; omega
    · exact .inr (hE i f)
theorem CW.row' (h : CW w0 n C base T c vt nt X v w) {v' : Value} (hr : ∀ g, v'.ownBlock = some g → v.ownBlock = some g ∨ w.heap.size ≤ g) : ∀ g, v'.ownBlock = some g → w0.heap.size ≤ g := by
  intro g hg
  rcases hr g hg with f | f
  · exact h.row g f
  · exact Nat.le_trans h.mod.size f
theorem CW.next (h : CW w0 n C base T c vt nt X v w) (g : CG w0 n C base T c vt l) {X' : List UInt8} {v' : Value} {w' : World} (hw : Wr w' C base X' v') (hm : WMod C v w v' w') : CW w0 n C base T c vt nt X' v' w' := by
  have k1 := g.C_lt
  exact ⟨hw, h.row' hm.row, hm.obj h.con g.TC (h.wr.ne h.con (by decide)), h.mod' (E := fun _ => False) (hm.mod.mono (fun i f => by rcases f with f | f; exact .inl f; exact .inr (.inl f))) (fun _ f => f.elim), hm.obj h.hn (by omega) (h.wr.ne h.hn (by decide))⟩
theorem CW.cell (h : CW w0 n C base T c vt nt X v w) {j : Nat} {u : Value} (hu : (c.cells vt)[j]? = some u) : w.cell? ⟨T, j, none⟩ = some u := by rw [blk_cell h.con, hu]
theorem CW.cell' (h : CW w0 n C base T c vt nt X v w) {j : Nat} {u : Value} (hu : (c.cells vt)[j]? = some u) : w.cell? ⟨T, 0 + j, none⟩ = some u := by rw [Nat.zero_add]; exact h.cell hu
theorem CW.neT (h : CW w0 n C base T c vt nt X v w) : v.ownBlock ≠ some T := h.wr.ne h.con (by decide)
def CI (w0 : World) (n C base T : Nat) (c : Con) (vt : Value) (l : List TV) (k : Nat) (w : World) : Prop := ∃ v, CW w0 n C base T c vt (if k ≤ 6 then 0 else min l.length 255) (cpre c l k) v w
theorem ci_0 (g : CG w0 n C base T c vt l) (hL : (cpre c l 0).length ≤ 60000000) (h : CI w0 n C base T c vt l 0 w) :
    Calls Try.prog 77 #[bxv n, bxv (n + 1)] w fun e w' => e = .returned (.tuple #[]) ∧ CI w0 n C base T c vt l 1 w' := by
  obtain ⟨v, h⟩ := h
  replace h : CW w0 n C base T c vt 0 (cpre c l 0) v w := h
  have hb : base ≤ w.heap.size := by have := g.base_le; have := lt_of_block g.rw3; have := h.mod.size; omega
  exact (con_ip_wr h.wr hb (by omega) (h.boxes g) (h.cell rfl) (wrap_u64 c.ip (Nat.lt_trans g.ip (by decide))) g.TC h.neT).mono fun e w' ⟨he, v', a1, a2⟩ => ⟨he, v', h.next g a1 a2⟩
theorem ci_1 (g : CG w0 n C base T c vt l) (hL : (cpre c l 1).length ≤ 60000000) (h : CI w0 n C base T c vt l 1 w) :
    Calls Try.prog 78 #[bxv n, bxv (n + 1)] w fun e w' => e = .returned (.tuple #[]) ∧ CI w0 n C base T c vt l 2 w' := by
  obtain ⟨v, h⟩ := h
  replace h : CW w0 n C base T c vt 0 (cpre c l 1) v w := h
  have hb : base ≤ w.heap.size := by have := g.base_le; have := lt_of_block g.rw3; have := h.mod.size; omega
  have hX : ∀ j u, (bcells c.mac.l)[j]? = some u → w.cell? ⟨T, 0 + 1 + j, none⟩ = some u := by
    intro j u hj
    have hj8 : j < 6 := (List.getElem?_eq_some_iff.1 hj).1
    match j, hj8, hj with
    | 0, _, hj => exact h.cell (j := 1) hj
    | 1, _, hj => exact h.cell (j := 2) hj
    | 2, _, hj => exact h.cell (j := 3) hj
    | 3, _, hj => exact h.cell (j := 4) hj
    | 4, _, hj => exact h.cell (j := 5) hj
    | 5, _, hj => exact h.cell (j := 6) hj
  exact (con_mac_wr h.wr hb (by omega) (h.boxes g) c.mac.l rfl hX).mono fun e w' ⟨he, v', a1, a2⟩ => ⟨he, v', h.next g a1 a2⟩
theorem ci_2 (g : CG w0 n C base T c vt l) (hL : (cpre c l 2).length ≤ 60000000) (h : CI w0 n C base T c vt l 2 w) :
    Calls Try.prog 79 #[bxv n, bxv (n + 1)] w fun e w' => e = .returned (.tuple #[]) ∧ CI w0 n C base T c vt l 3 w' := by
  obtain ⟨v, h⟩ := h
  replace h : CW w0 n C base T c vt 0 (cpre c l 2) v w := h
  have hb : base ≤ w.heap.size := by have := g.base_le; have := lt_of_block g.rw3; have := h.mod.size; omega
  have hX : ∀ j u, (bcells c.omac.l)[j]? = some u → w.cell? ⟨T, 0 + 7 + j, none⟩ = some u := by
    intro j u hj
    have hj8 : j < 6 := (List.getElem?_eq_some_iff.1 hj).1
    match j, hj8, hj with
    | 0, _, hj => exact h.cell (j := 7) hj
    | 1, _, hj => exact h.cell (j := 8) hj
    | 2, _, hj => exact h.cell (j := 9) hj
    | 3, _, hj => exact h.cell (j := 10) hj
    | 4, _, hj => exact h.cell (j := 11) hj
    | 5, _, hj => exact h.cell (j := 12) hj
  exact (con_omac_wr h.wr hb (by omega) (h.boxes g) c.omac.l rfl hX).mono fun e w' ⟨he, v', a1, a2⟩ => ⟨he, v', h.next g a1 a2⟩
theorem ci_3 (g : CG w0 n C base T c vt l) (hL : (cpre c l 3).length ≤ 60000000) (h : CI w0 n C base T c vt l 3 w) :
    Calls Try.prog 80 #[bxv n, bxv (n + 1)] w fun e w' => e = .returned (.tuple #[]) ∧ CI w0 n C base T c vt l 4 w' := by
  obtain ⟨v, h⟩ := h
  replace h : CW w0 n C base T c vt 0 (cpre c l 3) v w := h
  have hb : base ≤ w.heap.size := by have := g.base_le; have := lt_of_block g.rw3; have := h.mod.size; omega
  have hX : ∀ j u, (bcells c.nmac.l)[j]? = some u → w.cell? ⟨T, 0 + 13 + j, none⟩ = some u := by
    intro j u hj
    have hj8 : j < 6 := (List.getElem?_eq_some_iff.1 hj).1
    match j, hj8, hj with
    | 0, _, hj => exact h.cell (j := 13) hj
    | 1, _, hj => exact h.cell (j := 14) hj
    | 2, _, hj => exact h.cell (j := 15) hj
    | 3, _, hj => exact h.cell (j := 16) hj
    | 4, _, hj => exact h.cell (j := 17) hj
    | 5, _, hj => exact h.cell (j := 18) hj
  exact (con_nmac_wr h.wr hb (by omega) (h.boxes g) c.nmac.l rfl hX).mono fun e w' ⟨he, v', a1, a2⟩ => ⟨he, v', h.next g a1 a2⟩
theorem ci_4 (g : CG w0 n C base T c vt l) (hL : (cpre c l 4).length ≤ 60000000) (h : CI w0 n C base T c vt l 4 w) :
    Calls Try.prog 81 #[bxv n, bxv (n + 1)] w fun e w' => e = .returned (.tuple #[]) ∧ CI w0 n C base T c vt l 5 w' := by
  obtain ⟨v, h⟩ := h
  replace h : CW w0 n C base T c vt 0 (cpre c l 4) v w := h
  have hb : base ≤ w.heap.size := by have := g.base_le; have := lt_of_block g.rw3; have := h.mod.size; omega
  have hX : ∀ j u, (bcells c.key.l)[j]? = some u → w.cell? ⟨T, 0 + 19 + j, none⟩ = some u := by
    intro j u hj
    have hj8 : j < 8 := (List.getElem?_eq_some_iff.1 hj).1
    match j, hj8, hj with
    | 0, _, hj => exact h.cell (j := 19) hj
    | 1, _, hj => exact h.cell (j := 20) hj
    | 2, _, hj => exact h.cell (j := 21) hj
    | 3, _, hj => exact h.cell (j := 22) hj
    | 4, _, hj => exact h.cell (j := 23) hj
    | 5, _, hj => exact h.cell (j := 24) hj
    | 6, _, hj => exact h.cell (j := 25) hj
    | 7, _, hj => exact h.cell (j := 26) hj
  exact (con_key_wr h.wr hb (by omega) (h.boxes g) c.key.l rfl hX).mono fun e w' ⟨he, v', a1, a2⟩ => ⟨he, v', h.next g a1 a2⟩
theorem ci_5 (g : CG w0 n C base T c vt l) (hL : (cpre c l 5).length ≤ 60000000) (h : CI w0 n C base T c vt l 5 w) :
    Calls Try.prog 82 #[bxv n, bxv (n + 1)] w fun e w' => e = .returned (.tuple #[]) ∧ CI w0 n C base T c vt l 6 w' := by
  obtain ⟨v, h⟩ := h
  replace h : CW w0 n C base T c vt 0 (cpre c l 5) v w := h
  have hb : base ≤ w.heap.size := by have := g.base_le; have := lt_of_block g.rw3; have := h.mod.size; omega
  exact (con_drain_wr h.wr hb (by omega) (h.boxes g) (h.cell' (j := 27) rfl) (wrap_u64 c.drain (Nat.lt_trans g.drain (by decide))) g.TC h.neT).mono fun e w' ⟨he, v', a1, a2⟩ => ⟨he, v', h.next g a1 a2⟩
theorem ci_6 (g : CG w0 n C base T c vt l) (hL : (cpre c l 6).length ≤ 60000000) (h : CI w0 n C base T c vt l 6 w) :
    Calls Try.prog 83 #[bxv n, bxv (n + 1), bxv (n + 2)] w fun e w' => e = .returned (.tuple #[]) ∧ CI w0 n C base T c vt l 7 w' := by
  obtain ⟨v, h⟩ := h
  replace h : CW w0 n C base T c vt 0 (cpre c l 6) v w := h
  have hb : base ≤ w.heap.size := by have := g.base_le; have := lt_of_block g.rw3; have := h.mod.size; omega
  obtain ⟨P, p, e1, r1⟩ := g.rows
  subst e1
  refine (con_n_wr h.wr hb (by omega) (h.boxes g) (h.cell' (j := 28) rfl) h.hn (by have := g.C_lt; omega) (h.wr.ne h.hn (by decide))).mono fun e w' ⟨he, v', a1, a2, a3, a4⟩ => ⟨he, v', a1, h.row' a4, ?_, h.mod' (E := fun b => b = n + 2) a3 (fun b e => e), a2⟩
  exact a3.obj h.con (by have := g.C_lt; have := g.T_lt; rintro (f | f | f); exact g.TC f; exact h.neT f; omega)
theorem ci_7 (g : CG w0 n C base T c vt l) (hL : (cpre c l 7).length ≤ 60000000) (h : CI w0 n C base T c vt l 7 w) :
    Calls Try.prog 84 #[bxv n, bxv (n + 2), bxv (n + 1)] w fun e w' => e = .returned (.tuple #[]) ∧ CI w0 n C base T c vt l 8 w' := by
  obtain ⟨v, h⟩ := h
  replace h : CW w0 n C base T c vt (min l.length 255) (cpre c l 7) v w := h
  have hb : base ≤ w.heap.size := by have := g.base_le; have := lt_of_block g.rw3; have := h.mod.size; omega
  obtain ⟨P, p, e1, r1⟩ := g.rows
  have hk := h.keeps g
  subst e1
  have hx := con_list_wr h.wr hb g.C_ge (by omega) (h.boxes g) l (Nat.min_le_left _ 255) (Nat.min_le_right _ _) h.hn (r1.keeps hk) (h.cell' (j := 28) rfl) g.TC h.neT (fun x hx => ⟨(g.tens x hx).1, (g.tens x hx).2.1, (g.tens x hx).2.2.keeps hk⟩)
  rw [take_min] at hx
  exact hx.mono fun e w' ⟨he, v', a1, a2⟩ => ⟨he, v', h.next g a1 a2⟩

theorem cpre_len (c : Con) (l : List TV) (k : Nat) (hk : k ≤ 7) : (cpre c l k).length ≤ 1000 := by
  rw [cpre, foldl_app, List.nil_append]
  have h1 : (cfields c l).take k = ((cfields c l).take 7).take k := by rw [List.take_take, Nat.min_eq_left hk]
  rw [h1]
  have := flatten_len (((cfields c l).take 7).take k) 100 (fun x hx => by
    have hx := List.mem_of_mem_take hx
    have e : (cfields c l).take 7 = [be 4 c.ip, c.mac.l, c.omac.l, c.nmac.l, c.key.l, be 4 c.drain, be 1 (min l.length 255)] := rfl
    rw [e] at hx
    simp only [List.mem_cons, List.mem_nil_iff, or_false] at hx
    rcases hx with rfl | rfl | rfl | rfl | rfl | rfl | rfl <;> simp only [be_length, K8.l, M6.l, List.length_cons, List.length_nil] <;> omega)
  have h2 : (((cfields c l).take 7).take k).length ≤ k := List.length_take_le _ _
  have h3 : (((cfields c l).take 7).take k).length * 100 ≤ 7 * 100 := Nat.mul_le_mul_right _ (by omega)
  omega
theorem ci_step (g : CG w0 n C base T c vt l) : ∀ k w1 f cc, conFn[k]? = some f → (conCap n)[k]? = some cc → CI w0 n C base T c vt l k w1 → w1.heap[n + 3]? = some (.cells (conRow n).toArray 1 (0, 0)) ∧ Calls Try.prog f cc w1 fun e w' => e = .returned (.tuple #[]) ∧ CI w0 n C base T c vt l (k + 1) w' := by
  intro k w1 f cc hf hc h
  have hk : k < 8 := (List.getElem?_eq_some_iff.1 hf).1
  have hl : (cpre c l k).length ≤ 60000000 := Nat.le_trans (cpre_len c l k (by omega)) (by omega)
  have hor : k = 0 ∨ k = 1 ∨ k = 2 ∨ k = 3 ∨ k = 4 ∨ k = 5 ∨ k = 6 ∨ k = 7 := by omega
  refine ⟨?_, ?_⟩
  · obtain ⟨v, h⟩ := h
    exact h.keep g g.rw3 (by omega) (by omega)
  clear hk
  rcases hor with rfl | rfl | rfl | rfl | rfl | rfl | rfl | rfl
  · obtain rfl : 77 = f := Option.some.inj hf; obtain rfl : #[bxv n, bxv (n + 1)] = cc := Option.some.inj hc; exact ci_0 g hl h
  · obtain rfl : 78 = f := Option.some.inj hf; obtain rfl : #[bxv n, bxv (n + 1)] = cc := Option.some.inj hc; exact ci_1 g hl h
  · obtain rfl : 79 = f := Option.some.inj hf; obtain rfl : #[bxv n, bxv (n + 1)] = cc := Option.some.inj hc; exact ci_2 g hl h
  · obtain rfl : 80 = f := Option.some.inj hf; obtain rfl : #[bxv n, bxv (n + 1)] = cc := Option.some.inj hc; exact ci_3 g hl h
  · obtain rfl : 81 = f := Option.some.inj hf; obtain rfl : #[bxv n, bxv (n + 1)] = cc := Option.some.inj hc; exact ci_4 g hl h
  · obtain rfl : 82 = f := Option.some.inj hf; obtain rfl : #[bxv n, bxv (n + 1)] = cc := Option.some.inj hc; exact ci_5 g hl h
  · obtain rfl : 83 = f := Option.some.inj hf; obtain rfl : #[bxv n, bxv (n + 1), bxv (n + 2)] = cc := Option.some.inj hc; exact ci_6 g hl h
  · obtain rfl : 84 = f := Option.some.inj hf; obtain rfl : #[bxv n, bxv (n + 2), bxv (n + 1)] = cc := Option.some.inj hc; exact ci_7 g hl h

/-- SETTINGS WRITTEN, by a coder that has none yet. -/
theorem config_wr {w : World} (h : Wr w C base [] v) (hv : v.ownBlock = none) (hb : base ≤ w.heap.size) (hT : w.heap[T]? = some (.cells (c.cells vt) 48 (0, 0))) (hTC : T ≠ C) (hCb : base ≤ C) (hip : c.ip < 4294967296) (hdr : c.drain < 4294967296)
    (hrows : ∃ P p, vt = .slice P l.length p ∧ RowAt (· < base) w P (tvCells l)) (hok : ∀ x ∈ l, x.t.Ok ∧ x.t.name.length ≤ 100000000 ∧ x.Rows (· < base) w) :
    Calls Try.prog 38 #[.pointer (some ⟨C, 0, none⟩), .pointer (some ⟨T, 0, none⟩)] w fun e w' => e = .returned (.tuple #[]) ∧ ∃ v', Wr w' C base (wcon c l) v' ∧ Mod (fun b => b = C) w w' ∧ (∀ g, v'.ownBlock = some g → w.heap.size ≤ g) := by
  have hC := lt_of_block h.blk
  have hTl := lt_of_block hT
  refine config_walk (fun w' => ∃ v', Wr w' C base (wcon c l) v' ∧ Mod (fun b => b = C) w w' ∧ (∀ g, v'.ownBlock = some g → w.heap.size ≤ g)) (fun w0 hm hbx h2 h6 => ?_)
  have hk : Keeps (· < base) w w0 := hm.keeps (fun _ _ _ f => f)
  have g : CG w0 w.heap.size C base T c vt l :=
    { bx := hbx, rw3 := h6, C_lt := hC, T_lt := hTl, TC := hTC, base_le := hb, C_ge := hCb, ip := hip, drain := hdr,
      rows := by obtain ⟨P, p, e1, r1⟩ := hrows; exact ⟨P, p, e1, r1.keeps hk⟩, tens := fun x hx => ⟨(hok x hx).1, (hok x hx).2.1, (hok x hx).2.2.keeps hk⟩ }
  refine ⟨CI w0 w.heap.size C base T c vt l, ?_, ci_step g, fun w' ⟨v', h'⟩ => ?_⟩
  · exact ⟨v, ⟨h.ext hm, fun g hg => by rw [hv] at hg; simp at hg, hm.obj hT id, Mod.refl _ _, h2⟩⟩
  · rw [cpre_all] at h'
    have hsz := hm.size
    refine ⟨v', h'.wr, ?_, fun g hg => by have := h'.row g hg; omega⟩
    refine (hm.mono (fun _ f => f.elim)).trans' h'.mod (fun i hi f => ?_)
    rcases f with f | f
    · exact f
    · omega
end

end Go.Proofs.Ytcnemhhbihhcfaa
