/-
  Package wheel, sixth part: Tick.
-/
import Derived.Test.YtlbdpofgcipjjaaWhE
import Derived.Test.YtlbdpofgcipjjaaWhShelf
import Derived.Test.YtlbdpofgcipjjaaSortK
import Derived.Test.YtlbdpofgcipjjaaApp
namespace Go.Proofs.Ytlbdpofgcipjjaa
open Go.RowKit Go.MapKept Go.ChangeMaps
set_option linter.unusedVariables false
attribute [local go_sem ↓] Go.wp_at_zero Go.wp_at_succ

/-- A due's two cells. -/
def encD (d : Due) : List Value := [.int .i64 d.1, .int .u32 (d.2 : Int)]
theorem encD_len (d : Due) : (encD d).length = 2 := rfl
theorem encD_one (d : Due) : ∀ v ∈ encD d, v.oneCell' = true := by
  intro v hv
  simp [encD] at hv
  rcases hv with rfl | rfl <;> rfl
theorem enterTick1 : ∀ args w, (callFunc 21 args).run Try.prog w = .ok (.enter 21 args) w := enters_of Try.func21 (by kernel_rfl) rfl
theorem ltOf_cfd (x y : Due) : ltOf cfd x y = decide (dlt x y) := cfd_lt x y
theorem swo_cfd : Sort.SWO (ltOf cfd) where
  irrefl x := by rw [ltOf_cfd]; simpa using dlt.irrefl x
  trans x y z h1 h2 := by rw [ltOf_cfd] at *; simp at *; exact h1.trans h2
  ntrans x y z h1 h2 := by rw [ltOf_cfd] at *; simp only [decide_eq_false_iff_not] at *; unfold dlt at *; omega
theorem tot_cfd (x y : Due) (h1 : ltOf cfd x y = false) (h2 : ltOf cfd y x = false) : x = y := by
  rw [ltOf_cfd] at *
  exact dlt_total (by simpa using h1) (by simpa using h2)
theorem sortDue_ok {w : World} {base : Nat} {e : TypeId} {v : Value} {l : List Due} (h : w.ownsRow base e 2 v l.length (l.flatMap encD)) (hz : l.length < 4611686018427387904) :
    Calls Try.prog 20 #[v, .func (.func 21) #[] #[]] w fun e w' => e = .returned (.tuple #[]) ∧ Mod (fun j => v.ownBlock = some j) w w' ∧
      ∃ A c, v = .slice A l.length c ∧ RowAt (fun b => base ≤ b) w' A ((l.mergeSort fun x y => !decide (dlt y x)).flatMap encD) := by
  have := sort_owns encD 2 encD_len sortDue Try.isAgg60 Try.sizeOf60 encD_one swo_cfd tot_cfd 21 enterTick1 (fun x y w => closure_ok x y w) h hz
  simp only [ltOf_cfd] at this
  exact this

/-! ### append of one element -/
theorem Mod.of_grown {w w' : World} {o : Option Nat} (h : w.grownBy w' o) : Mod (fun j => o = some j) w w' := (Mod.refl _ w).grown h (fun k hk => .inr hk)
theorem own_mod {F : Nat → Prop} {w w' : World} {base : Nat} {e : TypeId} {size : Nat} {v : Value} {n : Nat} {xs : List Value} (h : w.ownsRow base e size v n xs) (hm : Mod F w w') (hF : ∀ k, v.ownBlock = some k → ¬ F k) : w'.ownsRow base e size v n xs := by
  refine ⟨h.1, ?_⟩
  rcases h.2 with hl | ⟨g, cap, cur, rfl, hb, hg, hr⟩
  · exact .inl hl
  · exact .inr ⟨g, cap, cur, rfl, hb, hm.obj hg (hF g rfl), hr⟩
theorem infoDue : (Try.prog.info? 60).map (fun i => (i.zero, i.size, i.bytes)) = some (some (.agg #[.int .i64 0, .int .u32 0]), 2, 16) := by kernel_rfl
theorem infoInt : (Try.prog.info? 3).map (fun i => (i.zero, i.size, i.bytes)) = some (some (.int .i64 0), 1, 8) := by kernel_rfl
theorem app_due {w : World} {base : Nat} {v : Value} {X : List Due} (h : w.ownsRow base 60 2 v X.length (X.flatMap encD)) (hl : X.length ≤ 2000000) (hb : base ≤ w.heap.size) (d : Due) (T : TypeId) (ty : TypeId) :
    ∃ v' w', (Builtin.append_ #[58, 58] ty #[v, .slice (some ⟨w.heap.size, 0, none⟩) 1 1]).run Try.prog (w.alloc (.cells #[.int .i64 d.1, .int .u32 (d.2 : Int)] T)) = .ok v' w' ∧ w'.ownsRow base 60 2 v' (X ++ [d]).length ((X ++ [d]).flatMap encD) ∧ Mod (fun j => v.ownBlock = some j) w w' ∧ (v'.ownBlock = v.ownBlock ∨ ∃ j, v'.ownBlock = some j ∧ w.heap.size ≤ j) := by
  obtain ⟨i0, hi, hz0, hz1, hz2⟩ := info_parts infoDue
  have hr : RowAt (fun _ => True) (w.alloc (.cells #[.int .i64 d.1, .int .u32 (d.2 : Int)] T)) (some ⟨w.heap.size, 0, none⟩) (encD d) := .inr ⟨_, 0, rfl, trivial, fun j u hj => by
    rw [Nat.zero_add, blk_cell (at10 w _) j]
    simpa [encD] using hj⟩
  obtain ⟨v2, w2, hrun, ho2, hg2, hb2⟩ := run_append_row (P := Try.prog) (w.alloc (.cells #[.int .i64 d.1, .int .u32 (d.2 : Int)] T)) base 58 ty 60 i0 _ 2 16 Try.underlying58 hi hz0 hz1 hz2 rfl (by decide) v _ _ (h.alloc _) (some ⟨w.heap.size, 0, none⟩) 1 1 (encD d) hr rfl (encD_one d) (by unfold maxLen; omega) (by omega) (by simp; omega)
  refine ⟨v2, w2, hrun, by simpa using ho2, ((Mod.refl _ _).alloc _).trans (Mod.of_grown hg2), ?_⟩
  rcases hb2 with h1 | h1
  · exact .inl h1
  · exact .inr ⟨_, h1, by simp⟩
theorem app_int {w : World} {base : Nat} {v : Value} {X : List Int} (h : w.ownsRow base 3 1 v X.length (X.map fun x => Value.int .i64 x)) (hl : X.length ≤ 2000000) (hb : base ≤ w.heap.size) (d : Int) (T : TypeId) (ty : TypeId) :
    ∃ v' w', (Builtin.append_ #[36, 36] ty #[v, .slice (some ⟨w.heap.size, 0, none⟩) 1 1]).run Try.prog (w.alloc (.cells #[.int .i64 d] T)) = .ok v' w' ∧ w'.ownsRow base 3 1 v' (X ++ [d]).length ((X ++ [d]).map fun x => Value.int .i64 x) ∧ Mod (fun j => v.ownBlock = some j) w w' ∧ (v'.ownBlock = v.ownBlock ∨ ∃ j, v'.ownBlock = some j ∧ w.heap.size ≤ j) := by
  obtain ⟨i0, hi, hz0, hz1, hz2⟩ := info_parts infoInt
  have hr : RowAt (fun _ => True) (w.alloc (.cells #[.int .i64 d] T)) (some ⟨w.heap.size, 0, none⟩) [.int .i64 d] := .inr ⟨_, 0, rfl, trivial, fun j u hj => by
    rw [Nat.zero_add, blk_cell (at10 w _) j]
    simpa using hj⟩
  obtain ⟨v2, w2, hrun, ho2, hg2, hb2⟩ := run_append_row (P := Try.prog) (w.alloc (.cells #[.int .i64 d] T)) base 36 ty 3 i0 _ 1 8 Try.underlying36 hi hz0 hz1 hz2 rfl (by decide) v _ _ (h.alloc _) (some ⟨w.heap.size, 0, none⟩) 1 1 [.int .i64 d] hr rfl (by intro u hu; simp at hu; subst hu; rfl) (by unfold maxLen; omega) (by omega) (by simp; omega)
  refine ⟨v2, w2, hrun, by simpa using ho2, ((Mod.refl _ _).alloc _).trans (Mod.of_grown hg2), ?_⟩
  rcases hb2 with h1 | h1
  · exact .inl h1
  · exact .inr ⟨_, h1, by simp⟩

/-! ### what is known in the first loop -/
def kv (d : Due) : Value × Value := (.int .i64 d.1, .int .u32 (d.2 : Int))
def dv : Value × Value → Due
  | (.int _ x, .int _ y) => (x, y.toNat)
  | _ => (0, 0)
theorem dv_kv (d : Due) : dv (kv d) = d := by simp [dv, kv]
theorem vSl_kv (s : Nat) (M : List Ent) : vSl s M = ((slotE s M).map eDue).map kv := by simp [vSl, kv, eDue]
structure TR (w : World) (g : Nat) (bs : Nat → Nat) (bi now s : Nat) (M : List Ent) (r : Nat) (X : List Due) (v : Value) (wr : World) : Prop where
  it : GIter Try.prog 3 wr (bs s) r (vSl s M) (X.map kv)
  whl : Whl wr g bs bi now M
  own : wr.ownsRow w.heap.size 60 2 v (X.filter fun p => p.2 ≤ now).length ((X.filter fun p => p.2 ≤ now).flatMap encD)
  mod : Mod (Own g bs bi) w wr
  nr : v.ownBlock ≠ some r
  le : w.heap.size ≤ r
  lt : r < wr.heap.size
/-! ### what is known in the second loop -/
structure TS (w : World) (g : Nat) (bs : Nat → Nat) (bi now : Nat) (M : List Ent) (D : List Due) (A : Option Addr) (k : Nat) (v : Value) (wr : World) : Prop where
  row : RowAt (fun b => w.heap.size ≤ b) wr A (D.flatMap encD)
  whl : Whl wr g bs bi now ((D.take k).foldl (fun M p => mdrop M p.1) M)
  own : wr.ownsRow w.heap.size 3 1 v ((D.take k).map (·.1)).length (((D.take k).map (·.1)).map fun x => Value.int .i64 x)
  mod : Mod (Own g bs bi) w wr
  ne : ∀ a, A = some a → v.ownBlock ≠ some a.block
  lt : ∀ a, A = some a → a.block < wr.heap.size
section
variable {w w' : World} {g bi now n0 : Nat} {bs : Nat → Nat} {M : List Ent} {L : List Due}
theorem Whl.own_lt (h : Whl w g bs bi now M) {j : Nat} (hj : Own g bs bi j) : j < w.heap.size := by
  rcases hj with rfl | rfl | ⟨k, hk, rfl⟩
  · obtain ⟨C, hb, _⟩ := h.row
    exact lt_of_block hb
  · exact h.inm.lt
  · exact (h.maps k hk).lt
theorem key_in {x : Int} {l : Lit} (h : keyOf Try.prog 3 (.int .i64 x) = some l) : In64 x := by
  simp [keyOf, Try.underlying3, mapKey, Lit.wf, IntKind.min, IntKind.max, IntKind.signed, IntKind.bits] at h
  exact h.1
theorem Whl.in64 (h : Whl w g bs bi now M) : ∀ e ∈ M, In64 e.1 := by
  intro e he
  obtain ⟨es, c, hb, hs, hk, hD⟩ := h.inm
  have h1 : (Value.int IntKind.i64 e.1, Value.int IntKind.i64 (e.2.1 : Int)) ∈ es.toList.map (fun e => (e.key, e.val)) := by
    rw [hD]
    exact List.mem_map.2 ⟨e, he, rfl⟩
  obtain ⟨x, hx, hxe⟩ := List.mem_map.1 h1
  obtain ⟨l, hl⟩ := hk x hx
  have h2 : x.key = Value.int IntKind.i64 e.1 := congrArg (·.1) hxe
  rw [h2] at hl
  exact key_in hl
theorem TR.next {s r : Nat} {X : List Due} {v : Value} {wr w2 : World} {d : Due} (h : TR w g bs bi now s M r X v wr) (hw : ∀ j, Own g bs bi j → j < w.heap.size) (hI : GIter Try.prog 3 w2 (bs s) r (vSl s M) (X.map kv ++ [kv d])) (hm : Mod (fun j => j = r) wr w2) (hd : ¬ d.2 ≤ now) : TR w g bs bi now s M r (X ++ [d]) v w2 := by
  have hle := h.le
  have e : (X ++ [d]).filter (fun p => decide (p.2 ≤ now)) = X.filter (fun p => decide (p.2 ≤ now)) := by simp [hd]
  refine ⟨by rw [List.map_append]; exact hI, h.whl.mod hm (fun j hj f => by have := hw j hj; omega), ?_, h.mod.trans' hm (fun i hi f => by omega), h.nr, h.le, by have := h.lt; have := hm.size; omega⟩
  rw [e]
  exact own_mod h.own hm (fun j hj f => by subst f; exact h.nr hj)
theorem TR.app {s r : Nat} {X : List Due} {v v' : Value} {wr w2 w3 : World} {d : Due} (h : TR w g bs bi now s M r X v wr) (hw : ∀ j, Own g bs bi j → j < w.heap.size) (hI : GIter Try.prog 3 w2 (bs s) r (vSl s M) (X.map kv ++ [kv d])) (hm : Mod (fun j => j = r) wr w2) (hd : d.2 ≤ now)
    (ho : w3.ownsRow w.heap.size 60 2 v' ((X.filter fun p => p.2 ≤ now) ++ [d]).length (((X.filter fun p => p.2 ≤ now) ++ [d]).flatMap encD)) (hm3 : Mod (fun j => v.ownBlock = some j) w2 w3) (hb : v'.ownBlock = v.ownBlock ∨ ∃ j, v'.ownBlock = some j ∧ w2.heap.size ≤ j) (hbs : bs s < w.heap.size) : TR w g bs bi now s M r (X ++ [d]) v' w3 := by
  have hle := h.le
  have hlt := h.lt
  have hown := h.own.lt
  have hz := hm.size
  have e : (X ++ [d]).filter (fun p => decide (p.2 ≤ now)) = X.filter (fun p => decide (p.2 ≤ now)) ++ [d] := by simp [hd]
  refine ⟨by rw [List.map_append]; exact hI.mod hm3 (fun f => by have := (hown _ f).1; omega) (fun f => h.nr f), (h.whl.mod hm (fun j hj f => by have := hw j hj; omega)).mod hm3 (fun j hj f => by have := hw j hj; have := (hown _ f).1; omega), by rw [e]; exact ho, (h.mod.trans' hm (fun i hi f => by omega)).trans' hm3 (fun i hi f => by have := (hown _ f).1; omega), ?_, h.le, by have := hm3.size; omega⟩
  rcases hb with e | ⟨j, e, hj⟩
  · rw [e]; exact h.nr
  · rw [e]
    intro f
    cases f
    omega
theorem TS.start {s r : Nat} {X D : List Due} {A : Option Addr} {n c : Nat} {wr : World} (hT : TR w g bs bi now s M r X (.slice A n c) wr) (hm : Mod (fun j => (Value.slice A n c).ownBlock = some j) wr w') (hrow : RowAt (fun b => w.heap.size ≤ b) w' A (D.flatMap encD)) (hw : ∀ j, Own g bs bi j → j < w.heap.size) : TS w g bs bi now M D A 0 (.slice none 0 0) w' := by
  have hlt := hT.own.lt
  refine ⟨hrow, hT.whl.mod hm (fun j hj f => ?_), ⟨rfl, .inl ⟨rfl, rfl⟩⟩, hT.mod.trans' hm (fun i hi f => ?_), fun a ha f => ?_, fun a ha => ?_⟩
  · have := (hlt _ f).1
    have := hw j hj
    omega
  · have := (hlt _ f).1
    omega
  · cases f
  · subst ha
    have := (hlt _ rfl).2
    have := hm.size
    omega
theorem TS.step {D : List Due} {A : Option Addr} {k : Nat} {v v' : Value} {wr w1 w2 w3 : World} {d : Due} (h : TS w g bs bi now M D A k v wr) (hw : ∀ j, Own g bs bi j → j < w.heap.size) (hd : D[k]? = some d)
    (h1 : Mod No wr w1) (hW : Whl w2 g bs bi now (mdrop ((D.take k).foldl (fun M p => mdrop M p.1) M) d.1)) (h2 : Mod (Own g bs bi) w1 w2)
    (ho : w3.ownsRow w.heap.size 3 1 v' ((D.take k).map (·.1) ++ [d.1]).length (((D.take k).map (·.1) ++ [d.1]).map fun x => Value.int .i64 x)) (h3 : Mod (fun j => v.ownBlock = some j) w2 w3) (hb : v'.ownBlock = v.ownBlock ∨ ∃ j, v'.ownBlock = some j ∧ w2.heap.size ≤ j) : TS w g bs bi now M D A (k + 1) v' w3 := by
  have hlt := h.own.lt
  obtain ⟨hkl, hke⟩ := List.getElem?_eq_some_iff.1 hd
  have htk : D.take (k + 1) = D.take k ++ [d] := by rw [List.take_succ_eq_append_getElem hkl, hke]
  have hz1 := h1.size
  have hz2 := h2.size
  have hz3 := h3.size
  have hzw := h.mod.size
  have m12 : Mod (Own g bs bi) wr w2 := (h1.mono (fun _ f => f.elim)).trans h2
  refine ⟨?_, ?_, by rw [htk, List.map_append]; exact ho, ?_, fun a ha f => ?_, fun a ha => ?_⟩
  · rcases h.row with f | ⟨b, o, e, hs, hc⟩
    · exact .inl f
    · refine .inr ⟨b, o, e, hs, fun j u hj => ?_⟩
      have c1 := hc j u hj
      have c2 := m12.cell c1 (fun f => by have := hw _ f; simp only at this; omega)
      exact h3.cell c2 (fun f => h.ne _ e f)
  · rw [htk, List.foldl_append]
    refine hW.mod h3 (fun j hj f => ?_)
    have := (hlt _ f).1
    have := hw j hj
    omega
  · exact (h.mod.trans m12).trans' h3 (fun i hi f => by have := (hlt _ f).1; omega)
  · rcases hb with e | ⟨j, e, hj⟩
    · rw [e] at f
      exact h.ne a ha f
    · rw [e] at f
      cases f
      have := h.lt a ha
      omega
  · have := h.lt a ha
    omega
theorem tick_end (h : Whl w g bs bi now M) (hn : 2147483647 ≤ now) : Calls Try.prog 14 #[.pointer (some ⟨g, 0, none⟩)] w fun e w' => e = .returned (.slice none 0 0) ∧ w' = w := by
  have c0 := h.c0
  have hn' : ((2147483647 : Int) ≤ (now : Int)) := by omega
  clear h
  go_enter Try.func14, Try.ntmps14
  go_wp2
  go_ret
  exact ⟨rfl, rfl⟩
theorem Whl.clock (h : Whl w g bs bi now M) (n : Nat) : Whl (w.setCell ⟨g, 0, none⟩ (.int .u32 n)) g bs bi n M ∧ Mod (Own g bs bi) w (w.setCell ⟨g, 0, none⟩ (.int .u32 n)) := by
  have hm : Mod (fun j => j = g) w (w.setCell ⟨g, 0, none⟩ (.int .u32 n)) := Mod.setCell (F := fun j => j = g) (Mod.refl _ _) (p := ⟨g, 0, none⟩) (.inr rfl) _
  obtain ⟨C, hb, hs, h0, h1, h2⟩ := h.row
  refine ⟨⟨⟨C.set! 0 (.int .u32 n), ?_, by simp [hs], ?_, ?_, ?_⟩, fun k hk => (h.maps k hk).mod hm (h.ne k hk).2, h.inm.mod hm h.nei, h.sep, h.ne, h.nei⟩, hm.mono (fun j hj => .inl hj)⟩
  · simp only [World.setCell, Array.set!_eq_setIfInBounds]
    rw [Array.getElem?_modify, if_pos rfl, hb]
    rfl
  · rw [Array.set!_eq_setIfInBounds, Array.getElem?_setIfInBounds, if_pos rfl, if_pos (by omega)]
  · intro j hj
    rw [Array.set!_eq_setIfInBounds, Array.getElem?_setIfInBounds, if_neg (by omega)]
    exact h1 j hj
  · rw [Array.set!_eq_setIfInBounds, Array.getElem?_setIfInBounds, if_neg (by omega)]
    exact h2

def TickPost (w : World) (g : Nat) (bs : Nat → Nat) (bi now : Nat) (M : List Ent) (L : List Due) (e : Ending) (w' : World) : Prop :=
  ∃ A c, e = .returned (.slice A (rdue L (now + 1)).length c) ∧ RowAt (fun b => w.heap.size ≤ b) w' A ((rdue L (now + 1)).map fun p => Value.int .i64 p.1) ∧
      Whl w' g bs bi (now + 1) ((rdue L (now + 1)).foldl (fun M p => mdrop M p.1) M) ∧ Mod (Own g bs bi) w w'
theorem tick_ok (h : Whl w g bs bi now M) (hv : WInv now M L) (hn : now < 2147483647) (hl : M.length ≤ 1048576) : Calls Try.prog 14 #[.pointer (some ⟨g, 0, none⟩)] w (TickPost w g bs bi now M L) := by
  have c0 := h.c0
  obtain ⟨C0, hC0, hCz, _⟩ := h.row
  have f0 : w.frozen? ⟨g, 0, none⟩ = false := blk_free hC0 0
  have hn' : decide ((2147483647 : Int) ≤ (now : Int)) = false := by simp; omega

  clear hC0 hCz
  have HH := Lib.hid h
  have HV := Lib.hid hv
  have HL := Lib.hid hl
  have HN := Lib.hid hn
  clear h hv hl hn
  go_enter Try.func14, Try.ntmps14
  go_upto_region 5 with fail
  have hmod : ((now : Int) + 1) % 4294967296 = (now : Int) + 1 := by have := HN.out; omega
  simp only [hmod]
  obtain ⟨h1, m1⟩ := HH.out.clock (now + 1)
  simp only [Int.natCast_add, Int.natCast_one] at h1 m1
  generalize hW : w.setCell ⟨g, 0, none⟩ (.int .u32 ((now : Int) + 1)) = W at *
  obtain ⟨s, hsd⟩ : ∃ s, s = (now + 1) % 64 := ⟨_, rfl⟩
  have hs : s < 64 := by omega
  have hse : ((now : Int) + 1) % 64 = (s : Int) := by omega
  have c1 := h1.c0
  have cs := h1.cs hs
  obtain ⟨w1, hr1, hI, mI⟩ := GIter.start (h1.maps s hs).drew Try.underlying51
  have hz : W.drew.heap.size = W.heap.size := rfl
  rw [hz] at hr1 hI
  simp only [Int.natCast_add, Int.natCast_one] at c1
  have H1 := Lib.hid h1
  have MM := Lib.hid m1
  have HI := Lib.hid hI
  have MI := Lib.hid mI
  have HS := Lib.hid hsd
  have HW := Lib.hid hW
  clear h1 m1 hI mI hsd hW hz hmod
  go_region
  go_wp2
  obtain ⟨r, hr⟩ : ∃ r, r = W.heap.size := ⟨_, rfl⟩
  simp only [← hr]
  simp only [hse]
  have HR := Lib.hid hr
  clear hr hr1 hse
  go_loopg [3] M.length (fun k v wr => ∃ X : List Due, k + X.length = M.length ∧ TR w g bs bi (now + 1) s M r X v wr)
  case atStart =>
    have hW := HW.out
    have hr := HR.out
    have hmi : Mod No W w1 := (Mod.refl No W).drew.trans MI.out
    have hbr : r < w1.heap.size := by
      obtain ⟨es, cl, since, seen, c0, E, x1, x2, x3, x4, x5, _⟩ := HI.out
      rw [hr]
      exact lt_of_block x5
    refine ⟨[], by simp, ?_⟩
    refine ⟨by rw [hr]; exact HI.out, H1.out.mod hmi (fun _ _ f => f), ⟨rfl, .inl ⟨rfl, rfl⟩⟩, MM.out.trans (hmi.mono (fun _ f => f.elim)), (fun f => by cases f), ?_, hbr⟩
    rw [hr]
    exact MM.out.size
  case round =>
    obtain ⟨X, hk, hT⟩ := hrel
    clear c1 cs
    have hT' := Lib.hid hT
    rcases hT.it.step 0 with ⟨hp, hnx⟩ | ⟨x, v, w2, hmem, hnew, hnx, hI2, hlt, hm2, hz2, hen⟩
    · as_aux_lemma =>
      clear hT
      have hT := hT'.out
      have hXp : X.Perm ((slotE s M).map eDue) := by
        have := hp.map dv
        rw [vSl_kv, List.map_map, List.map_map] at this
        have e1 : (dv ∘ kv) = id := by funext d; exact dv_kv d
        rw [e1, List.map_id, List.map_id] at this
        exact this
      have hsort := tick_sort HV.out HN.out (vis := X) (by rw [← HS.out]; exact hXp)
      have hXl : X.length ≤ 1048576 := by
        have h1 := hXp.length_eq
        have h2 : (slotE s M).length ≤ M.length := List.length_filter_le _ _
        have h3 := HL.out
        rw [List.length_map] at h1
        omega
      have hfl : (X.filter fun p => p.2 ≤ now + 1).length ≤ X.length := List.length_filter_le _ _
      have hdl : (rdue L (now + 1)).length = (X.filter fun p => p.2 ≤ now + 1).length := by rw [← hsort, List.length_mergeSort]
      obtain ⟨A, c, rfl, hnc, hrow0⟩ := RowAt.of_owns hT.own
      have hcon := sortDue_ok hT.own (by omega)
      rw [hsort] at hcon
      have hcon2 := hcon.mono (R' := fun e w' => e = .returned (.tuple #[]) ∧ TS w g bs bi (now + 1) M (rdue L (now + 1)) A 0 (.slice none 0 0) w') (by
        rintro e w' ⟨he, hm, A', c', hvv, hrow⟩
        cases hvv
        exact ⟨he, TS.start hT hm hrow (fun j hj => HH.out.own_lt hj)⟩)
      rw [← hdl]
      obtain ⟨n, hn⟩ : ∃ n, n = (rdue L (now + 1)).length := ⟨_, rfl⟩
      rw [← hdl, ← hn] at hcon2
      rw [← hn]
      have HX := Lib.hid (And.intro hXl (And.intro hfl (And.intro hdl hn)))
      have HD := Lib.hid (show ∀ n', n' = n → n' ≤ 1048576 by omega)
      have HC := Lib.hid hcon2
      clear hT hXp hsort hXl hfl hdl hnc hrow0 hcon hcon2 hn hp hk
      go_wp2_with (go_at_call 20; refine HC.out.mono ?_; rintro e w3 ⟨rfl, hS⟩)

      go_loopw [6, 53] (fun v i wr => ∃ k : Nat, i = .int .i64 k ∧ k ≤ n ∧ TS w g bs bi (now + 1) M (rdue L (now + 1)) A k v wr) (fun _ i _ => n - (intOf i).toNat)
      case atStart => exact ⟨0, rfl, by omega, hS⟩
      case round =>
        obtain ⟨k, rfl, hkn, hS1⟩ := hrel
        have hn1 : n ≤ 1048576 := HD.out n rfl
        by_cases hlt : k < n
        · as_aux_lemma =>
          obtain ⟨hXl, hfl, hdl, hn⟩ := HX.out
          have hkl : k < (rdue L (now + 1)).length := by omega
          obtain ⟨d, hd⟩ : ∃ d, (rdue L (now + 1))[k]? = some d := ⟨_, List.getElem?_eq_getElem hkl⟩
          obtain ⟨b, o, rfl, hbs, hbl, hcell⟩ := RowAt.elem encD 2 encD_len (by decide) hS1.row hd
          have ce0 := hcell 0 _ rfl
          have ce1 := hcell 1 _ rfl
          rw [Nat.add_zero] at ce0
          have hW0 := fun T => hS1.whl.mod ((Mod.refl No wr).alloc (.cells #[.int .i64 d.1, .int .u32 (d.2 : Int)] T)) (fun _ _ f => f)
          have hv2 := HV.out.drops ((rdue L (now + 1)).take k)
          have hid : In64 d.1 := by
            have h1 := List.mem_of_getElem? hd
            have h2 : d ∈ L := (List.takeWhile_sublist _).subset h1
            obtain ⟨e, he, rfl⟩ := List.mem_map.1 (HV.out.perm.mem_iff.2 h2)
            exact HH.out.in64 e he
          have hdrop := fun T => drop_ok (hW0 T) hv2 hid
          have hTL : ((rdue L (now + 1)).take k).length ≤ 1048576 := by rw [List.length_take]; omega
          have happ : ∀ (T0 : TypeId) (w4 : World) (hM4 : Mod (Own g bs bi) (wr.alloc (.cells #[.int .i64 d.1, .int .u32 (d.2 : Int)] T0)) w4) (T ty : TypeId), ∃ v' w', (Builtin.append_ #[36, 36] ty #[u6, .slice (some ⟨w4.heap.size, 0, none⟩) 1 1]).run Try.prog (w4.alloc (.cells #[.int .i64 d.1] T)) = .ok v' w' ∧ w'.ownsRow w.heap.size 3 1 v' (((rdue L (now + 1)).take k).map (·.1) ++ [d.1]).length ((((rdue L (now + 1)).take k).map (·.1) ++ [d.1]).map fun x => Value.int .i64 x) ∧ Mod (fun j => u6.ownBlock = some j) w4 w' ∧ (v'.ownBlock = u6.ownBlock ∨ ∃ j, v'.ownBlock = some j ∧ w4.heap.size ≤ j) := by
            intro T0 w4 hM4 T ty
            have hmm : Mod (Own g bs bi) wr w4 := (((Mod.refl No wr).alloc _).mono (fun _ f => f.elim)).trans hM4
            refine app_int (own_mod hS1.own hmm (fun j hj f => ?_)) (by rw [List.length_map]; omega) ?_ d.1 T ty
            · have := (hS1.own.lt j hj).1
              have := HH.out.own_lt f
              omega
            · have := hS1.mod.size
              have := hmm.size
              omega
          have HAP := Lib.hid happ
          have HS1 := Lib.hid hS1
          have HDR := Lib.hid hdrop
          have HDD := Lib.hid hd
          generalize hd1 : d.1 = d1 at *
          generalize hd2 : d.2 = d2 at *
          have HE := Lib.hid (And.intro hd1 hd2)
          clear hXl hfl hdl hn hkl hd hbs hcell hW0 hv2 hid hdrop hS1 hd1 hd2 happ hTL
          go_wp2_with (first
            | (go_at_call 11; refine (HDR.out _).mono ?_; rintro e w4 ⟨rfl, hW4, hM4, -⟩; have hx4 : w4.cell? ⟨wr.heap.size, 0, none⟩ = some (.int .i64 d1) := (blk_cell (hM4.obj (at10 wr _) (fun f => by have := HH.out.own_lt f; have := HS1.out.mod.size; omega)) 0).trans rfl)
            | (at_builtin; go_loud (obtain ⟨v5, w5, hrun, ho5, hm5, hb5⟩ := HAP.out _ _ hM4 3 36; refine Lib.wpList_append_run _ (by rfl) _ _ _ _ (by rfl) _ _ (by rfl) (by rfl) _ _ hrun ?_)))
          obtain ⟨hd1, hd2⟩ := HE.out
          subst hd1 hd2
          exact ⟨⟨k + 1, by go_num, by omega, TS.step HS1.out (fun j hj => HH.out.own_lt hj) HDD.out ((Mod.refl No wr).alloc _) hW4 hM4 ho5 hm5 hb5⟩, by simp [intOf]; omega⟩
        · as_aux_lemma =>
          have hk' : k = n := by omega
          subst hk'
          have hS1' := Lib.hid hS1
          obtain ⟨A2, c2, rfl, hnc2, hrow2⟩ := RowAt.of_owns hS1.own
          clear hS1
          go_wp2
          go_ret
          have hS2 := hS1'.out
          obtain ⟨hXl, hfl, hdl, hn⟩ := HX.out
          have e1 : (rdue L (now + 1)).take k = rdue L (now + 1) := List.take_of_length_le (by omega)
          rw [e1] at hrow2 hS2 ⊢
          refine ⟨A2, c2, (by rw [List.length_map]; rfl), ?_, ?_, hS2.mod⟩
          · rw [List.map_map] at hrow2
            exact hrow2
          · have := hS2.whl
            rw [e1] at this
            exact this
    · have hd : ∃ d : Due, (x, v) = kv d := by
        rw [vSl_kv] at hmem
        obtain ⟨d, _, e⟩ := List.mem_map.1 hmem
        exact ⟨d, e.symm⟩
      obtain ⟨d, e⟩ := hd
      rw [e] at hI2
      simp only [kv, Prod.mk.injEq] at e
      obtain ⟨rfl, rfl⟩ := e
      have c2 := (hT.whl.mod hm2 (fun j hj f => by have := HH.out.own_lt hj; have := hT.le; omega)).c0
      have hlM : (X.map kv).length < M.length := by
        have : (vSl s M).length ≤ M.length := by rw [vSl, List.length_map]; exact List.length_filter_le _ _
        omega
      rw [List.length_map] at hlM
      have hfl : (X.filter fun p => p.2 ≤ now + 1).length ≤ X.length := List.length_filter_le _ _
      have hbs : bs s < w.heap.size := HH.out.own_lt (.inr (.inr ⟨s, hs, rfl⟩))
      by_cases hdue : d.2 ≤ now + 1
      · as_aux_lemma =>
        have ht : decide ((d.2 : Int) ≤ (now : Int) + 1) = true := by simp; omega
        have happ := app_due (own_mod hT.own hm2 (fun j hj f => by subst f; exact hT.nr hj)) (by have := HL.out; omega) (by have := hm2.size; have := hT.mod.size; omega) d 60 58
        have HA := Lib.hid happ
        have HK := Lib.hid (And.intro hlM (And.intro hk hdue))
        have HI2 := Lib.hid hI2
        have HM2 := Lib.hid hm2
        have HB := Lib.hid hbs
        clear happ hlM hk hdue hI2 hm2 hbs hT hmem hnew hlt hz2 hfl
        obtain ⟨d1, d2⟩ := d
        simp only at *
        go_wp2_with (at_builtin; obtain ⟨v5, w5, hrun, ho5, hm5, hb5⟩ := HA.out; refine Lib.wpList_append_run _ (by rfl) _ _ _ _ (by rfl) _ _ (by rfl) (by rfl) _ _ hrun ?_)
        have hT := hT'.out
        obtain ⟨hlM, hk, hdue⟩ := HK.out
        go_roundg (M.length - (X.length + 1))
        case measure => omega
        case rel => exact ⟨X ++ [(d1, d2)], by rw [List.length_append, List.length_singleton]; omega, TR.app hT (fun j hj => HH.out.own_lt hj) HI2.out HM2.out hdue ho5 hm5 hb5 HB.out⟩
      · as_aux_lemma =>
        have ht : decide ((d.2 : Int) ≤ (now : Int) + 1) = false := by simp; omega
        have HN2 := Lib.hid (TR.next hT (fun j hj => HH.out.own_lt hj) hI2 hm2 hdue)
        have HK := Lib.hid (And.intro hlM hk)
        clear hlM hk hdue hI2 hm2 hbs hT hmem hnew hlt hz2 hfl
        go_wp2
        obtain ⟨hlM, hk⟩ := HK.out
        go_roundg (M.length - (X.length + 1))
        case measure => omega
        case rel => exact ⟨X ++ [d], by rw [List.length_append, List.length_singleton]; omega, HN2.out⟩
end

end Go.Proofs.Ytlbdpofgcipjjaa
