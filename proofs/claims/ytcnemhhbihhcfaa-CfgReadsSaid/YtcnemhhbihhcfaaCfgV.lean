/-
  Package cfg: a list of tenants, writing.
-/
import Derived.Test.YtcnemhhbihhcfaaCfgU
import Derived.Test.YtcnemhhbihhcfaaCfgL
import Derived.Deep.MidRow
namespace Go.Proofs.Ytcnemhhbihhcfaa
open Go.RowKit
set_option linter.unusedVariables false

/-- A tenant with its three lists' values. -/
structure TV where
  t : Ten
  vp : Value
  vs : Value
  vt : Value
def TV.cells (x : TV) : List Value := (x.t.cells x.vp x.vs x.vt).toList
theorem TV.len (x : TV) : x.cells.length = 33 := rfl
def tvCells (l : List TV) : List Value := l.flatMap TV.cells
def TV.Rows (S : Nat → Prop) (w : World) (x : TV) : Prop :=
  ∃ P p Q q R r, x.vp = .slice P x.t.pool.length p ∧ x.vs = .slice Q x.t.statics.length q ∧ x.vt = .slice R x.t.twices.length r ∧ RowAt S w P (numCells x.t.pool) ∧ RowAt S w Q (prCells x.t.statics) ∧ RowAt S w R (prCells x.t.twices)
theorem TV.Rows.imp {S S' : Nat → Prop} {w : World} {x : TV} (h : x.Rows S w) (hs : ∀ b, S b → S' b) : x.Rows S' w := by
  obtain ⟨P, p, Q, q, R, r, e1, e2, e3, r1, r2, r3⟩ := h
  exact ⟨P, p, Q, q, R, r, e1, e2, e3, r1.mono (fun b _ => hs b), r2.mono (fun b _ => hs b), r3.mono (fun b _ => hs b)⟩
theorem TV.Rows.lt {S S' : Nat → Prop} {w : World} {x : TV} (h : x.Rows S w) (hs : ∀ b, b < w.heap.size → S b → S' b) : x.Rows S' w := by
  obtain ⟨P, p, Q, q, R, r, e1, e2, e3, r1, r2, r3⟩ := h
  exact ⟨P, p, Q, q, R, r, e1, e2, e3, r1.mono hs, r2.mono hs, r3.mono hs⟩
theorem TV.Rows.keeps {S : Nat → Prop} {w w' : World} {x : TV} (h : x.Rows S w) (hk : Keeps S w w') : x.Rows S w' := by
  obtain ⟨P, p, Q, q, R, r, e1, e2, e3, r1, r2, r3⟩ := h
  exact ⟨P, p, Q, q, R, r, e1, e2, e3, r1.keeps hk, r2.keeps hk, r3.keeps hk⟩
def wtens (l : List TV) : List UInt8 := l.flatMap fun x => wten x.t
theorem wtens_len (l : List TV) : (wtens l).length ≤ l.length * 40000 := by
  induction l with
  | nil => simp [wtens]
  | cons x m ih => simp only [wtens, List.flatMap_cons, List.length_append, List.length_cons, Nat.succ_mul] at ih ⊢; have := wten_len x.t; omega

/-! a tenant's operations under names of their own, which the walk does not lay open -/
def tenStore (p v : Value) : Sem Unit := Instr.storeAt 30 p v
@[go_sem ↓] theorem store_fold (p v : Value) : Instr.storeAt 30 p v = tenStore p v := rfl
def tenAlloc (v : Value) : Sem Value := Instr.alloc 30 true v
@[go_sem ↓] theorem alloc_fold (v : Value) : Instr.alloc 30 true v = tenAlloc v := rfl
def zTen : Array Value := Ten.zero.cells (.slice none 0 0) (.slice none 0 0) (.slice none 0 0)
set_option maxRecDepth 100000 in
theorem tenAlloc_run (W : World) : (tenAlloc (.tuple #[])).run Try.prog W = .ok (.pointer (some ⟨W.heap.size, 0, none⟩)) (W.alloc (.cells zTen 30)) := by kernel_rfl
theorem ten_one (t : Ten) (P Q R : Option Addr) (a b c d e f : Nat) : (t.cells (.slice P a b) (.slice Q c d) (.slice R e f)).all (·.oneCell') = true := by
  simp [Ten.cells, Value.oneCell']
theorem TV.one {S : Nat → Prop} {w : World} {x : TV} (h : x.Rows S w) : x.cells.toArray.all (·.oneCell') = true := by
  obtain ⟨P, p, Q, q, R, r, e1, e2, e3, _⟩ := h
  simp only [TV.cells, e1, e2, e3, Array.toArray_toList]
  exact ten_one _ _ _ _ _ _ _ _ _ _
theorem setRow_alloc (W : World) (a b : Array Value) (t : TypeId) : (W.alloc (.cells a t)).setRow W.heap.size b = W.alloc (.cells b t) := by
  unfold World.setRow World.alloc
  congr 1
  apply Array.ext_getElem?
  intro i
  rw [Array.getElem?_modify, Array.getElem?_push, Array.getElem?_push]
  by_cases h : W.heap.size = i
  · subst h; simp
  · have h' : ¬ i = W.heap.size := fun e => h e.symm
    simp [h, h']
theorem tenStore_new (W : World) (CA : Array Value) (hc : CA.size = 33) (h1 : CA.all (·.oneCell') = true) : (tenStore (.pointer (some ⟨W.heap.size, 0, none⟩)) (.agg CA)).run Try.prog (W.alloc (.cells zTen 30)) = .ok () (W.alloc (.cells CA 30)) := by
  simp only [tenStore, Instr.storeAt, Instr.sureAddr, Sem.run_bind, Sem.run_pure, Result.andThen_ok]
  rw [← setRow_alloc W zTen CA]
  exact run_storeVar_row _ _ _ _ zTen CA (at10 W _) (by rw [tenSize, hc]) (by rw [hc]; rfl) h1
theorem tenLoad_mid (W : World) (b o : Nat) (cs : List Value) (hl : cs.length = 33) (h : ∀ j v, cs[j]? = some v → W.cell? ⟨b, o + j, none⟩ = some v) : (tenLoad (.pointer (some ⟨b, o, none⟩))).run Try.prog W = .ok (.agg cs.toArray) W :=
  run_loadAt_mid W b o _ cs _ h Try.underlying30 rfl (by rw [tenSize, hl])

set_option maxRecDepth 100000 in
theorem list_ten_wr {w : World} {C base : Nat} {L : List UInt8} {v : Value} (h : Wr w C base L v) (hb : base ≤ w.heap.size) (hCb : base ≤ C) (hL : L.length ≤ 60000000) {T o k p : Nat} {P : Option Addr} (l : List TV) (hk : k ≤ l.length) (hk8 : k ≤ 255)
    (hrow : RowAt (· < base) w P (tvCells l)) (hT : w.cell? ⟨T, o, none⟩ = some (.slice P l.length p)) (h1 : T ≠ C) (h2 : v.ownBlock ≠ some T)
    (hok : ∀ x ∈ l, x.t.Ok ∧ x.t.name.length ≤ 100000000 ∧ x.Rows (· < base) w) :
    Calls Try.prog 85 #[.pointer (some ⟨C, 0, none⟩), .int .i64 k, .pointer (some ⟨T, o, none⟩), .func (.func 35) #[.pointer (some ⟨C, 0, none⟩)] #[]] w fun e w' => e = .returned (.tuple #[]) ∧ ∃ v', Wr w' C base (L ++ wtens (l.take k)) v' ∧ WMod C v w v' w' := by
  have c1 := blk_cell h.blk 1
  simp at c1
  have hfl : ∀ j, j ≤ k → (wtens (l.take j)).length ≤ 255 * 40000 := by
    intro j hj
    have h1 := wtens_len (l.take j)
    have h2 : (l.take j).length * 40000 ≤ 255 * 40000 := Nat.mul_le_mul_right _ (by rw [List.length_take]; omega)
    omega
  have hkeep : ∀ v' w', WMod C v w v' w' → Keeps (· < base) w w' := fun v' w' hm => hm.mod.keeps (fun b hb hs f => by
    rcases f with f | f
    · omega
    · have := (h.lt f).1; omega)
  obtain ⟨n, hn⟩ : ∃ n, n = l.length := ⟨_, rfl⟩
  rw [← hn] at hT
  have H0 := Lib.hid (And.intro h (And.intro hrow (And.intro hT (And.intro hL (And.intro hfl hkeep)))))
  have HO := Lib.hid hok
  have HN := Lib.hid hn
  have hkn : k ≤ n := by omega
  have hal := tenAlloc_run
  clear h hrow hT hok hb hL hfl hn hk hkeep
  go_enter Try.func85, Try.ntmps85
  go_wp2
  go_loopw [41] (fun i wr => ∃ (j : Nat) (v' : Value), i = .int .i64 j ∧ j ≤ k ∧ Wr wr C base (L ++ wtens (l.take j)) v' ∧ WMod C v w v' wr) (fun i _ => k - (intOf i).toNat)
  case atStart => exact ⟨0, v, rfl, by omega, by simpa [wtens] using H0.out.1, .refl _ _ _⟩
  case round =>
    obtain ⟨j, v', rfl, hj, hw, hm⟩ := hrel
    have HR := Lib.hid (And.intro hw hm)
    by_cases hlt : j < k
    · obtain ⟨z, hz⟩ : ∃ z, l[j]? = some z := ⟨_, List.getElem?_eq_getElem (by have := HN.out; omega)⟩
      have hT' : wr.cell? ⟨T, o, none⟩ = some (.slice P n p) := hm.mod.cell H0.out.2.2.1 (by rintro (f | f); exact h1 f; exact h2 f)
      have hkp := H0.out.2.2.2.2.2 _ _ hm
      obtain ⟨b, o', rfl, _, hblt, hx0⟩ := (H0.out.2.1.keeps hkp).elem TV.cells 33 TV.len (by omega) hz
      obtain ⟨z1, z2, z3⟩ := HO.out z (List.mem_of_getElem? hz)
      have hld := tenLoad_mid wr b (o' + j * 33) z.cells rfl hx0
      have hst := fun W => tenStore_new W z.cells.toArray rfl (TV.one z3)
      have HZ := Lib.hid hz
      have p1 : (0:Int) ≤ j := by omega
      have p2 : (j:Int) < n := by omega
      have p3 : (j:Int) < k := by omega
      have hmA : Mod No wr (wr.alloc (.cells z.cells.toArray 30)) := (Mod.refl _ _).alloc _
      have hlC := lt_of_block hw.blk
      have hbw : base ≤ wr.heap.size := by omega
      have hc := tenant_wr (hw.ext hmA) (by simp; omega) (T := wr.heap.size) (o := 0) (pre := []) (post := []) (tt := 30) (t := z.t) (vp := z.vp) (vs := z.vs) (vt := z.vt) (by have := H0.out.2.2.2.1; have := H0.out.2.2.2.2.1 j hj; rw [List.length_append]; omega)
        (by simpa [TV.cells] using at10 wr (.cells z.cells.toArray 30)) rfl (by omega) hbw hCb (by decide) z1 z2 (TV.Rows.keeps (TV.Rows.keeps z3 hkp) (hmA.keeps (fun _ _ _ f => f)))
      have HC := Lib.hid hc
      clear hw hm hz hmA hc hkp hx0 z1 z2 z3
      go_wp2_with fail
      refine HC.out.mono ?_
      rintro e w5 ⟨rfl, v5, hw5, _, hm5, hr5⟩
      have H5 := Lib.hid (And.intro hw5 (And.intro hm5 hr5))
      clear hw5 hm5 hr5
      go_wp2
      have hm5 := H5.out.2.1
      have hr5 := H5.out.2.2
      have hwm : WMod C v' wr v5 w5 := ⟨((Mod.refl No wr).alloc (.cells z.cells.toArray 30)).mono (fun _ f => f.elim) |>.trans' hm5 (fun i hi f => by
        rcases f with f | f | f
        · exact .inl f
        · exact .inr f
        · omega), fun g hg => by
        rcases hr5 g hg with f | f
        · exact .inl f
        · right; simp at f; omega⟩
      refine ⟨⟨j + 1, v5, by go_num, by omega, ?_, HR.out.2.trans hwm⟩, by simp [intOf]; omega⟩
      obtain ⟨hlx, ex⟩ := List.getElem?_eq_some_iff.1 HZ.out
      rw [List.take_succ_eq_append_getElem hlx, ex, wtens, List.flatMap_append, ← List.append_assoc]
      simpa [wtens] using H5.out.1
    · have hk' : j = k := by omega
      subst hk'
      clear hw hm
      go_wp2
      first | go_end0 | (simp only [Exit.inBlock, Exit.then]; refine bodyPost_ret (results_none rfl _ _ _) rfl ?_) | refine bodyPost_ret (results_none rfl _ _ _) rfl ?_
      exact ⟨rfl, v', HR.out.1, HR.out.2⟩

end Go.Proofs.Ytcnemhhbihhcfaa
