/-
  Post, CfgG, OpenT, OpenZ, OpenK, CfgH, CfgM in one text (pack.py).
-/
import Derived.Test.YtpkieilmlnlpkaaGreatW1
import Derived.ChangeSame
import Derived.WideShapes
import Derived.Below
import Derived.ReadAgain
import Derived.Handed
import Derived.ProofKit
import Derived.OpenShut
import Derived.Test.YtpkieilmlnlpkaaGreatChecked
import Derived.Stop.BytesEq
namespace Go.Proofs.YtpkieilmlnlpkaaGreat

section
open Go.ChangeShapes Go.WideShapes Go.ChangeAt Go.RowKit
theorem Mod.toBelow {w w' : World} (h : Mod No w w') : Below w.heap.size w w' :=
  ⟨h.os, h.tape, h.output, h.size, fun k hk => h.block k hk (fun f => f.elim)⟩
variable {H : Type} {enc : TypeId × Value → H} {P : Program}
theorem post_of_mod {f : Func} {s : ChangeSpec} {apart fresh handsOn again : Bool} {W W' : World} {args : Array Value} {v : Value} {ds gs : List (DataW H)} {before pa pv : List MemPlace}
    (hW : DataW.Whole enc P f.params.toList s.vars apart W args.toList ds gs before)
    (hres : ∀ (b : Nat) (sp : Nat → Bool) (hd : Bool), DataW.TrodAll enc P W' b sp hd f.resultTypes.toList (v.resultList f.resultTypes.size) (s.fn H (ds ++ gs)).results [])
    (hargs : ∀ sp : Nat → Bool, (∀ p ∈ before, sp p.block = true) → DataW.TrodAll enc P W' 0 sp true f.params.toList args.toList (s.fn H (ds ++ gs)).args pa)
    (hvars : ∀ sp : Nat → Bool, (∀ p ∈ before, sp p.block = true) → DataW.TrodVars enc P W' sp s.vars (s.fn H (ds ++ gs)).vars pv)
    (hps : before = pa ++ pv) (hm : Mod No W W')
    (hok : ∀ (j : Nat) (t : TypeId) (r : Value), f.resultTypes[j]? = some t → (v.resultList f.resultTypes.size)[j]? = some r → Value.okWide P W' .any 0 t r) :
    s.post enc P f apart fresh handsOn again W args v W' := by
  have hold : ∀ p ∈ before, (fun b => decide (b < W.heap.size)) p.block = true := fun p hp => by simpa using hW.lt p hp
  have hlt := hW.lt
  refine ⟨ds, gs, before, [], pa, pv, hW, hres _ _ _, hargs _ hold, hvars _ hold, World.keptBut_mono (fun p hp => ⟨hp, ?_⟩) (hm.toBelow.frame _), fun _ => ?_⟩
  · rw [hps, List.mem_append] at hp
    exact Or.inr hp
  · obtain ⟨_, _, _, _, _, hz, hn⟩ := hW
    refine ⟨hok, _, _, ([] ++ pa) ++ pv, ⟨[] ++ pa, pv, trodAll_append (hargs _ (fun _ _ => rfl)) (hres _ _ _), hvars _ (fun _ _ => rfl), rfl, ?_, ?_⟩, ?_⟩
    · intro b off hp
      have hp' : MemPlace.cell b off ∈ before := by rw [hps]; simpa using hp
      rw [hm.toBelow.frozen (by have := hlt _ hp'; simpa [MemPlace.block] using this)]
      exact hz b off hp'
    · intro ha
      have := hn ha
      rw [hps] at this
      simpa using this
    · intro p hp _
      rw [hps]
      simpa using hp
/-- What reads in the old world reads alike behind a call that turned nothing of it. -/
theorem trodAll_mod {W W' : World} (hm : Mod No W W') {base : Nat} {sp : Nat → Bool} {held : Bool} : ∀ {ts : List TypeId} {vs : List Value} {ds : List (DataW H)} {ps : List MemPlace},
    DataW.TrodAll enc P W base sp held ts vs ds ps → DataW.TrodAll enc P W' base sp held ts vs ds ps
  | [], [], [], _, h => h
  | _ :: _, _ :: _, _ :: _, _, ⟨p, q, ⟨n, h⟩, hs, e⟩ => ⟨p, q, ⟨n, DataW.trod_carry n _ _ _ h (fun z hz => hm.toBelow.same (DataW.TrodAll.lt (ts := [_]) (vs := [_]) (ds := [_]) (ps := p) ⟨p, [], ⟨n, h⟩, rfl, by simp⟩ z hz))⟩, trodAll_mod hm hs, e⟩
theorem Tryz.kids : Kids Tryz.prog (· < Tryz.prog.types.size) := kids_rows (by kernel_rfl) (by kernel_rfl)
theorem Tryz.full : ∀ t e, t < Tryz.prog.types.size → Tryz.prog.underlying t = some (.slice e) → 0 < Tryz.prog.cellsOf e := slices_full_of Tryz.prog (by kernel_rfl)
set_option maxRecDepth 100000 in
/-- A LAW's END, whatever its arguments: it returned true, and nothing that was there has turned. -/
theorem law_post {f : Func} {s : ChangeSpec} {apart fresh handsOn again : Bool} {W W' : World} {args : Array Value} {ds gs : List (DataW H)} {before : List MemPlace}
    (hW : DataW.Whole enc Tryz.prog f.params.toList s.vars apart W args.toList ds gs before) (hv : s.vars = [])
    (hts : ∀ t ∈ f.params.toList, t < Tryz.prog.types.size) (hrt : f.resultTypes = #[4])
    (hfn : s.fn H ds = { results := [.lit (.bool true)], args := ds }) (hm : Mod No W W') :
    s.post enc Tryz.prog f apart fresh handsOn again W args (.bool true) W' := by
  have hW' := hW
  obtain ⟨p, q, hA, hV, rfl, hfz, hnd⟩ := hW
  rw [hv] at hV
  obtain ⟨rfl, rfl⟩ := trodVars_none hV
  have hfn' : s.fn H (ds ++ []) = { results := [.lit (.bool true)], args := ds } := by rw [List.append_nil]; exact hfn
  refine post_of_mod (pa := p) (pv := []) hW' ?_ ?_ ?_ rfl hm ?_
  · intro b sp hd
    rw [hfn', hrt]
    exact trodAll_cons_mk (shut_bool Tryz.underlying4 _) trodAll_mk0
  · intro sp hsp
    rw [hfn']
    exact DataW.TrodAll.respare Tryz.kids Tryz.full hts (trodAll_mod hm hA) (fun x hx => hsp x (by simpa using hx))
  · intro sp hsp
    rw [hfn', hv]
    rfl
  · intro j t r h1 h2
    rw [hrt] at h1 h2
    obtain rfl : j = 0 := by have := (Array.getElem?_eq_some_iff.1 h1).1; simpa using this
    obtain rfl : 4 = t := by simpa using h1
    obtain rfl : Value.bool true = r := by simpa [Value.resultList] using h2
    exact okWide_bool_mk (t := 4) Tryz.underlying4 true
end

section
open Go.RowKit
set_option linter.unusedVariables false
structure M6 where
  (b0 b1 b2 b3 b4 b5 : UInt8)
  deriving DecidableEq, Inhabited
structure K8 where
  (b0 b1 b2 b3 b4 b5 b6 b7 : UInt8)
  deriving DecidableEq, Inhabited
structure Pr where
  (a b : Nat)
  deriving DecidableEq, Inhabited
structure Ten where
  name : List UInt8
  vni : Nat
  key : K8
  vtep : Nat
  vmac : M6
  host : M6
  pool : List Nat
  lo : Nat
  hi : Nat
  filter : Int
  statics : List Pr
  twices : List Pr
  sess : Int
  queue : Int
  rate : Nat
  burst : Nat
  deriving DecidableEq, Inhabited
def M6.l (m : M6) : List UInt8 := [m.b0, m.b1, m.b2, m.b3, m.b4, m.b5]
def K8.l (m : K8) : List UInt8 := [m.b0, m.b1, m.b2, m.b3, m.b4, m.b5, m.b6, m.b7]
def u8v (b : UInt8) : Value := .int .u8 (b.toNat : Int)
def numCells (l : List Nat) : List Value := l.map fun (n : Nat) => Value.int .u32 (n : Int)
def Pr.cells (p : Pr) : List Value := [.int .u32 (p.a : Int), .int .u32 (p.b : Int)]
def prCells (l : List Pr) : List Value := l.flatMap Pr.cells
theorem Pr.cells_length (p : Pr) : p.cells.length = 2 := rfl
theorem prCells_length (l : List Pr) : (prCells l).length = l.length * 2 := flat_length Pr.cells 2 Pr.cells_length l
/-- A tenant's cells, its three lists' values beside. -/
def Ten.cells (t : Ten) (vp vs vt : Value) : Array Value :=
  #[.string (str t.name), .int .u32 (t.vni : Int), .int .u8 (t.key.b0.toNat : Int), .int .u8 (t.key.b1.toNat : Int), .int .u8 (t.key.b2.toNat : Int), .int .u8 (t.key.b3.toNat : Int), .int .u8 (t.key.b4.toNat : Int), .int .u8 (t.key.b5.toNat : Int), .int .u8 (t.key.b6.toNat : Int), .int .u8 (t.key.b7.toNat : Int),
    .int .u32 (t.vtep : Int), .int .u8 (t.vmac.b0.toNat : Int), .int .u8 (t.vmac.b1.toNat : Int), .int .u8 (t.vmac.b2.toNat : Int), .int .u8 (t.vmac.b3.toNat : Int), .int .u8 (t.vmac.b4.toNat : Int), .int .u8 (t.vmac.b5.toNat : Int),
    .int .u8 (t.host.b0.toNat : Int), .int .u8 (t.host.b1.toNat : Int), .int .u8 (t.host.b2.toNat : Int), .int .u8 (t.host.b3.toNat : Int), .int .u8 (t.host.b4.toNat : Int), .int .u8 (t.host.b5.toNat : Int),
    vp, .int .u16 (t.lo : Int), .int .u16 (t.hi : Int), .int .i64 t.filter, vs, vt, .int .i64 t.sess, .int .i64 t.queue, .int .u32 (t.rate : Int), .int .u32 (t.burst : Int)]
def M6.zero : M6 := ⟨0, 0, 0, 0, 0, 0⟩
def K8.zero : K8 := ⟨0, 0, 0, 0, 0, 0, 0, 0⟩
def Ten.zero : Ten := ⟨[], 0, .zero, 0, .zero, .zero, [], 0, 0, 0, [], [], 0, 0, 0, 0⟩
/-- A value that is a tenant: its lists are rows in S. -/
structure TenV (S : Nat → Prop) (w : World) (t : Ten) (v : Value) : Prop where
  val : ∃ P p Q q R r, v = .agg (t.cells (.slice P t.pool.length p) (.slice Q t.statics.length q) (.slice R t.twices.length r)) ∧ RowAt S w P (numCells t.pool) ∧ RowAt S w Q (prCells t.statics) ∧ RowAt S w R (prCells t.twices)
theorem TenV.keeps {S : Nat → Prop} {w w' : World} {t : Ten} {v : Value} (h : TenV S w t v) (hk : Keeps S w w') : TenV S w' t v := by
  obtain ⟨P, p, Q, q, R, r, e, h1, h2, h3⟩ := h.val
  exact ⟨P, p, Q, q, R, r, e, h1.keeps hk, h2.keeps hk, h3.keeps hk⟩
theorem TenV.mono {S S' : Nat → Prop} {w : World} {t : Ten} {v : Value} (h : TenV S w t v) (hs : ∀ b, b < w.heap.size → S b → S' b) : TenV S' w t v := by
  obtain ⟨P, p, Q, q, R, r, e, h1, h2, h3⟩ := h.val
  exact ⟨P, p, Q, q, R, r, e, h1.mono hs, h2.mono hs, h3.mono hs⟩
theorem list_eq_of_get {α : Type} {l m : List α} (hl : l.length = m.length) (h : ∀ j, j < l.length → l[j]? = m[j]?) : l = m := by
  apply List.ext_getElem?
  intro i
  by_cases hi : i < l.length
  · exact h i hi
  · rw [List.getElem?_eq_none (by omega), List.getElem?_eq_none (by omega)]
theorem nums_at {S : Nat → Prop} {w : World} {A : Option Addr} {l : List Nat} (h : RowAt S w A (numCells l)) {i : Nat} {p : Nat} (hi : l[i]? = some p) :
    ∃ b o, A = some ⟨b, o, none⟩ ∧ S b ∧ b < w.heap.size ∧ w.cell? ⟨b, o + i, none⟩ = some (.int .u32 (p : Int)) := by
  have hc : (numCells l)[i]? = some (.int .u32 (p : Int)) := by simp [numCells, hi]
  obtain ⟨b, o, e, hs, hlt, hcc⟩ := h.open (by intro e; rw [e] at hc; simp at hc)
  exact ⟨b, o, e, hs, hlt, hcc i _ hc⟩
theorem prs_at {S : Nat → Prop} {w : World} {A : Option Addr} {l : List Pr} (h : RowAt S w A (prCells l)) {i : Nat} {p : Pr} (hi : l[i]? = some p) :
    ∃ b o, A = some ⟨b, o, none⟩ ∧ S b ∧ b < w.heap.size ∧ w.cell? ⟨b, o + i * 2, none⟩ = some (.int .u32 (p.a : Int)) ∧ w.cell? ⟨b, o + i * 2 + 1, none⟩ = some (.int .u32 (p.b : Int)) := by
  obtain ⟨b, o, e, hs, hlt, hc⟩ := h.elem Pr.cells 2 Pr.cells_length (by omega) hi
  exact ⟨b, o, e, hs, hlt, hc 0 _ rfl, hc 1 _ rfl⟩
theorem stPair : Tryz.prog.stoodInHeld 119 = false := by kernel_rfl
attribute [local go_sem] stPair
theorem gtPair : Tryz.prog.eqGuardType Tryz.prog.depth 119 = false := by kernel_rfl
attribute [local go_sem] gtPair
theorem neqPair (a b c d : Int) (w : World) : (binOp .neq 119 (.agg #[.int .u32 a, .int .u32 b]) (.agg #[.int .u32 c, .int .u32 d])).run Tryz.prog w = .ok (.bool (!(a == c && b == d))) w := by
  go_simp
  by_cases h1 : a = c <;> by_cases h2 : b = d <;> simp [h1, h2]
attribute [local go_sem high] neqPair
theorem pr_beq (p q : Pr) : ((p.a : Int) == q.a && (p.b : Int) == q.b) = decide (p = q) := by
  obtain ⟨a, b⟩ := p
  obtain ⟨c, d⟩ := q
  by_cases h1 : a = c <;> by_cases h2 : b = d <;> simp [h1, h2] <;> omega
theorem nat_beq (p q : Nat) : ((p : Int) == q) = decide (p = q) := by
  by_cases h : p = q
  · subst h; simp
  · have h' : ¬ (p : Int) = q := by omega
    simp [h, h']
theorem nums_lens (A B : Option Addr) (n m c d : Nat) (w : World) (h : n ≠ m) :
    Calls Tryz.prog 60 #[.slice A n c, .slice B m d] w fun e w' => e = .returned (.bool false) ∧ ∃ n, w' = w.drewN n := by
  have hl : ((n : Int) != m) = true := by rw [bne_iff_ne]; omega
  go_enter Tryz.func60, Tryz.ntmps60
  go_wp2
  go_ret
  exact ⟨rfl, 0, rfl⟩
set_option maxRecDepth 100000 in
theorem nums_same {S S' : Nat → Prop} (A B : Option Addr) (c d : Nat) (xs ys : List Nat) (w : World) (hx : RowAt S w A (numCells xs)) (hy : RowAt S' w B (numCells ys)) (bx : xs.length ≤ 9223372036854775807) (m : Nat) (hm : m = ys.length) (hxy : xs.length = m) :
    Calls Tryz.prog 60 #[.slice A m c, .slice B m d] w fun e w' => e = .returned (.bool (decide (xs = ys))) ∧ ∃ n, w' = w.drewN n := by
  have hl : ((m : Int) != m) = false := by simp
  have bm : m ≤ 9223372036854775807 := by omega
  have HM := Lib.hid hm
  have HX := Lib.hid hxy
  clear hm hxy
  go_enter Tryz.func60, Tryz.ntmps60
  go_wp2
  go_loopw [5] (fun i wr => ∃ k : Nat, i = .int .i64 k ∧ k ≤ m ∧ (∀ j, j < k → xs[j]? = ys[j]?) ∧ ∃ n, wr = w.drewN n) (fun i _ => m - (intOf i).toNat)
  case atStart => exact ⟨0, rfl, by omega, by omega, 0, rfl⟩
  case round =>
    obtain ⟨k, rfl, hk, hpre, n, rfl⟩ := hrel
    have HP := Lib.hid hpre
    clear hpre
    by_cases hlt : k < m
    · have hkx : k < xs.length := by have := HX.out; omega
      have hky : k < ys.length := by have := HM.out; omega
      obtain ⟨p, hp⟩ : ∃ p, xs[k]? = some p := ⟨_, List.getElem?_eq_getElem hkx⟩
      obtain ⟨q, hq⟩ : ∃ q, ys[k]? = some q := ⟨_, List.getElem?_eq_getElem hky⟩
      obtain ⟨b, o, rfl, _, _, hx0⟩ := nums_at hx hp
      obtain ⟨b', o', rfl, _, _, hy0⟩ := nums_at hy hq
      have HPQ := Lib.hid (And.intro hp hq)
      clear hp hq hx hy
      have p1 : (0:Int) ≤ k := by omega
      have p2 : (k:Int) < m := by omega
      have hpq := nat_beq p q
      by_cases hd : p = q
      · have hb : ((p : Int) == q) = true := by rw [hpq]; simpa using hd
        have hb' : (!((p : Int) == q)) = false := by rw [hb]; rfl
        have hb2 : ((p : Int) != q) = false := by subst hd; simp
        have HD := Lib.hid hd
        clear hpq hd
        go_wp2
        go_quiet (fail)
        go_wp2
        all_goals first
          | (exfalso; have e := HD.out; subst e; simp_all; done)
          | (refine ⟨⟨k + 1, by go_num, by omega, ?_, _, by first | rfl | exact World.drewN_drewN ..⟩, by simp [intOf]; omega⟩
             intro j hj
             rcases Nat.lt_or_ge j k with h | h
             · exact HP.out j h
             · obtain rfl : j = k := by omega
               rw [HPQ.out.1, HPQ.out.2, HD.out])
      · have hb : ((p : Int) == q) = false := by rw [hpq]; simpa using hd
        have hb2 : ((p : Int) != q) = true := by rw [bne_iff_ne]; omega
        have HD := Lib.hid hd
        clear hpq hd
        go_wp2
        go_quiet (fail)
        go_wp2
        all_goals first
          | (exfalso; simp_all; done)
          | (go_ret
             refine ⟨?_, _, by first | rfl | exact World.drewN_drewN ..⟩
             have : ¬ xs = ys := by
               intro e
               have h1 := HPQ.out.1
               rw [e, HPQ.out.2] at h1
               exact HD.out (Option.some.inj h1).symm
             simp [this])
    · have hk' : k = m := by omega
      subst hk'
      have : xs = ys := list_eq_of_get (by rw [HX.out, HM.out]) (fun j hj => HP.out j (by have := HX.out; omega))
      have H := Lib.hid this
      clear this
      go_wp2
      go_ret
      exact ⟨by simp [H.out], n, rfl⟩
theorem nums_ok {S S' : Nat → Prop} (A B : Option Addr) (c d : Nat) (xs ys : List Nat) (w : World) (hx : RowAt S w A (numCells xs)) (hy : RowAt S' w B (numCells ys)) (bx : xs.length ≤ 9223372036854775807) :
    Calls Tryz.prog 60 #[.slice A xs.length c, .slice B ys.length d] w fun e w' => e = .returned (.bool (decide (xs = ys))) ∧ ∃ n, w' = w.drewN n := by
  by_cases h : xs.length = ys.length
  · have := nums_same A B c d xs ys w hx hy bx ys.length rfl h
    rw [h]
    exact this
  · have hne : ¬ xs = ys := fun e => h (by rw [e])
    simp only [hne, decide_false]
    exact nums_lens A B _ _ c d w h
theorem pairs_lens (A B : Option Addr) (n m c d : Nat) (w : World) (h : n ≠ m) :
    Calls Tryz.prog 61 #[.slice A n c, .slice B m d] w fun e w' => e = .returned (.bool false) ∧ ∃ n, w' = w.drewN n := by
  have hl : ((n : Int) != m) = true := by rw [bne_iff_ne]; omega
  go_enter Tryz.func61, Tryz.ntmps61
  go_wp2
  go_ret
  exact ⟨rfl, 0, rfl⟩
set_option maxRecDepth 100000 in
theorem pairs_same {S S' : Nat → Prop} (A B : Option Addr) (c d : Nat) (xs ys : List Pr) (w : World) (hx : RowAt S w A (prCells xs)) (hy : RowAt S' w B (prCells ys)) (bx : xs.length ≤ 9223372036854775807) (m : Nat) (hm : m = ys.length) (hxy : xs.length = m) :
    Calls Tryz.prog 61 #[.slice A m c, .slice B m d] w fun e w' => e = .returned (.bool (decide (xs = ys))) ∧ ∃ n, w' = w.drewN n := by
  have hl : ((m : Int) != m) = false := by simp
  have bm : m ≤ 9223372036854775807 := by omega
  have HM := Lib.hid hm
  have HX := Lib.hid hxy
  clear hm hxy
  go_enter Tryz.func61, Tryz.ntmps61
  go_wp2
  go_loopw [5] (fun i wr => ∃ k : Nat, i = .int .i64 k ∧ k ≤ m ∧ (∀ j, j < k → xs[j]? = ys[j]?) ∧ ∃ n, wr = w.drewN n) (fun i _ => m - (intOf i).toNat)
  case atStart => exact ⟨0, rfl, by omega, by omega, 0, rfl⟩
  case round =>
    obtain ⟨k, rfl, hk, hpre, n, rfl⟩ := hrel
    have HP := Lib.hid hpre
    clear hpre
    by_cases hlt : k < m
    · have hkx : k < xs.length := by have := HX.out; omega
      have hky : k < ys.length := by have := HM.out; omega
      obtain ⟨p, hp⟩ : ∃ p, xs[k]? = some p := ⟨_, List.getElem?_eq_getElem hkx⟩
      obtain ⟨q, hq⟩ : ∃ q, ys[k]? = some q := ⟨_, List.getElem?_eq_getElem hky⟩
      obtain ⟨b, o, rfl, _, _, hx0, hx1⟩ := prs_at hx hp
      obtain ⟨b', o', rfl, _, _, hy0, hy1⟩ := prs_at hy hq
      have HPQ := Lib.hid (And.intro hp hq)
      clear hp hq hx hy
      have p1 : (0:Int) ≤ k := by omega
      have p2 : (k:Int) < m := by omega
      have hpq := pr_beq p q
      by_cases hd : p = q
      · have hb : ((p.a : Int) == q.a && (p.b : Int) == q.b) = true := by rw [hpq]; simpa using hd
        have hb' : (!((p.a : Int) == q.a && (p.b : Int) == q.b)) = false := by rw [hb]; rfl
        have hb2 : (!((p.a : Int) == q.a && (p.b : Int) == q.b)) = false := by rw [hb]; rfl
        have HD := Lib.hid hd
        clear hpq hd
        go_wp2
        go_quiet (fail)
        go_wp2
        all_goals first
          | (exfalso; have e := HD.out; subst e; simp_all; done)
          | (refine ⟨⟨k + 1, by go_num, by omega, ?_, _, by first | rfl | exact World.drewN_drewN ..⟩, by simp [intOf]; omega⟩
             intro j hj
             rcases Nat.lt_or_ge j k with h | h
             · exact HP.out j h
             · obtain rfl : j = k := by omega
               rw [HPQ.out.1, HPQ.out.2, HD.out])
      · have hb : ((p.a : Int) == q.a && (p.b : Int) == q.b) = false := by rw [hpq]; simpa using hd
        have hb2 : (!((p.a : Int) == q.a && (p.b : Int) == q.b)) = true := by rw [hb]; rfl
        have HD := Lib.hid hd
        clear hpq hd
        go_wp2
        go_quiet (fail)
        go_wp2
        all_goals first
          | (exfalso; simp_all; done)
          | (go_ret
             refine ⟨?_, _, by first | rfl | exact World.drewN_drewN ..⟩
             have : ¬ xs = ys := by
               intro e
               have h1 := HPQ.out.1
               rw [e, HPQ.out.2] at h1
               exact HD.out (Option.some.inj h1).symm
             simp [this])
    · have hk' : k = m := by omega
      subst hk'
      have : xs = ys := list_eq_of_get (by rw [HX.out, HM.out]) (fun j hj => HP.out j (by have := HX.out; omega))
      have H := Lib.hid this
      clear this
      go_wp2
      go_ret
      exact ⟨by simp [H.out], n, rfl⟩
theorem pairs_ok {S S' : Nat → Prop} (A B : Option Addr) (c d : Nat) (xs ys : List Pr) (w : World) (hx : RowAt S w A (prCells xs)) (hy : RowAt S' w B (prCells ys)) (bx : xs.length ≤ 9223372036854775807) :
    Calls Tryz.prog 61 #[.slice A xs.length c, .slice B ys.length d] w fun e w' => e = .returned (.bool (decide (xs = ys))) ∧ ∃ n, w' = w.drewN n := by
  by_cases h : xs.length = ys.length
  · have := pairs_same A B c d xs ys w hx hy bx ys.length rfl h
    rw [h]
    exact this
  · have hne : ¬ xs = ys := fun e => h (by rw [e])
    simp only [hne, decide_false]
    exact pairs_lens A B _ _ c d w h
end

section
attribute [local go_sem] stPair gtPair
attribute [local go_sem high] neqPair
open Go.ChangeShapes Go.WideShapes Go.ChangeAt Go.RowKit Go.Deep
set_option linter.unusedVariables false
variable {H : Type} {enc : TypeId × Value → H} {w : World}
/-- A tenant's numbers are numbers of their types. -/
structure Ten.wf (t : Ten) : Prop where
  vni : t.vni < 4294967296
  vtep : t.vtep < 4294967296
  pool : ∀ x ∈ t.pool, x < 4294967296
  lo : t.lo < 65536
  hi : t.hi < 65536
  filter : (Lit.int .i64 t.filter).wf = true
  statics : ∀ p ∈ t.statics, p.a < 4294967296 ∧ p.b < 4294967296
  twices : ∀ p ∈ t.twices, p.a < 4294967296 ∧ p.b < 4294967296
  sess : (Lit.int .i64 t.sess).wf = true
  queue : (Lit.int .i64 t.queue).wf = true
  rate : t.rate < 4294967296
  burst : t.burst < 4294967296
theorem trod_str {P : Program} {t : TypeId} {fuel : Nat} {cs : List Value} {x : DataW H × List MemPlace} {base : Nat} {spare : Nat → Bool} {held : Bool} (ht : P.underlying t = some .string) (h : DataW.trod enc P w base spare held fuel t cs = some x) : ∃ s, cs = [.string s] := by
  cases fuel with
  | zero => simp [DataW.trod] at h
  | succ n =>
    unfold DataW.trod at h
    rw [ht] at h
    split at h <;> simp_all
theorem nat_of_u32 {z : Int} (h : (Lit.int .u32 z).wf = true) : ∃ n : Nat, z = n ∧ n < 4294967296 := ⟨z.toNat, by
  have : 0 ≤ z ∧ z ≤ 4294967295 := by simpa [Lit.wf, IntKind.min, IntKind.max, IntKind.signed, IntKind.bits] using h
  omega⟩
theorem nat_of_u16 {z : Int} (h : (Lit.int .u16 z).wf = true) : ∃ n : Nat, z = n ∧ n < 65536 := ⟨z.toNat, by
  have : 0 ≤ z ∧ z ≤ 65535 := by simpa [Lit.wf, IntKind.min, IntKind.max, IntKind.signed, IntKind.bits] using h
  omega⟩
theorem byte_of_u8 {z : Int} (h : (Lit.int .u8 z).wf = true) : ∃ b : UInt8, z = (b.toNat : Int) := by
  have : 0 ≤ z ∧ z ≤ 255 := by simpa [Lit.wf, IntKind.min, IntKind.max, IntKind.signed, IntKind.bits] using h
  refine ⟨UInt8.ofNat z.toNat, ?_⟩
  rw [UInt8.toNat_ofNat']
  omega
theorem co5 : Tryz.prog.cellsOf 5 = 1 := by kernel_rfl
theorem coU32 : Tryz.prog.cellsOf 24 = 1 := by kernel_rfl
theorem coPr : Tryz.prog.cellsOf 119 = 2 := by kernel_rfl
theorem coTen : Tryz.prog.cellsOf 31 = 33 := by kernel_rfl
theorem open_u32 {fuel : Nat} {c : Value} {x : DataW H × List MemPlace} (h : DataW.trod enc Tryz.prog w 0 (fun _ => true) true fuel 24 [c] = some x) : ∃ n : Nat, c = .int .u32 (n : Int) ∧ n < 4294967296 := by
  obtain ⟨z, hz, _, hw⟩ := DataW.trod_int Tryz.underlying24 h
  obtain ⟨n, rfl, hn⟩ := nat_of_u32 hw
  cases hz
  exact ⟨n, rfl, hn⟩
theorem open_u16 {fuel : Nat} {c : Value} {x : DataW H × List MemPlace} (h : DataW.trod enc Tryz.prog w 0 (fun _ => true) true fuel 28 [c] = some x) : ∃ n : Nat, c = .int .u16 (n : Int) ∧ n < 65536 := by
  obtain ⟨z, hz, _, hw⟩ := DataW.trod_int Tryz.underlying28 h
  obtain ⟨n, rfl, hn⟩ := nat_of_u16 hw
  cases hz
  exact ⟨n, rfl, hn⟩
theorem open_i64 {fuel : Nat} {c : Value} {x : DataW H × List MemPlace} (h : DataW.trod enc Tryz.prog w 0 (fun _ => true) true fuel 3 [c] = some x) : ∃ n : Int, c = .int .i64 n ∧ (Lit.int .i64 n).wf = true := by
  obtain ⟨z, hz, _, hw⟩ := DataW.trod_int Tryz.underlying3 h
  cases hz
  exact ⟨z, rfl, hw⟩
theorem open_u8 {fuel : Nat} {c : Value} {x : DataW H × List MemPlace} (h : DataW.trod enc Tryz.prog w 0 (fun _ => true) true fuel 5 [c] = some x) : ∃ b : UInt8, c = .int .u8 (b.toNat : Int) := by
  obtain ⟨z, hz, _, hw⟩ := DataW.trod_int Tryz.underlying5 h
  obtain ⟨n, rfl⟩ := byte_of_u8 hw
  cases hz
  exact ⟨n, rfl⟩
/-- An array of bytes: each of its cells. -/
theorem open_arr {t : TypeId} {n fuel : Nat} {cs : List Value} {x : DataW H × List MemPlace} (ht : Tryz.prog.underlying t = some (.array n 5)) (h : DataW.trod enc Tryz.prog w 0 (fun _ => true) true fuel t cs = some x) : ∀ i c, i < n → cs[i]? = some c → ∃ b : UInt8, c = .int .u8 (b.toNat : Int) := by
  obtain ⟨xs, m, _, _, _, hl, hx⟩ := DataW.trod_array ht h
  intro i c hi hc
  have h1 := hx i hi
  rw [co5, Nat.mul_one] at h1
  have h2 : (cs.drop i).take 1 = [c] := by
    have hlt := (List.getElem?_eq_some_iff.1 hc).1
    rw [List.drop_eq_getElem_cons hlt, (List.getElem?_eq_some_iff.1 hc).2]
    rfl
  rw [h2, List.getElem?_eq_getElem (by omega)] at h1
  exact open_u8 h1
theorem open_nums {fuel : Nat} {c : Value} {x : DataW H × List MemPlace} (h : DataW.trod enc Tryz.prog w 0 (fun _ => true) true fuel 27 [c] = some x) : ∃ (A : Option Addr) (k : Nat) (l : List Nat), c = .slice A l.length k ∧ RowAt (fun _ => True) w A (numCells l) ∧ ∀ x ∈ l, x < 4294967296 := by
  obtain ⟨A, n, k, rfl⟩ : ∃ A n k, c = .slice A n k := by
    rcases open_ints Tryz.underlying27 Tryz.underlying24 coU32 h with ⟨hcs, _⟩ | ⟨a, len', cap', zs, hcs, _⟩
    · cases hcs; exact ⟨_, _, _, rfl⟩
    · cases hcs; exact ⟨_, _, _, rfl⟩
  obtain ⟨zs, hz, _, hrow, hw⟩ := open_row_ints Tryz.underlying27 Tryz.underlying24 coU32 h
  refine ⟨A, k, zs.map (·.toNat), by rw [List.length_map, hz], ?_, fun x hx => by
    obtain ⟨z, hz, rfl⟩ := List.mem_map.1 hx
    obtain ⟨n, rfl, hn⟩ := nat_of_u32 (hw z hz)
    simpa using hn⟩
  have e : numCells (zs.map (·.toNat)) = zs.map fun z => .int .u32 z := by
    simp only [numCells, List.map_map]
    refine List.map_congr_left fun z hz => ?_
    obtain ⟨n, rfl, _⟩ := nat_of_u32 (hw z hz)
    simp
  rw [e]
  exact hrow
set_option maxRecDepth 100000 in
theorem open_prs {fuel : Nat} {c : Value} {x : DataW H × List MemPlace} (h : DataW.trod enc Tryz.prog w 0 (fun _ => true) true fuel 29 [c] = some x) : ∃ (A : Option Addr) (k : Nat) (l : List Pr), c = .slice A l.length k ∧ RowAt (fun _ => True) w A (prCells l) ∧ ∀ p ∈ l, p.a < 4294967296 ∧ p.b < 4294967296 := by
  rcases open_slice_pairs Tryz.underlying29 Tryz.underlying119 coPr rfl rfl coU32 coU32 h with ⟨hcs, hx⟩ | ⟨a, len, cap, m, n, V0, V1, D0, D1, P0, P1, hcs, _, hl, hm, hmm, _, hx⟩
  · cases hcs
    exact ⟨none, 0, [], rfl, .nil _ _ _, by simp⟩
  · cases hcs
    simp only [if_true] at hmm
    have hv : ∀ i, i < len → ∃ p : Pr, V0 i = .int .u32 (p.a : Int) ∧ V1 i = .int .u32 (p.b : Int) ∧ p.a < 4294967296 ∧ p.b < 4294967296 := by
      intro i hi
      obtain ⟨_, _, h2, h3⟩ := hx i (by omega)
      obtain ⟨n0, e0, b0⟩ := open_u32 h2
      obtain ⟨n1, e1, b1⟩ := open_u32 h3
      exact ⟨⟨n0, n1⟩, e0, e1, b0, b1⟩
    obtain ⟨g, hg⟩ : ∃ g : Nat → Pr, ∀ i, i < len → V0 i = .int .u32 ((g i).a : Int) ∧ V1 i = .int .u32 ((g i).b : Int) ∧ (g i).a < 4294967296 ∧ (g i).b < 4294967296 :=
      ⟨fun i => if h : i < len then (hv i h).choose else default, fun i hi => by simp only [hi, dif_pos]; exact (hv i hi).choose_spec⟩
    refine ⟨some a, cap, (List.range len).map g, by simp, ?_, fun p hp => by
      obtain ⟨i, hi, rfl⟩ := List.mem_map.1 hp
      exact (hg i (by simpa using hi)).2.2⟩
    by_cases h0 : len = 0
    · subst h0
      exact .nil _ _ _
    · obtain ⟨b, o, spot⟩ := a
      have hs : spot = none := by
        obtain ⟨h1, _⟩ := hx 0 (by omega)
        simpa [Addr.add] using World.cell?_spot h1
      subst hs
      refine .inr ⟨b, o, rfl, trivial, fun j v hj => ?_⟩
      have hjl := (List.getElem?_eq_some_iff.1 hj).1
      rw [prCells_length, List.length_map, List.length_range] at hjl
      have hi : j / 2 < len := by omega
      have hr : ((List.range len).map g)[j / 2]? = some (g (j / 2)) := by simp [hi]
      have hf := flat_at Pr.cells 2 Pr.cells_length _ (j / 2) (j % 2) _ hr (by omega)
      rw [show j / 2 * 2 + j % 2 = j by omega] at hf
      have hj' : (g (j / 2)).cells[j % 2]? = some v := by rw [← hf]; exact hj
      obtain ⟨h1, h2, _, _⟩ := hx (j / 2) (by omega)
      rw [(hg _ hi).1] at h1
      rw [(hg _ hi).2.1] at h2
      rw [Addr.add_lit] at h1 h2
      have hm2 : j % 2 = 0 ∨ j % 2 = 1 := by omega
      rcases hm2 with e | e
      · rw [e] at hj'
        simp only [Pr.cells, List.getElem?_cons_zero, Option.some.injEq] at hj'
        rw [← hj', show o + j = o + j / 2 * 2 by omega]
        exact h1
      · rw [e] at hj'
        simp only [Pr.cells, List.getElem?_cons_succ, List.getElem?_cons_zero, Option.some.injEq] at hj'
        rw [← hj', show o + j = o + (j / 2 * 2 + 1) by omega]
        exact h2
theorem coStr : Tryz.prog.cellsOf 9 = 1 := by kernel_rfl
theorem coK8 : Tryz.prog.cellsOf 22 = 8 := by kernel_rfl
theorem coM6 : Tryz.prog.cellsOf 26 = 6 := by kernel_rfl
theorem coLU : Tryz.prog.cellsOf 27 = 1 := by kernel_rfl
theorem coU16 : Tryz.prog.cellsOf 28 = 1 := by kernel_rfl
theorem coI : Tryz.prog.cellsOf 3 = 1 := by kernel_rfl
theorem coLP : Tryz.prog.cellsOf 29 = 1 := by kernel_rfl
theorem list33 {α : Type} : ∀ (l : List α), l.length = 33 → ∃ c0 c1 c2 c3 c4 c5 c6 c7 c8 c9 c10 c11 c12 c13 c14 c15 c16 c17 c18 c19 c20 c21 c22 c23 c24 c25 c26 c27 c28 c29 c30 c31 c32, l = [c0, c1, c2, c3, c4, c5, c6, c7, c8, c9, c10, c11, c12, c13, c14, c15, c16, c17, c18, c19, c20, c21, c22, c23, c24, c25, c26, c27, c28, c29, c30, c31, c32]
  | c0 :: c1 :: c2 :: c3 :: c4 :: c5 :: c6 :: c7 :: c8 :: c9 :: c10 :: c11 :: c12 :: c13 :: c14 :: c15 :: c16 :: c17 :: c18 :: c19 :: c20 :: c21 :: c22 :: c23 :: c24 :: c25 :: c26 :: c27 :: c28 :: c29 :: c30 :: c31 :: c32 :: [], _ => ⟨c0, c1, c2, c3, c4, c5, c6, c7, c8, c9, c10, c11, c12, c13, c14, c15, c16, c17, c18, c19, c20, c21, c22, c23, c24, c25, c26, c27, c28, c29, c30, c31, c32, rfl⟩
set_option maxRecDepth 100000 in
set_option maxHeartbeats 2000000 in
theorem open_ten {fuel : Nat} {cs : List Value} {x : DataW H × List MemPlace} (h : DataW.trod enc Tryz.prog w 0 (fun _ => true) true fuel 31 cs = some x) : ∃ t : Ten, TenV (fun _ => True) w t (.agg cs.toArray) ∧ t.wf := by
  obtain ⟨xs, n, _, _, hl, hlen, hf⟩ := DataW.trod_struct Tryz.underlying31 h
  rw [coTen] at hl
  obtain ⟨c0, c1, c2, c3, c4, c5, c6, c7, c8, c9, c10, c11, c12, c13, c14, c15, c16, c17, c18, c19, c20, c21, c22, c23, c24, c25, c26, c27, c28, c29, c30, c31, c32, rfl⟩ := list33 cs hl
  have hg : ∀ i, i < 16 → ∃ y, xs[i]? = some y := fun i hi => ⟨_, List.getElem?_eq_getElem (by rw [hlen]; exact hi)⟩
  obtain ⟨y0, hy0⟩ := hg 0 (by decide)
  have t0 : DataW.trod enc Tryz.prog w 0 (fun _ => true) true n 9 [c0] = some y0 := by
    have : DataW.trod enc Tryz.prog w 0 (fun _ => true) true n 9 ((List.drop 0 [c0, c1, c2, c3, c4, c5, c6, c7, c8, c9, c10, c11, c12, c13, c14, c15, c16, c17, c18, c19, c20, c21, c22, c23, c24, c25, c26, c27, c28, c29, c30, c31, c32]).take (Tryz.prog.cellsOf 9)) = xs[0]? := hf 0 _ rfl
    rw [hy0] at this
    rw [coStr] at this
    exact this
  obtain ⟨y1, hy1⟩ := hg 1 (by decide)
  have t1 : DataW.trod enc Tryz.prog w 0 (fun _ => true) true n 24 [c1] = some y1 := by
    have : DataW.trod enc Tryz.prog w 0 (fun _ => true) true n 24 ((List.drop 1 [c0, c1, c2, c3, c4, c5, c6, c7, c8, c9, c10, c11, c12, c13, c14, c15, c16, c17, c18, c19, c20, c21, c22, c23, c24, c25, c26, c27, c28, c29, c30, c31, c32]).take (Tryz.prog.cellsOf 24)) = xs[1]? := hf 1 _ rfl
    rw [hy1] at this
    rw [coU32] at this
    exact this
  obtain ⟨y2, hy2⟩ := hg 2 (by decide)
  have t2 : DataW.trod enc Tryz.prog w 0 (fun _ => true) true n 22 [c2, c3, c4, c5, c6, c7, c8, c9] = some y2 := by
    have : DataW.trod enc Tryz.prog w 0 (fun _ => true) true n 22 ((List.drop 2 [c0, c1, c2, c3, c4, c5, c6, c7, c8, c9, c10, c11, c12, c13, c14, c15, c16, c17, c18, c19, c20, c21, c22, c23, c24, c25, c26, c27, c28, c29, c30, c31, c32]).take (Tryz.prog.cellsOf 22)) = xs[2]? := hf 2 _ rfl
    rw [hy2] at this
    rw [coK8] at this
    exact this
  obtain ⟨y3, hy3⟩ := hg 3 (by decide)
  have t3 : DataW.trod enc Tryz.prog w 0 (fun _ => true) true n 24 [c10] = some y3 := by
    have : DataW.trod enc Tryz.prog w 0 (fun _ => true) true n 24 ((List.drop 10 [c0, c1, c2, c3, c4, c5, c6, c7, c8, c9, c10, c11, c12, c13, c14, c15, c16, c17, c18, c19, c20, c21, c22, c23, c24, c25, c26, c27, c28, c29, c30, c31, c32]).take (Tryz.prog.cellsOf 24)) = xs[3]? := hf 3 _ rfl
    rw [hy3] at this
    rw [coU32] at this
    exact this
  obtain ⟨y4, hy4⟩ := hg 4 (by decide)
  have t4 : DataW.trod enc Tryz.prog w 0 (fun _ => true) true n 26 [c11, c12, c13, c14, c15, c16] = some y4 := by
    have : DataW.trod enc Tryz.prog w 0 (fun _ => true) true n 26 ((List.drop 11 [c0, c1, c2, c3, c4, c5, c6, c7, c8, c9, c10, c11, c12, c13, c14, c15, c16, c17, c18, c19, c20, c21, c22, c23, c24, c25, c26, c27, c28, c29, c30, c31, c32]).take (Tryz.prog.cellsOf 26)) = xs[4]? := hf 4 _ rfl
    rw [hy4] at this
    rw [coM6] at this
    exact this
  obtain ⟨y5, hy5⟩ := hg 5 (by decide)
  have t5 : DataW.trod enc Tryz.prog w 0 (fun _ => true) true n 26 [c17, c18, c19, c20, c21, c22] = some y5 := by
    have : DataW.trod enc Tryz.prog w 0 (fun _ => true) true n 26 ((List.drop 17 [c0, c1, c2, c3, c4, c5, c6, c7, c8, c9, c10, c11, c12, c13, c14, c15, c16, c17, c18, c19, c20, c21, c22, c23, c24, c25, c26, c27, c28, c29, c30, c31, c32]).take (Tryz.prog.cellsOf 26)) = xs[5]? := hf 5 _ rfl
    rw [hy5] at this
    rw [coM6] at this
    exact this
  obtain ⟨y6, hy6⟩ := hg 6 (by decide)
  have t6 : DataW.trod enc Tryz.prog w 0 (fun _ => true) true n 27 [c23] = some y6 := by
    have : DataW.trod enc Tryz.prog w 0 (fun _ => true) true n 27 ((List.drop 23 [c0, c1, c2, c3, c4, c5, c6, c7, c8, c9, c10, c11, c12, c13, c14, c15, c16, c17, c18, c19, c20, c21, c22, c23, c24, c25, c26, c27, c28, c29, c30, c31, c32]).take (Tryz.prog.cellsOf 27)) = xs[6]? := hf 6 _ rfl
    rw [hy6] at this
    rw [coLU] at this
    exact this
  obtain ⟨y7, hy7⟩ := hg 7 (by decide)
  have t7 : DataW.trod enc Tryz.prog w 0 (fun _ => true) true n 28 [c24] = some y7 := by
    have : DataW.trod enc Tryz.prog w 0 (fun _ => true) true n 28 ((List.drop 24 [c0, c1, c2, c3, c4, c5, c6, c7, c8, c9, c10, c11, c12, c13, c14, c15, c16, c17, c18, c19, c20, c21, c22, c23, c24, c25, c26, c27, c28, c29, c30, c31, c32]).take (Tryz.prog.cellsOf 28)) = xs[7]? := hf 7 _ rfl
    rw [hy7] at this
    rw [coU16] at this
    exact this
  obtain ⟨y8, hy8⟩ := hg 8 (by decide)
  have t8 : DataW.trod enc Tryz.prog w 0 (fun _ => true) true n 28 [c25] = some y8 := by
    have : DataW.trod enc Tryz.prog w 0 (fun _ => true) true n 28 ((List.drop 25 [c0, c1, c2, c3, c4, c5, c6, c7, c8, c9, c10, c11, c12, c13, c14, c15, c16, c17, c18, c19, c20, c21, c22, c23, c24, c25, c26, c27, c28, c29, c30, c31, c32]).take (Tryz.prog.cellsOf 28)) = xs[8]? := hf 8 _ rfl
    rw [hy8] at this
    rw [coU16] at this
    exact this
  obtain ⟨y9, hy9⟩ := hg 9 (by decide)
  have t9 : DataW.trod enc Tryz.prog w 0 (fun _ => true) true n 3 [c26] = some y9 := by
    have : DataW.trod enc Tryz.prog w 0 (fun _ => true) true n 3 ((List.drop 26 [c0, c1, c2, c3, c4, c5, c6, c7, c8, c9, c10, c11, c12, c13, c14, c15, c16, c17, c18, c19, c20, c21, c22, c23, c24, c25, c26, c27, c28, c29, c30, c31, c32]).take (Tryz.prog.cellsOf 3)) = xs[9]? := hf 9 _ rfl
    rw [hy9] at this
    rw [coI] at this
    exact this
  obtain ⟨y10, hy10⟩ := hg 10 (by decide)
  have t10 : DataW.trod enc Tryz.prog w 0 (fun _ => true) true n 29 [c27] = some y10 := by
    have : DataW.trod enc Tryz.prog w 0 (fun _ => true) true n 29 ((List.drop 27 [c0, c1, c2, c3, c4, c5, c6, c7, c8, c9, c10, c11, c12, c13, c14, c15, c16, c17, c18, c19, c20, c21, c22, c23, c24, c25, c26, c27, c28, c29, c30, c31, c32]).take (Tryz.prog.cellsOf 29)) = xs[10]? := hf 10 _ rfl
    rw [hy10] at this
    rw [coLP] at this
    exact this
  obtain ⟨y11, hy11⟩ := hg 11 (by decide)
  have t11 : DataW.trod enc Tryz.prog w 0 (fun _ => true) true n 29 [c28] = some y11 := by
    have : DataW.trod enc Tryz.prog w 0 (fun _ => true) true n 29 ((List.drop 28 [c0, c1, c2, c3, c4, c5, c6, c7, c8, c9, c10, c11, c12, c13, c14, c15, c16, c17, c18, c19, c20, c21, c22, c23, c24, c25, c26, c27, c28, c29, c30, c31, c32]).take (Tryz.prog.cellsOf 29)) = xs[11]? := hf 11 _ rfl
    rw [hy11] at this
    rw [coLP] at this
    exact this
  obtain ⟨y12, hy12⟩ := hg 12 (by decide)
  have t12 : DataW.trod enc Tryz.prog w 0 (fun _ => true) true n 3 [c29] = some y12 := by
    have : DataW.trod enc Tryz.prog w 0 (fun _ => true) true n 3 ((List.drop 29 [c0, c1, c2, c3, c4, c5, c6, c7, c8, c9, c10, c11, c12, c13, c14, c15, c16, c17, c18, c19, c20, c21, c22, c23, c24, c25, c26, c27, c28, c29, c30, c31, c32]).take (Tryz.prog.cellsOf 3)) = xs[12]? := hf 12 _ rfl
    rw [hy12] at this
    rw [coI] at this
    exact this
  obtain ⟨y13, hy13⟩ := hg 13 (by decide)
  have t13 : DataW.trod enc Tryz.prog w 0 (fun _ => true) true n 3 [c30] = some y13 := by
    have : DataW.trod enc Tryz.prog w 0 (fun _ => true) true n 3 ((List.drop 30 [c0, c1, c2, c3, c4, c5, c6, c7, c8, c9, c10, c11, c12, c13, c14, c15, c16, c17, c18, c19, c20, c21, c22, c23, c24, c25, c26, c27, c28, c29, c30, c31, c32]).take (Tryz.prog.cellsOf 3)) = xs[13]? := hf 13 _ rfl
    rw [hy13] at this
    rw [coI] at this
    exact this
  obtain ⟨y14, hy14⟩ := hg 14 (by decide)
  have t14 : DataW.trod enc Tryz.prog w 0 (fun _ => true) true n 24 [c31] = some y14 := by
    have : DataW.trod enc Tryz.prog w 0 (fun _ => true) true n 24 ((List.drop 31 [c0, c1, c2, c3, c4, c5, c6, c7, c8, c9, c10, c11, c12, c13, c14, c15, c16, c17, c18, c19, c20, c21, c22, c23, c24, c25, c26, c27, c28, c29, c30, c31, c32]).take (Tryz.prog.cellsOf 24)) = xs[14]? := hf 14 _ rfl
    rw [hy14] at this
    rw [coU32] at this
    exact this
  obtain ⟨y15, hy15⟩ := hg 15 (by decide)
  have t15 : DataW.trod enc Tryz.prog w 0 (fun _ => true) true n 24 [c32] = some y15 := by
    have : DataW.trod enc Tryz.prog w 0 (fun _ => true) true n 24 ((List.drop 32 [c0, c1, c2, c3, c4, c5, c6, c7, c8, c9, c10, c11, c12, c13, c14, c15, c16, c17, c18, c19, c20, c21, c22, c23, c24, c25, c26, c27, c28, c29, c30, c31, c32]).take (Tryz.prog.cellsOf 24)) = xs[15]? := hf 15 _ rfl
    rw [hy15] at this
    rw [coU32] at this
    exact this
  clear hf hg h hl hlen
  obtain ⟨s, hs⟩ := trod_str Tryz.underlying9 t0
  cases hs
  obtain ⟨vni, rfl, bvni⟩ := open_u32 t1
  obtain ⟨key0, rfl⟩ := open_arr Tryz.underlying22 t2 0 _ (by decide) rfl
  obtain ⟨key1, rfl⟩ := open_arr Tryz.underlying22 t2 1 _ (by decide) rfl
  obtain ⟨key2, rfl⟩ := open_arr Tryz.underlying22 t2 2 _ (by decide) rfl
  obtain ⟨key3, rfl⟩ := open_arr Tryz.underlying22 t2 3 _ (by decide) rfl
  obtain ⟨key4, rfl⟩ := open_arr Tryz.underlying22 t2 4 _ (by decide) rfl
  obtain ⟨key5, rfl⟩ := open_arr Tryz.underlying22 t2 5 _ (by decide) rfl
  obtain ⟨key6, rfl⟩ := open_arr Tryz.underlying22 t2 6 _ (by decide) rfl
  obtain ⟨key7, rfl⟩ := open_arr Tryz.underlying22 t2 7 _ (by decide) rfl
  obtain ⟨vtep, rfl, bvtep⟩ := open_u32 t3
  obtain ⟨vmac0, rfl⟩ := open_arr Tryz.underlying26 t4 0 _ (by decide) rfl
  obtain ⟨vmac1, rfl⟩ := open_arr Tryz.underlying26 t4 1 _ (by decide) rfl
  obtain ⟨vmac2, rfl⟩ := open_arr Tryz.underlying26 t4 2 _ (by decide) rfl
  obtain ⟨vmac3, rfl⟩ := open_arr Tryz.underlying26 t4 3 _ (by decide) rfl
  obtain ⟨vmac4, rfl⟩ := open_arr Tryz.underlying26 t4 4 _ (by decide) rfl
  obtain ⟨vmac5, rfl⟩ := open_arr Tryz.underlying26 t4 5 _ (by decide) rfl
  obtain ⟨host0, rfl⟩ := open_arr Tryz.underlying26 t5 0 _ (by decide) rfl
  obtain ⟨host1, rfl⟩ := open_arr Tryz.underlying26 t5 1 _ (by decide) rfl
  obtain ⟨host2, rfl⟩ := open_arr Tryz.underlying26 t5 2 _ (by decide) rfl
  obtain ⟨host3, rfl⟩ := open_arr Tryz.underlying26 t5 3 _ (by decide) rfl
  obtain ⟨host4, rfl⟩ := open_arr Tryz.underlying26 t5 4 _ (by decide) rfl
  obtain ⟨host5, rfl⟩ := open_arr Tryz.underlying26 t5 5 _ (by decide) rfl
  obtain ⟨P, p, pool, rfl, rP, bpool⟩ := open_nums t6
  obtain ⟨lo, rfl, blo⟩ := open_u16 t7
  obtain ⟨hi, rfl, bhi⟩ := open_u16 t8
  obtain ⟨filter, rfl, bfilter⟩ := open_i64 t9
  obtain ⟨Q, q, statics, rfl, rQ, bstatics⟩ := open_prs t10
  obtain ⟨R, r, twices, rfl, rR, btwices⟩ := open_prs t11
  obtain ⟨sess, rfl, bsess⟩ := open_i64 t12
  obtain ⟨queue, rfl, bqueue⟩ := open_i64 t13
  obtain ⟨rate, rfl, brate⟩ := open_u32 t14
  obtain ⟨burst, rfl, bburst⟩ := open_u32 t15
  exact ⟨⟨s.data.toList, vni, ⟨key0, key1, key2, key3, key4, key5, key6, key7⟩, vtep, ⟨vmac0, vmac1, vmac2, vmac3, vmac4, vmac5⟩, ⟨host0, host1, host2, host3, host4, host5⟩, pool, lo, hi, filter, statics, twices, sess, queue, rate, burst⟩, ⟨P, p, Q, q, R, r, rfl, rP, rQ, rR⟩, ⟨bvni, bvtep, bpool, blo, bhi, bfilter, bstatics, btwices, bsess, bqueue, brate, bburst⟩⟩
end

section
attribute [local go_sem] stPair gtPair
attribute [local go_sem high] neqPair
open Go.ChangeShapes Go.WideShapes Go.ChangeAt Go.RowKit
variable {H : Type} {enc : TypeId × Value → H} {w : World}
theorem open_intk {t : TypeId} {k : IntKind} (ht : Tryz.prog.underlying t = some (.int k)) {fuel : Nat} {c : Value} {x : DataW H × List MemPlace} (h : DataW.trod enc Tryz.prog w 0 (fun _ => true) true fuel t [c] = some x) : ∃ n : Int, c = .int k n ∧ (Lit.int k n).wf = true := by
  obtain ⟨z, hz, _, hw⟩ := DataW.trod_int ht h
  cases hz
  exact ⟨z, rfl, hw⟩
theorem nat_of_u64 {z : Int} (h : (Lit.int .u64 z).wf = true) : ∃ n : Nat, z = (n : Int) ∧ n < 18446744073709551616 := by
  have : 0 ≤ z ∧ z ≤ 18446744073709551615 := by simpa [Lit.wf, IntKind.min, IntKind.max, IntKind.signed, IntKind.bits] using h
  exact ⟨z.toNat, by omega, by omega⟩
theorem open_u64 {t : TypeId} (ht : Tryz.prog.underlying t = some (.int .u64)) {fuel : Nat} {c : Value} {x : DataW H × List MemPlace} (h : DataW.trod enc Tryz.prog w 0 (fun _ => true) true fuel t [c] = some x) : ∃ n : Nat, c = .int .u64 (n : Int) ∧ n < 18446744073709551616 := by
  obtain ⟨z, rfl, hw⟩ := open_intk ht h
  obtain ⟨n, rfl, hn⟩ := nat_of_u64 hw
  exact ⟨n, rfl, hn⟩
theorem okWide_arr {P : Program} {w : World} {r : Reach} {base : Nat} {t : TypeId} {v : Value} {n : Nat} {e : TypeId} (ht : P.underlying t = some (.array n e)) (h : Value.okWide P w r base t v) : ∃ cs, v = .agg cs ∧ cs.size = P.cellsOf t := by
  simp only [Value.okWide, ht] at h
  obtain ⟨cs, h1, h2, _⟩ := h
  exact ⟨cs, h1, h2⟩
end

section
attribute [local go_sem] stPair gtPair
attribute [local go_sem high] neqPair
open Go.ChangeShapes Go.WideShapes Go.ChangeAt Go.RowKit
variable {H : Type} {enc : TypeId × Value → H} {w : World}
theorem open_k8 {cs : Array Value} (hs : cs.size = Tryz.prog.cellsOf 22) {fuel : Nat} {x : DataW H × List MemPlace} (h : DataW.trod enc Tryz.prog w 0 (fun _ => true) true fuel 22 cs.toList = some x) : ∃ k : K8, cs = (bcells k.l).toArray := by
  rw [coK8] at hs
  have ho := open_arr Tryz.underlying22 h
  obtain ⟨l⟩ := cs
  have hl : l.length = 8 := by simpa using hs
  match l, hl with
  | [c0, c1, c2, c3, c4, c5, c6, c7], _ =>
    obtain ⟨b0, e0⟩ := ho 0 c0 (by decide) rfl
    obtain ⟨b1, e1⟩ := ho 1 c1 (by decide) rfl
    obtain ⟨b2, e2⟩ := ho 2 c2 (by decide) rfl
    obtain ⟨b3, e3⟩ := ho 3 c3 (by decide) rfl
    obtain ⟨b4, e4⟩ := ho 4 c4 (by decide) rfl
    obtain ⟨b5, e5⟩ := ho 5 c5 (by decide) rfl
    obtain ⟨b6, e6⟩ := ho 6 c6 (by decide) rfl
    obtain ⟨b7, e7⟩ := ho 7 c7 (by decide) rfl
    exact ⟨⟨b0, b1, b2, b3, b4, b5, b6, b7⟩, by rw [e0, e1, e2, e3, e4, e5, e6, e7]; rfl⟩
end

section
attribute [local go_sem] stPair gtPair
attribute [local go_sem high] neqPair
open Go.RowKit
set_option linter.unusedVariables false
theorem szU8 : ∀ w, (sizeOf 5).run Tryz.prog w = .ok 1 w := fun w => by kernel_rfl
theorem gtK8 : Tryz.prog.eqGuardType Tryz.prog.depth 22 = false := by kernel_rfl
attribute [local go_sem] gtK8
theorem gtM6 : Tryz.prog.eqGuardType Tryz.prog.depth 26 = false := by kernel_rfl
attribute [local go_sem] gtM6
theorem k8_beq (a b : K8) : (a.l == b.l) = decide (a = b) := by
  obtain ⟨a0, a1, a2, a3, a4, a5, a6, a7⟩ := a
  obtain ⟨b0, b1, b2, b3, b4, b5, b6, b7⟩ := b
  rw [Bool.eq_iff_iff]
  simp [K8.l]
theorem m6_beq (a b : M6) : (a.l == b.l) = decide (a = b) := by
  obtain ⟨a0, a1, a2, a3, a4, a5⟩ := a
  obtain ⟨b0, b1, b2, b3, b4, b5⟩ := b
  rw [Bool.eq_iff_iff]
  simp [M6.l]
theorem eqK8 (a b : K8) (w : World) : (binOp .eql 22 (.agg #[.int .u8 (a.b0.toNat : Int), .int .u8 (a.b1.toNat : Int), .int .u8 (a.b2.toNat : Int), .int .u8 (a.b3.toNat : Int), .int .u8 (a.b4.toNat : Int), .int .u8 (a.b5.toNat : Int), .int .u8 (a.b6.toNat : Int), .int .u8 (a.b7.toNat : Int)]) (.agg #[.int .u8 (b.b0.toNat : Int), .int .u8 (b.b1.toNat : Int), .int .u8 (b.b2.toNat : Int), .int .u8 (b.b3.toNat : Int), .int .u8 (b.b4.toNat : Int), .int .u8 (b.b5.toNat : Int), .int .u8 (b.b6.toNat : Int), .int .u8 (b.b7.toNat : Int)])).run Tryz.prog w = .ok (.bool (decide (a = b))) w := by
  rw [← k8_beq]
  exact run_eql_bytes w 22 5 8 Tryz.underlying22 Tryz.underlying5 szU8 a.l b.l rfl rfl
attribute [local go_sem high] eqK8
theorem eqM6 (a b : M6) (w : World) : (binOp .eql 26 (.agg #[.int .u8 (a.b0.toNat : Int), .int .u8 (a.b1.toNat : Int), .int .u8 (a.b2.toNat : Int), .int .u8 (a.b3.toNat : Int), .int .u8 (a.b4.toNat : Int), .int .u8 (a.b5.toNat : Int)]) (.agg #[.int .u8 (b.b0.toNat : Int), .int .u8 (b.b1.toNat : Int), .int .u8 (b.b2.toNat : Int), .int .u8 (b.b3.toNat : Int), .int .u8 (b.b4.toNat : Int), .int .u8 (b.b5.toNat : Int)])).run Tryz.prog w = .ok (.bool (decide (a = b))) w := by
  rw [← m6_beq]
  exact run_eql_bytes w 26 5 6 Tryz.underlying26 Tryz.underlying5 szU8 a.l b.l rfl rfl
attribute [local go_sem high] eqM6
theorem str_beq (l m : List UInt8) : ((str l).toList == (str m).toList) = decide (l = m) := by
  rw [ByteArray.toList_eq, ByteArray.toList_eq, Bool.eq_iff_iff]
  simp [str]
theorem ten_beq (a b : Ten) : (((((((((((((((decide (a.name = b.name) && ((a.vni : Int) == b.vni)) && decide (a.key = b.key)) && ((a.vtep : Int) == b.vtep)) && decide (a.vmac = b.vmac)) && decide (a.host = b.host)) && decide (a.pool = b.pool)) && ((a.lo : Int) == b.lo)) && ((a.hi : Int) == b.hi)) && (a.filter == b.filter)) && decide (a.statics = b.statics)) && decide (a.twices = b.twices)) && (a.sess == b.sess)) && (a.queue == b.queue)) && ((a.rate : Int) == b.rate)) && ((a.burst : Int) == b.burst)) = decide (a = b) := by
  obtain ⟨a0, a1, a2, a3, a4, a5, a6, a7, a8, a9, a10, a11, a12, a13, a14, a15⟩ := a
  obtain ⟨b0, b1, b2, b3, b4, b5, b6, b7, b8, b9, b10, b11, b12, b13, b14, b15⟩ := b
  rw [Bool.eq_iff_iff]
  simp only [nat_beq, Bool.and_eq_true, decide_eq_true_eq, beq_iff_eq, Ten.mk.injEq, and_assoc]
set_option maxRecDepth 100000 in
theorem box_ten (CA : Array Value) (h : CA.size = 33) : ∀ W, (Instr.box 31 (.agg CA)).run Tryz.prog W = .ok (.pointer (some ⟨W.heap.size, 0, none⟩)) (W.alloc (.cells CA 31)) := by
  intro W
  go_simp
set_option maxRecDepth 100000 in
set_option maxHeartbeats 2000000 in
theorem tenant_ok {S S' : Nat → Prop} {w : World} (a b : Ten) (va vb : Value) (ha : TenV S w a va) (hb : TenV S' w b vb) (la : a.pool.length ≤ 9223372036854775807) (ls : a.statics.length ≤ 9223372036854775807) (lt : a.twices.length ≤ 9223372036854775807) :
    Calls Tryz.prog 49 #[va, vb] w fun e w' => e = .returned (.bool (decide (a = b))) ∧ Mod No w w' := by
  obtain ⟨P, p, Q, q, R, r, rfl, h1, h2, h3⟩ := ha.val
  obtain ⟨P', p', Q', q', R', r', rfl, h1', h2', h3'⟩ := hb.val
  obtain ⟨CA, hCA⟩ : ∃ CA, CA = a.cells (.slice P a.pool.length p) (.slice Q a.statics.length q) (.slice R a.twices.length r) := ⟨_, rfl⟩
  obtain ⟨CB, hCB⟩ : ∃ CB, CB = b.cells (.slice P' b.pool.length p') (.slice Q' b.statics.length q') (.slice R' b.twices.length r') := ⟨_, rfl⟩
  have bA := box_ten CA (by rw [hCA]; rfl)
  have bB := box_ten CB (by rw [hCB]; rfl)
  rw [← hCA, ← hCB]
  have hm2 : ∀ q, Mod No w (((w.alloc (.cells CA 31)).alloc (.cells CB 31)).drewN q) := fun q => Mod.drewN (Mod.alloc (Mod.alloc (Mod.refl _ _) _) _) q
  have k1 : ∀ q, RowAt (fun b => S b ∧ b < w.heap.size) (((w.alloc (.cells CA 31)).alloc (.cells CB 31)).drewN q) P (numCells a.pool) := fun q => (h1.mono (fun b hb hs => ⟨hs, hb⟩)).keeps ((hm2 q).keeps (fun _ _ _ f => f))
  have k2 : ∀ q, RowAt (fun b => S b ∧ b < w.heap.size) (((w.alloc (.cells CA 31)).alloc (.cells CB 31)).drewN q) Q (prCells a.statics) := fun q => (h2.mono (fun b hb hs => ⟨hs, hb⟩)).keeps ((hm2 q).keeps (fun _ _ _ f => f))
  have k3 : ∀ q, RowAt (fun b => S b ∧ b < w.heap.size) (((w.alloc (.cells CA 31)).alloc (.cells CB 31)).drewN q) R (prCells a.twices) := fun q => (h3.mono (fun b hb hs => ⟨hs, hb⟩)).keeps ((hm2 q).keeps (fun _ _ _ f => f))
  have k1' : ∀ q, RowAt (fun b => S' b ∧ b < w.heap.size) (((w.alloc (.cells CA 31)).alloc (.cells CB 31)).drewN q) P' (numCells b.pool) := fun q => (h1'.mono (fun b hb hs => ⟨hs, hb⟩)).keeps ((hm2 q).keeps (fun _ _ _ f => f))
  have k2' : ∀ q, RowAt (fun b => S' b ∧ b < w.heap.size) (((w.alloc (.cells CA 31)).alloc (.cells CB 31)).drewN q) Q' (prCells b.statics) := fun q => (h2'.mono (fun b hb hs => ⟨hs, hb⟩)).keeps ((hm2 q).keeps (fun _ _ _ f => f))
  have k3' : ∀ q, RowAt (fun b => S' b ∧ b < w.heap.size) (((w.alloc (.cells CA 31)).alloc (.cells CB 31)).drewN q) R' (prCells b.twices) := fun q => (h3'.mono (fun b hb hs => ⟨hs, hb⟩)).keeps ((hm2 q).keeps (fun _ _ _ f => f))
  have hcells : ∀ q, (∀ j, (((w.alloc (.cells CA 31)).alloc (.cells CB 31)).drewN q).cell? ⟨w.heap.size, j, none⟩ = CA[j]?) ∧ (∀ j, (((w.alloc (.cells CA 31)).alloc (.cells CB 31)).drewN q).cell? ⟨w.heap.size + 1, j, none⟩ = CB[j]?) := fun q =>
    ⟨fun j => blk_cell (at20 w (.cells CA 31) (.cells CB 31)) j, fun j => blk_cell (at21 w (.cells CA 31) (.cells CB 31)) j⟩
  have HH := Lib.hid (And.intro k1 (And.intro k2 (And.intro k3 (And.intro k1' (And.intro k2' (And.intro k3' hcells))))))
  have HM := Lib.hid hm2
  have HA := Lib.hid hCA
  have HB := Lib.hid hCB
  clear ha hb h1 h2 h3 h1' h2' h3' k1 k2 k3 k1' k2' k3' hcells hm2 hCA hCB
  go_enter Tryz.func49, Tryz.ntmps49
  go_upto_region 1 with fail
  refine wp_region_lit ?_
  refine chain_first (n := 115) (pA := .pointer (some ⟨w.heap.size, 0, none⟩)) (pB := .pointer (some ⟨w.heap.size + 1, 0, none⟩)) (s1 := 5) (s2 := 6) (s3 := 7) (s4 := 8) (s5 := 9) (d' := 10) (e' := decide (a.name = b.name)) (R := (fun w' => ∃ q, w' = (((w.alloc (.cells CA 31)).alloc (.cells CB 31)).drewN q))) rfl rfl rfl rfl rfl rfl rfl rfl rfl rfl rfl rfl rfl rfl rfl rfl rfl rfl ?_ ?_
  ·
    have ca0 : CA[0]? = some (Value.string (str a.name)) := by rw [HA.out]; rfl
    have cb0 : CB[0]? = some (Value.string (str b.name)) := by rw [HB.out]; rfl
    refine ⟨.pointer (some ⟨w.heap.size, 0, none⟩), (.string (str a.name)), .pointer (some ⟨w.heap.size + 1, 0, none⟩), (.string (str b.name)), ?_, ?_, ?_, ?_, .inl ⟨?_, 0, rfl⟩⟩
    · intro ρ h; simp only [execOp, h]; go_simp
    · intro ρ h; simp only [execOp, h]; go_simp
    · intro ρ h; simp only [execOp, h]; go_simp
    · intro ρ h; simp only [execOp, h]; go_simp
    · intro ρ h1 h2; simp only [execOp, h1, h2]; go_simp; exact str_beq _ _
  rintro a0 _ hinv ⟨q1, rfl⟩
  refine chain_test (i := 5) (s1 := 11) (s2 := 12) (s3 := 13) (s4 := 14) (s5 := 15) (s6 := 16) (d' := 17) (e' := ((a.vni : Int) == b.vni)) (R := (fun w' => ∃ q, w' = (((w.alloc (.cells CA 31)).alloc (.cells CB 31)).drewN q))) hinv rfl rfl rfl rfl rfl rfl rfl rfl rfl rfl rfl rfl rfl rfl rfl rfl rfl (.inl rfl) ?_ ⟨q1, rfl⟩ ?_
  ·
    have ca1 : CA[1]? = some (Value.int .u32 (a.vni : Int)) := by rw [HA.out]; rfl
    have cb1 : CB[1]? = some (Value.int .u32 (b.vni : Int)) := by rw [HB.out]; rfl
    refine ⟨.pointer (some ⟨w.heap.size, 1, none⟩), (.int .u32 (a.vni : Int)), .pointer (some ⟨w.heap.size + 1, 1, none⟩), (.int .u32 (b.vni : Int)), ?_, ?_, ?_, ?_, .inl ⟨?_, q1, rfl⟩⟩
    · intro ρ h; simp only [execOp, h]; go_simp
    · intro ρ h; simp only [execOp, h]; go_simp
    · intro ρ h; simp only [execOp, h]; go_simp
    · intro ρ h; simp only [execOp, h]; go_simp
    · intro ρ h1 h2; simp only [execOp, h1, h2]; go_simp
  rintro a1 _ hinv ⟨q2, rfl⟩
  refine chain_test (i := 12) (s1 := 18) (s2 := 19) (s3 := 20) (s4 := 21) (s5 := 22) (s6 := 23) (d' := 24) (e' := decide (a.key = b.key)) (R := (fun w' => ∃ q, w' = (((w.alloc (.cells CA 31)).alloc (.cells CB 31)).drewN q))) hinv rfl rfl rfl rfl rfl rfl rfl rfl rfl rfl rfl rfl rfl rfl rfl rfl rfl (.inl rfl) ?_ ⟨q2, rfl⟩ ?_
  ·
    have ca2 : CA[2]? = some (Value.int .u8 (a.key.b0.toNat : Int)) := by rw [HA.out]; rfl
    have cb2 : CB[2]? = some (Value.int .u8 (b.key.b0.toNat : Int)) := by rw [HB.out]; rfl
    have ca3 : CA[3]? = some (Value.int .u8 (a.key.b1.toNat : Int)) := by rw [HA.out]; rfl
    have cb3 : CB[3]? = some (Value.int .u8 (b.key.b1.toNat : Int)) := by rw [HB.out]; rfl
    have ca4 : CA[4]? = some (Value.int .u8 (a.key.b2.toNat : Int)) := by rw [HA.out]; rfl
    have cb4 : CB[4]? = some (Value.int .u8 (b.key.b2.toNat : Int)) := by rw [HB.out]; rfl
    have ca5 : CA[5]? = some (Value.int .u8 (a.key.b3.toNat : Int)) := by rw [HA.out]; rfl
    have cb5 : CB[5]? = some (Value.int .u8 (b.key.b3.toNat : Int)) := by rw [HB.out]; rfl
    have ca6 : CA[6]? = some (Value.int .u8 (a.key.b4.toNat : Int)) := by rw [HA.out]; rfl
    have cb6 : CB[6]? = some (Value.int .u8 (b.key.b4.toNat : Int)) := by rw [HB.out]; rfl
    have ca7 : CA[7]? = some (Value.int .u8 (a.key.b5.toNat : Int)) := by rw [HA.out]; rfl
    have cb7 : CB[7]? = some (Value.int .u8 (b.key.b5.toNat : Int)) := by rw [HB.out]; rfl
    have ca8 : CA[8]? = some (Value.int .u8 (a.key.b6.toNat : Int)) := by rw [HA.out]; rfl
    have cb8 : CB[8]? = some (Value.int .u8 (b.key.b6.toNat : Int)) := by rw [HB.out]; rfl
    have ca9 : CA[9]? = some (Value.int .u8 (a.key.b7.toNat : Int)) := by rw [HA.out]; rfl
    have cb9 : CB[9]? = some (Value.int .u8 (b.key.b7.toNat : Int)) := by rw [HB.out]; rfl
    refine ⟨.pointer (some ⟨w.heap.size, 2, none⟩), (.agg #[.int .u8 (a.key.b0.toNat : Int), .int .u8 (a.key.b1.toNat : Int), .int .u8 (a.key.b2.toNat : Int), .int .u8 (a.key.b3.toNat : Int), .int .u8 (a.key.b4.toNat : Int), .int .u8 (a.key.b5.toNat : Int), .int .u8 (a.key.b6.toNat : Int), .int .u8 (a.key.b7.toNat : Int)]), .pointer (some ⟨w.heap.size + 1, 2, none⟩), (.agg #[.int .u8 (b.key.b0.toNat : Int), .int .u8 (b.key.b1.toNat : Int), .int .u8 (b.key.b2.toNat : Int), .int .u8 (b.key.b3.toNat : Int), .int .u8 (b.key.b4.toNat : Int), .int .u8 (b.key.b5.toNat : Int), .int .u8 (b.key.b6.toNat : Int), .int .u8 (b.key.b7.toNat : Int)]), ?_, ?_, ?_, ?_, .inl ⟨?_, q2, rfl⟩⟩
    · intro ρ h; simp only [execOp, h]; go_simp
    · intro ρ h; simp only [execOp, h]; go_simp
    · intro ρ h; simp only [execOp, h]; go_simp
    · intro ρ h; simp only [execOp, h]; go_simp
    · intro ρ h1 h2; simp only [execOp, h1, h2]; go_simp
  rintro a2 _ hinv ⟨q3, rfl⟩
  refine chain_test (i := 19) (s1 := 25) (s2 := 26) (s3 := 27) (s4 := 28) (s5 := 29) (s6 := 30) (d' := 31) (e' := ((a.vtep : Int) == b.vtep)) (R := (fun w' => ∃ q, w' = (((w.alloc (.cells CA 31)).alloc (.cells CB 31)).drewN q))) hinv rfl rfl rfl rfl rfl rfl rfl rfl rfl rfl rfl rfl rfl rfl rfl rfl rfl (.inl rfl) ?_ ⟨q3, rfl⟩ ?_
  ·
    have ca10 : CA[10]? = some (Value.int .u32 (a.vtep : Int)) := by rw [HA.out]; rfl
    have cb10 : CB[10]? = some (Value.int .u32 (b.vtep : Int)) := by rw [HB.out]; rfl
    refine ⟨.pointer (some ⟨w.heap.size, 10, none⟩), (.int .u32 (a.vtep : Int)), .pointer (some ⟨w.heap.size + 1, 10, none⟩), (.int .u32 (b.vtep : Int)), ?_, ?_, ?_, ?_, .inl ⟨?_, q3, rfl⟩⟩
    · intro ρ h; simp only [execOp, h]; go_simp
    · intro ρ h; simp only [execOp, h]; go_simp
    · intro ρ h; simp only [execOp, h]; go_simp
    · intro ρ h; simp only [execOp, h]; go_simp
    · intro ρ h1 h2; simp only [execOp, h1, h2]; go_simp
  rintro a3 _ hinv ⟨q4, rfl⟩
  refine chain_test (i := 26) (s1 := 32) (s2 := 33) (s3 := 34) (s4 := 35) (s5 := 36) (s6 := 37) (d' := 38) (e' := decide (a.vmac = b.vmac)) (R := (fun w' => ∃ q, w' = (((w.alloc (.cells CA 31)).alloc (.cells CB 31)).drewN q))) hinv rfl rfl rfl rfl rfl rfl rfl rfl rfl rfl rfl rfl rfl rfl rfl rfl rfl (.inl rfl) ?_ ⟨q4, rfl⟩ ?_
  ·
    have ca11 : CA[11]? = some (Value.int .u8 (a.vmac.b0.toNat : Int)) := by rw [HA.out]; rfl
    have cb11 : CB[11]? = some (Value.int .u8 (b.vmac.b0.toNat : Int)) := by rw [HB.out]; rfl
    have ca12 : CA[12]? = some (Value.int .u8 (a.vmac.b1.toNat : Int)) := by rw [HA.out]; rfl
    have cb12 : CB[12]? = some (Value.int .u8 (b.vmac.b1.toNat : Int)) := by rw [HB.out]; rfl
    have ca13 : CA[13]? = some (Value.int .u8 (a.vmac.b2.toNat : Int)) := by rw [HA.out]; rfl
    have cb13 : CB[13]? = some (Value.int .u8 (b.vmac.b2.toNat : Int)) := by rw [HB.out]; rfl
    have ca14 : CA[14]? = some (Value.int .u8 (a.vmac.b3.toNat : Int)) := by rw [HA.out]; rfl
    have cb14 : CB[14]? = some (Value.int .u8 (b.vmac.b3.toNat : Int)) := by rw [HB.out]; rfl
    have ca15 : CA[15]? = some (Value.int .u8 (a.vmac.b4.toNat : Int)) := by rw [HA.out]; rfl
    have cb15 : CB[15]? = some (Value.int .u8 (b.vmac.b4.toNat : Int)) := by rw [HB.out]; rfl
    have ca16 : CA[16]? = some (Value.int .u8 (a.vmac.b5.toNat : Int)) := by rw [HA.out]; rfl
    have cb16 : CB[16]? = some (Value.int .u8 (b.vmac.b5.toNat : Int)) := by rw [HB.out]; rfl
    refine ⟨.pointer (some ⟨w.heap.size, 11, none⟩), (.agg #[.int .u8 (a.vmac.b0.toNat : Int), .int .u8 (a.vmac.b1.toNat : Int), .int .u8 (a.vmac.b2.toNat : Int), .int .u8 (a.vmac.b3.toNat : Int), .int .u8 (a.vmac.b4.toNat : Int), .int .u8 (a.vmac.b5.toNat : Int)]), .pointer (some ⟨w.heap.size + 1, 11, none⟩), (.agg #[.int .u8 (b.vmac.b0.toNat : Int), .int .u8 (b.vmac.b1.toNat : Int), .int .u8 (b.vmac.b2.toNat : Int), .int .u8 (b.vmac.b3.toNat : Int), .int .u8 (b.vmac.b4.toNat : Int), .int .u8 (b.vmac.b5.toNat : Int)]), ?_, ?_, ?_, ?_, .inl ⟨?_, q4, rfl⟩⟩
    · intro ρ h; simp only [execOp, h]; go_simp
    · intro ρ h; simp only [execOp, h]; go_simp
    · intro ρ h; simp only [execOp, h]; go_simp
    · intro ρ h; simp only [execOp, h]; go_simp
    · intro ρ h1 h2; simp only [execOp, h1, h2]; go_simp
  rintro a4 _ hinv ⟨q5, rfl⟩
  refine chain_test (i := 33) (s1 := 39) (s2 := 40) (s3 := 41) (s4 := 42) (s5 := 43) (s6 := 44) (d' := 45) (e' := decide (a.host = b.host)) (R := (fun w' => ∃ q, w' = (((w.alloc (.cells CA 31)).alloc (.cells CB 31)).drewN q))) hinv rfl rfl rfl rfl rfl rfl rfl rfl rfl rfl rfl rfl rfl rfl rfl rfl rfl (.inl rfl) ?_ ⟨q5, rfl⟩ ?_
  ·
    have ca17 : CA[17]? = some (Value.int .u8 (a.host.b0.toNat : Int)) := by rw [HA.out]; rfl
    have cb17 : CB[17]? = some (Value.int .u8 (b.host.b0.toNat : Int)) := by rw [HB.out]; rfl
    have ca18 : CA[18]? = some (Value.int .u8 (a.host.b1.toNat : Int)) := by rw [HA.out]; rfl
    have cb18 : CB[18]? = some (Value.int .u8 (b.host.b1.toNat : Int)) := by rw [HB.out]; rfl
    have ca19 : CA[19]? = some (Value.int .u8 (a.host.b2.toNat : Int)) := by rw [HA.out]; rfl
    have cb19 : CB[19]? = some (Value.int .u8 (b.host.b2.toNat : Int)) := by rw [HB.out]; rfl
    have ca20 : CA[20]? = some (Value.int .u8 (a.host.b3.toNat : Int)) := by rw [HA.out]; rfl
    have cb20 : CB[20]? = some (Value.int .u8 (b.host.b3.toNat : Int)) := by rw [HB.out]; rfl
    have ca21 : CA[21]? = some (Value.int .u8 (a.host.b4.toNat : Int)) := by rw [HA.out]; rfl
    have cb21 : CB[21]? = some (Value.int .u8 (b.host.b4.toNat : Int)) := by rw [HB.out]; rfl
    have ca22 : CA[22]? = some (Value.int .u8 (a.host.b5.toNat : Int)) := by rw [HA.out]; rfl
    have cb22 : CB[22]? = some (Value.int .u8 (b.host.b5.toNat : Int)) := by rw [HB.out]; rfl
    refine ⟨.pointer (some ⟨w.heap.size, 17, none⟩), (.agg #[.int .u8 (a.host.b0.toNat : Int), .int .u8 (a.host.b1.toNat : Int), .int .u8 (a.host.b2.toNat : Int), .int .u8 (a.host.b3.toNat : Int), .int .u8 (a.host.b4.toNat : Int), .int .u8 (a.host.b5.toNat : Int)]), .pointer (some ⟨w.heap.size + 1, 17, none⟩), (.agg #[.int .u8 (b.host.b0.toNat : Int), .int .u8 (b.host.b1.toNat : Int), .int .u8 (b.host.b2.toNat : Int), .int .u8 (b.host.b3.toNat : Int), .int .u8 (b.host.b4.toNat : Int), .int .u8 (b.host.b5.toNat : Int)]), ?_, ?_, ?_, ?_, .inl ⟨?_, q5, rfl⟩⟩
    · intro ρ h; simp only [execOp, h]; go_simp
    · intro ρ h; simp only [execOp, h]; go_simp
    · intro ρ h; simp only [execOp, h]; go_simp
    · intro ρ h; simp only [execOp, h]; go_simp
    · intro ρ h1 h2; simp only [execOp, h1, h2]; go_simp
  rintro a5 _ hinv ⟨q6, rfl⟩
  refine chain_test (i := 40) (s1 := 46) (s2 := 47) (s3 := 48) (s4 := 49) (s5 := 50) (s6 := 51) (d' := 52) (e' := decide (a.pool = b.pool)) (R := (fun w' => ∃ q, w' = (((w.alloc (.cells CA 31)).alloc (.cells CB 31)).drewN q))) hinv rfl rfl rfl rfl rfl rfl rfl rfl rfl rfl rfl rfl rfl rfl rfl rfl rfl (.inl rfl) ?_ ⟨q6, rfl⟩ ?_
  ·
    have ca23 : CA[23]? = some (Value.slice P a.pool.length p) := by rw [HA.out]; rfl
    have cb23 : CB[23]? = some (Value.slice P' b.pool.length p') := by rw [HB.out]; rfl
    refine ⟨.pointer (some ⟨w.heap.size, 23, none⟩), (.slice P a.pool.length p), .pointer (some ⟨w.heap.size + 1, 23, none⟩), (.slice P' b.pool.length p'), ?_, ?_, ?_, ?_, .inr ⟨60, ?_, (nums_ok P P' p p' _ _ _ (HH.out.1 q6) (HH.out.2.2.2.1 q6) la).mono (fun e w' ⟨h1, n1, h2⟩ => ⟨h1, q6 + n1, by rw [h2]; exact World.drewN_drewN ..⟩)⟩⟩
    · intro ρ h; simp only [execOp, h]; go_simp
    · intro ρ h; simp only [execOp, h]; go_simp
    · intro ρ h; simp only [execOp, h]; go_simp
    · intro ρ h; simp only [execOp, h]; go_simp
    · intro ρ hf h1 h2; simp only [execOp, resolve, hf]; go_simp
  rintro a6 _ hinv ⟨q7, rfl⟩
  refine chain_test (i := 47) (s1 := 53) (s2 := 54) (s3 := 55) (s4 := 56) (s5 := 57) (s6 := 58) (d' := 59) (e' := ((a.lo : Int) == b.lo)) (R := (fun w' => ∃ q, w' = (((w.alloc (.cells CA 31)).alloc (.cells CB 31)).drewN q))) hinv rfl rfl rfl rfl rfl rfl rfl rfl rfl rfl rfl rfl rfl rfl rfl rfl rfl (.inl rfl) ?_ ⟨q7, rfl⟩ ?_
  ·
    have ca24 : CA[24]? = some (Value.int .u16 (a.lo : Int)) := by rw [HA.out]; rfl
    have cb24 : CB[24]? = some (Value.int .u16 (b.lo : Int)) := by rw [HB.out]; rfl
    refine ⟨.pointer (some ⟨w.heap.size, 24, none⟩), (.int .u16 (a.lo : Int)), .pointer (some ⟨w.heap.size + 1, 24, none⟩), (.int .u16 (b.lo : Int)), ?_, ?_, ?_, ?_, .inl ⟨?_, q7, rfl⟩⟩
    · intro ρ h; simp only [execOp, h]; go_simp
    · intro ρ h; simp only [execOp, h]; go_simp
    · intro ρ h; simp only [execOp, h]; go_simp
    · intro ρ h; simp only [execOp, h]; go_simp
    · intro ρ h1 h2; simp only [execOp, h1, h2]; go_simp
  rintro a7 _ hinv ⟨q8, rfl⟩
  refine chain_test (i := 54) (s1 := 60) (s2 := 61) (s3 := 62) (s4 := 63) (s5 := 64) (s6 := 65) (d' := 66) (e' := ((a.hi : Int) == b.hi)) (R := (fun w' => ∃ q, w' = (((w.alloc (.cells CA 31)).alloc (.cells CB 31)).drewN q))) hinv rfl rfl rfl rfl rfl rfl rfl rfl rfl rfl rfl rfl rfl rfl rfl rfl rfl (.inl rfl) ?_ ⟨q8, rfl⟩ ?_
  ·
    have ca25 : CA[25]? = some (Value.int .u16 (a.hi : Int)) := by rw [HA.out]; rfl
    have cb25 : CB[25]? = some (Value.int .u16 (b.hi : Int)) := by rw [HB.out]; rfl
    refine ⟨.pointer (some ⟨w.heap.size, 25, none⟩), (.int .u16 (a.hi : Int)), .pointer (some ⟨w.heap.size + 1, 25, none⟩), (.int .u16 (b.hi : Int)), ?_, ?_, ?_, ?_, .inl ⟨?_, q8, rfl⟩⟩
    · intro ρ h; simp only [execOp, h]; go_simp
    · intro ρ h; simp only [execOp, h]; go_simp
    · intro ρ h; simp only [execOp, h]; go_simp
    · intro ρ h; simp only [execOp, h]; go_simp
    · intro ρ h1 h2; simp only [execOp, h1, h2]; go_simp
  rintro a8 _ hinv ⟨q9, rfl⟩
  refine chain_test (i := 61) (s1 := 67) (s2 := 68) (s3 := 69) (s4 := 70) (s5 := 71) (s6 := 72) (d' := 73) (e' := (a.filter == b.filter)) (R := (fun w' => ∃ q, w' = (((w.alloc (.cells CA 31)).alloc (.cells CB 31)).drewN q))) hinv rfl rfl rfl rfl rfl rfl rfl rfl rfl rfl rfl rfl rfl rfl rfl rfl rfl (.inl rfl) ?_ ⟨q9, rfl⟩ ?_
  ·
    have ca26 : CA[26]? = some (Value.int .i64 a.filter) := by rw [HA.out]; rfl
    have cb26 : CB[26]? = some (Value.int .i64 b.filter) := by rw [HB.out]; rfl
    refine ⟨.pointer (some ⟨w.heap.size, 26, none⟩), (.int .i64 a.filter), .pointer (some ⟨w.heap.size + 1, 26, none⟩), (.int .i64 b.filter), ?_, ?_, ?_, ?_, .inl ⟨?_, q9, rfl⟩⟩
    · intro ρ h; simp only [execOp, h]; go_simp
    · intro ρ h; simp only [execOp, h]; go_simp
    · intro ρ h; simp only [execOp, h]; go_simp
    · intro ρ h; simp only [execOp, h]; go_simp
    · intro ρ h1 h2; simp only [execOp, h1, h2]; go_simp
  rintro a9 _ hinv ⟨q10, rfl⟩
  refine chain_test (i := 68) (s1 := 74) (s2 := 75) (s3 := 76) (s4 := 77) (s5 := 78) (s6 := 79) (d' := 80) (e' := decide (a.statics = b.statics)) (R := (fun w' => ∃ q, w' = (((w.alloc (.cells CA 31)).alloc (.cells CB 31)).drewN q))) hinv rfl rfl rfl rfl rfl rfl rfl rfl rfl rfl rfl rfl rfl rfl rfl rfl rfl (.inl rfl) ?_ ⟨q10, rfl⟩ ?_
  ·
    have ca27 : CA[27]? = some (Value.slice Q a.statics.length q) := by rw [HA.out]; rfl
    have cb27 : CB[27]? = some (Value.slice Q' b.statics.length q') := by rw [HB.out]; rfl
    refine ⟨.pointer (some ⟨w.heap.size, 27, none⟩), (.slice Q a.statics.length q), .pointer (some ⟨w.heap.size + 1, 27, none⟩), (.slice Q' b.statics.length q'), ?_, ?_, ?_, ?_, .inr ⟨61, ?_, (pairs_ok Q Q' q q' _ _ _ (HH.out.2.1 q10) (HH.out.2.2.2.2.1 q10) ls).mono (fun e w' ⟨h1, n1, h2⟩ => ⟨h1, q10 + n1, by rw [h2]; exact World.drewN_drewN ..⟩)⟩⟩
    · intro ρ h; simp only [execOp, h]; go_simp
    · intro ρ h; simp only [execOp, h]; go_simp
    · intro ρ h; simp only [execOp, h]; go_simp
    · intro ρ h; simp only [execOp, h]; go_simp
    · intro ρ hf h1 h2; simp only [execOp, resolve, hf]; go_simp
  rintro a10 _ hinv ⟨q11, rfl⟩
  refine chain_test (i := 75) (s1 := 81) (s2 := 82) (s3 := 83) (s4 := 84) (s5 := 85) (s6 := 86) (d' := 87) (e' := decide (a.twices = b.twices)) (R := (fun w' => ∃ q, w' = (((w.alloc (.cells CA 31)).alloc (.cells CB 31)).drewN q))) hinv rfl rfl rfl rfl rfl rfl rfl rfl rfl rfl rfl rfl rfl rfl rfl rfl rfl (.inl rfl) ?_ ⟨q11, rfl⟩ ?_
  ·
    have ca28 : CA[28]? = some (Value.slice R a.twices.length r) := by rw [HA.out]; rfl
    have cb28 : CB[28]? = some (Value.slice R' b.twices.length r') := by rw [HB.out]; rfl
    refine ⟨.pointer (some ⟨w.heap.size, 28, none⟩), (.slice R a.twices.length r), .pointer (some ⟨w.heap.size + 1, 28, none⟩), (.slice R' b.twices.length r'), ?_, ?_, ?_, ?_, .inr ⟨61, ?_, (pairs_ok R R' r r' _ _ _ (HH.out.2.2.1 q11) (HH.out.2.2.2.2.2.1 q11) lt).mono (fun e w' ⟨h1, n1, h2⟩ => ⟨h1, q11 + n1, by rw [h2]; exact World.drewN_drewN ..⟩)⟩⟩
    · intro ρ h; simp only [execOp, h]; go_simp
    · intro ρ h; simp only [execOp, h]; go_simp
    · intro ρ h; simp only [execOp, h]; go_simp
    · intro ρ h; simp only [execOp, h]; go_simp
    · intro ρ hf h1 h2; simp only [execOp, resolve, hf]; go_simp
  rintro a11 _ hinv ⟨q12, rfl⟩
  refine chain_test (i := 82) (s1 := 88) (s2 := 89) (s3 := 90) (s4 := 91) (s5 := 92) (s6 := 93) (d' := 94) (e' := (a.sess == b.sess)) (R := (fun w' => ∃ q, w' = (((w.alloc (.cells CA 31)).alloc (.cells CB 31)).drewN q))) hinv rfl rfl rfl rfl rfl rfl rfl rfl rfl rfl rfl rfl rfl rfl rfl rfl rfl (.inl rfl) ?_ ⟨q12, rfl⟩ ?_
  ·
    have ca29 : CA[29]? = some (Value.int .i64 a.sess) := by rw [HA.out]; rfl
    have cb29 : CB[29]? = some (Value.int .i64 b.sess) := by rw [HB.out]; rfl
    refine ⟨.pointer (some ⟨w.heap.size, 29, none⟩), (.int .i64 a.sess), .pointer (some ⟨w.heap.size + 1, 29, none⟩), (.int .i64 b.sess), ?_, ?_, ?_, ?_, .inl ⟨?_, q12, rfl⟩⟩
    · intro ρ h; simp only [execOp, h]; go_simp
    · intro ρ h; simp only [execOp, h]; go_simp
    · intro ρ h; simp only [execOp, h]; go_simp
    · intro ρ h; simp only [execOp, h]; go_simp
    · intro ρ h1 h2; simp only [execOp, h1, h2]; go_simp
  rintro a12 _ hinv ⟨q13, rfl⟩
  refine chain_test (i := 89) (s1 := 95) (s2 := 96) (s3 := 97) (s4 := 98) (s5 := 99) (s6 := 100) (d' := 101) (e' := (a.queue == b.queue)) (R := (fun w' => ∃ q, w' = (((w.alloc (.cells CA 31)).alloc (.cells CB 31)).drewN q))) hinv rfl rfl rfl rfl rfl rfl rfl rfl rfl rfl rfl rfl rfl rfl rfl rfl rfl (.inl rfl) ?_ ⟨q13, rfl⟩ ?_
  ·
    have ca30 : CA[30]? = some (Value.int .i64 a.queue) := by rw [HA.out]; rfl
    have cb30 : CB[30]? = some (Value.int .i64 b.queue) := by rw [HB.out]; rfl
    refine ⟨.pointer (some ⟨w.heap.size, 30, none⟩), (.int .i64 a.queue), .pointer (some ⟨w.heap.size + 1, 30, none⟩), (.int .i64 b.queue), ?_, ?_, ?_, ?_, .inl ⟨?_, q13, rfl⟩⟩
    · intro ρ h; simp only [execOp, h]; go_simp
    · intro ρ h; simp only [execOp, h]; go_simp
    · intro ρ h; simp only [execOp, h]; go_simp
    · intro ρ h; simp only [execOp, h]; go_simp
    · intro ρ h1 h2; simp only [execOp, h1, h2]; go_simp
  rintro a13 _ hinv ⟨q14, rfl⟩
  refine chain_test (i := 96) (s1 := 102) (s2 := 103) (s3 := 104) (s4 := 105) (s5 := 106) (s6 := 107) (d' := 108) (e' := ((a.rate : Int) == b.rate)) (R := (fun w' => ∃ q, w' = (((w.alloc (.cells CA 31)).alloc (.cells CB 31)).drewN q))) hinv rfl rfl rfl rfl rfl rfl rfl rfl rfl rfl rfl rfl rfl rfl rfl rfl rfl (.inl rfl) ?_ ⟨q14, rfl⟩ ?_
  ·
    have ca31 : CA[31]? = some (Value.int .u32 (a.rate : Int)) := by rw [HA.out]; rfl
    have cb31 : CB[31]? = some (Value.int .u32 (b.rate : Int)) := by rw [HB.out]; rfl
    refine ⟨.pointer (some ⟨w.heap.size, 31, none⟩), (.int .u32 (a.rate : Int)), .pointer (some ⟨w.heap.size + 1, 31, none⟩), (.int .u32 (b.rate : Int)), ?_, ?_, ?_, ?_, .inl ⟨?_, q14, rfl⟩⟩
    · intro ρ h; simp only [execOp, h]; go_simp
    · intro ρ h; simp only [execOp, h]; go_simp
    · intro ρ h; simp only [execOp, h]; go_simp
    · intro ρ h; simp only [execOp, h]; go_simp
    · intro ρ h1 h2; simp only [execOp, h1, h2]; go_simp
  rintro a14 _ hinv ⟨q15, rfl⟩
  refine chain_test (i := 103) (s1 := 109) (s2 := 110) (s3 := 111) (s4 := 112) (s5 := 113) (s6 := 114) (d' := 4) (e' := ((a.burst : Int) == b.burst)) (R := (fun w' => ∃ q, w' = (((w.alloc (.cells CA 31)).alloc (.cells CB 31)).drewN q))) hinv rfl rfl rfl rfl rfl rfl rfl rfl rfl rfl rfl rfl rfl rfl rfl rfl rfl (.inr rfl) ?_ ⟨q15, rfl⟩ ?_
  ·
    have ca32 : CA[32]? = some (Value.int .u32 (a.burst : Int)) := by rw [HA.out]; rfl
    have cb32 : CB[32]? = some (Value.int .u32 (b.burst : Int)) := by rw [HB.out]; rfl
    refine ⟨.pointer (some ⟨w.heap.size, 32, none⟩), (.int .u32 (a.burst : Int)), .pointer (some ⟨w.heap.size + 1, 32, none⟩), (.int .u32 (b.burst : Int)), ?_, ?_, ?_, ?_, .inl ⟨?_, q15, rfl⟩⟩
    · intro ρ h; simp only [execOp, h]; go_simp
    · intro ρ h; simp only [execOp, h]; go_simp
    · intro ρ h; simp only [execOp, h]; go_simp
    · intro ρ h; simp only [execOp, h]; go_simp
    · intro ρ h1 h2; simp only [execOp, h1, h2]; go_simp
  rintro ⟨tm, df⟩ _ hinv ⟨q16, rfl⟩
  refine wpList_nil ?_
  have hres := hinv.tb
  obtain rfl : df = [] := hinv.defers
  clear hinv
  go_wp2
  go_ret
  refine ⟨?_, HM.out _⟩
  have : tm.getD 4 undef = .bool (decide (a = b)) := by
    rw [Array.getD_eq_getD_getElem?, hres, ← ten_beq a b]
    rfl
  rw [← this]
end

section
attribute [local go_sem] stPair gtPair gtK8 gtM6
attribute [local go_sem high] neqPair eqK8 eqM6
open Go.RowKit
set_option linter.unusedVariables false
/-- Two boxes: the coder's address, the tenant's. -/
structure Boxes (w : World) (bc bt C T o : Nat) : Prop where
  c : w.heap[bc]? = some (.cells #[.pointer (some ⟨C, 0, none⟩)] 100 (0, 0))
  t : w.heap[bt]? = some (.cells #[.pointer (some ⟨T, o, none⟩)] 104 (0, 0))
set_option maxRecDepth 100000 in
theorem ten_vni_wr {w : World} {C base : Nat} {L : List UInt8} {v : Value} {bc bt T o : Nat} {z : Int} {n : Nat} (h : Wr w C base L v) (hb : base ≤ w.heap.size) (hL : L.length ≤ 90000000) (hx : Boxes w bc bt C T o)
    (hT : w.cell? ⟨T, o + 1, none⟩ = some (.int .u32 z)) (hz : IntKind.u64.wrap z = n) (h1 : T ≠ C) (h2 : v.ownBlock ≠ some T) :
    Calls Tryz.prog 65 #[.pointer (some ⟨bc, 0, none⟩), .pointer (some ⟨bt, 0, none⟩)] w fun e w' => e = .returned (.tuple #[]) ∧ ∃ v', Wr w' C base (L ++ be 4 n) v' ∧ WMod C v w v' w' := by
  have hd : ∀ W, W = w.drew → Calls Tryz.prog 63 #[.pointer (some ⟨C, 0, none⟩), .int .i64 4, .pointer (some ⟨T, o + 1, none⟩)] W fun e w' => e = .returned (.tuple #[]) ∧ ∃ v', Wr w' C base (L ++ be 4 n) v' ∧ WMod C v w v' w' := by
    intro W hW
    subst hW
    exact (num_u32_wr (w := w.drew) ⟨h.blk, h.own⟩ hb 4 n (by decide) hL hT hz h1 h2).mono fun e w' ⟨he, v', a1, a2⟩ => ⟨he, v', a1, ⟨(Mod.refl _ w).drew.trans a2.mod, a2.row⟩⟩
  have c0 := blk_cell hx.c 0
  have c1 := blk_cell hx.t 0
  simp at c0 c1
  have HD := Lib.hid hd
  clear h hb hL hx hT hz h1 h2 hd
  go_enter Tryz.func65, Tryz.ntmps65
  go_wp2_with fail
  go_region_law (first | (go_simp; go_at_call 63; refine (HD.out _ rfl).mono ?_; rintro e w1 ⟨rfl, v', hw1, hm1⟩; have HW := Lib.hid (And.intro hw1 hm1); clear hw1 hm1))
  all_goals
    go_wp2
    first | go_end0 | (simp only [Exit.inBlock, Exit.then]; refine bodyPost_ret (results_none rfl _ _ _) rfl ?_) | refine bodyPost_ret (results_none rfl _ _ _) rfl ?_
    exact ⟨rfl, v', HW.out.1, HW.out.2⟩
set_option maxRecDepth 100000 in
theorem ten_vtep_wr {w : World} {C base : Nat} {L : List UInt8} {v : Value} {bc bt T o : Nat} {z : Int} {n : Nat} (h : Wr w C base L v) (hb : base ≤ w.heap.size) (hL : L.length ≤ 90000000) (hx : Boxes w bc bt C T o)
    (hT : w.cell? ⟨T, o + 10, none⟩ = some (.int .u32 z)) (hz : IntKind.u64.wrap z = n) (h1 : T ≠ C) (h2 : v.ownBlock ≠ some T) :
    Calls Tryz.prog 68 #[.pointer (some ⟨bc, 0, none⟩), .pointer (some ⟨bt, 0, none⟩)] w fun e w' => e = .returned (.tuple #[]) ∧ ∃ v', Wr w' C base (L ++ be 4 n) v' ∧ WMod C v w v' w' := by
  have hd : ∀ W, W = w.drew → Calls Tryz.prog 63 #[.pointer (some ⟨C, 0, none⟩), .int .i64 4, .pointer (some ⟨T, o + 10, none⟩)] W fun e w' => e = .returned (.tuple #[]) ∧ ∃ v', Wr w' C base (L ++ be 4 n) v' ∧ WMod C v w v' w' := by
    intro W hW
    subst hW
    exact (num_u32_wr (w := w.drew) ⟨h.blk, h.own⟩ hb 4 n (by decide) hL hT hz h1 h2).mono fun e w' ⟨he, v', a1, a2⟩ => ⟨he, v', a1, ⟨(Mod.refl _ w).drew.trans a2.mod, a2.row⟩⟩
  have c0 := blk_cell hx.c 0
  have c1 := blk_cell hx.t 0
  simp at c0 c1
  have HD := Lib.hid hd
  clear h hb hL hx hT hz h1 h2 hd
  go_enter Tryz.func68, Tryz.ntmps68
  go_wp2_with fail
  go_region_law (first | (go_simp; go_at_call 63; refine (HD.out _ rfl).mono ?_; rintro e w1 ⟨rfl, v', hw1, hm1⟩; have HW := Lib.hid (And.intro hw1 hm1); clear hw1 hm1))
  all_goals
    go_wp2
    first | go_end0 | (simp only [Exit.inBlock, Exit.then]; refine bodyPost_ret (results_none rfl _ _ _) rfl ?_) | refine bodyPost_ret (results_none rfl _ _ _) rfl ?_
    exact ⟨rfl, v', HW.out.1, HW.out.2⟩
set_option maxRecDepth 100000 in
theorem ten_lo_wr {w : World} {C base : Nat} {L : List UInt8} {v : Value} {bc bt T o : Nat} {z : Int} {n : Nat} (h : Wr w C base L v) (hb : base ≤ w.heap.size) (hL : L.length ≤ 90000000) (hx : Boxes w bc bt C T o)
    (hT : w.cell? ⟨T, o + 24, none⟩ = some (.int .u16 z)) (hz : IntKind.u64.wrap z = n) (h1 : T ≠ C) (h2 : v.ownBlock ≠ some T) :
    Calls Tryz.prog 71 #[.pointer (some ⟨bc, 0, none⟩), .pointer (some ⟨bt, 0, none⟩)] w fun e w' => e = .returned (.tuple #[]) ∧ ∃ v', Wr w' C base (L ++ be 2 n) v' ∧ WMod C v w v' w' := by
  have hd : ∀ W, W = w.drew → Calls Tryz.prog 72 #[.pointer (some ⟨C, 0, none⟩), .int .i64 2, .pointer (some ⟨T, o + 24, none⟩)] W fun e w' => e = .returned (.tuple #[]) ∧ ∃ v', Wr w' C base (L ++ be 2 n) v' ∧ WMod C v w v' w' := by
    intro W hW
    subst hW
    exact (num_u16_wr (w := w.drew) ⟨h.blk, h.own⟩ hb 2 n (by decide) hL hT hz h1 h2).mono fun e w' ⟨he, v', a1, a2⟩ => ⟨he, v', a1, ⟨(Mod.refl _ w).drew.trans a2.mod, a2.row⟩⟩
  have c0 := blk_cell hx.c 0
  have c1 := blk_cell hx.t 0
  simp at c0 c1
  have HD := Lib.hid hd
  clear h hb hL hx hT hz h1 h2 hd
  go_enter Tryz.func71, Tryz.ntmps71
  go_wp2_with fail
  go_region_law (first | (go_simp; go_at_call 72; refine (HD.out _ rfl).mono ?_; rintro e w1 ⟨rfl, v', hw1, hm1⟩; have HW := Lib.hid (And.intro hw1 hm1); clear hw1 hm1))
  all_goals
    go_wp2
    first | go_end0 | (simp only [Exit.inBlock, Exit.then]; refine bodyPost_ret (results_none rfl _ _ _) rfl ?_) | refine bodyPost_ret (results_none rfl _ _ _) rfl ?_
    exact ⟨rfl, v', HW.out.1, HW.out.2⟩
set_option maxRecDepth 100000 in
theorem ten_hi_wr {w : World} {C base : Nat} {L : List UInt8} {v : Value} {bc bt T o : Nat} {z : Int} {n : Nat} (h : Wr w C base L v) (hb : base ≤ w.heap.size) (hL : L.length ≤ 90000000) (hx : Boxes w bc bt C T o)
    (hT : w.cell? ⟨T, o + 25, none⟩ = some (.int .u16 z)) (hz : IntKind.u64.wrap z = n) (h1 : T ≠ C) (h2 : v.ownBlock ≠ some T) :
    Calls Tryz.prog 73 #[.pointer (some ⟨bc, 0, none⟩), .pointer (some ⟨bt, 0, none⟩)] w fun e w' => e = .returned (.tuple #[]) ∧ ∃ v', Wr w' C base (L ++ be 2 n) v' ∧ WMod C v w v' w' := by
  have hd : ∀ W, W = w.drew → Calls Tryz.prog 72 #[.pointer (some ⟨C, 0, none⟩), .int .i64 2, .pointer (some ⟨T, o + 25, none⟩)] W fun e w' => e = .returned (.tuple #[]) ∧ ∃ v', Wr w' C base (L ++ be 2 n) v' ∧ WMod C v w v' w' := by
    intro W hW
    subst hW
    exact (num_u16_wr (w := w.drew) ⟨h.blk, h.own⟩ hb 2 n (by decide) hL hT hz h1 h2).mono fun e w' ⟨he, v', a1, a2⟩ => ⟨he, v', a1, ⟨(Mod.refl _ w).drew.trans a2.mod, a2.row⟩⟩
  have c0 := blk_cell hx.c 0
  have c1 := blk_cell hx.t 0
  simp at c0 c1
  have HD := Lib.hid hd
  clear h hb hL hx hT hz h1 h2 hd
  go_enter Tryz.func73, Tryz.ntmps73
  go_wp2_with fail
  go_region_law (first | (go_simp; go_at_call 72; refine (HD.out _ rfl).mono ?_; rintro e w1 ⟨rfl, v', hw1, hm1⟩; have HW := Lib.hid (And.intro hw1 hm1); clear hw1 hm1))
  all_goals
    go_wp2
    first | go_end0 | (simp only [Exit.inBlock, Exit.then]; refine bodyPost_ret (results_none rfl _ _ _) rfl ?_) | refine bodyPost_ret (results_none rfl _ _ _) rfl ?_
    exact ⟨rfl, v', HW.out.1, HW.out.2⟩
set_option maxRecDepth 100000 in
theorem ten_filter_wr {w : World} {C base : Nat} {L : List UInt8} {v : Value} {bc bt T o : Nat} {z : Int} {n : Nat} (h : Wr w C base L v) (hb : base ≤ w.heap.size) (hL : L.length ≤ 90000000) (hx : Boxes w bc bt C T o)
    (hT : w.cell? ⟨T, o + 26, none⟩ = some (.int .i64 z)) (hz : IntKind.u64.wrap z = n) (h1 : T ≠ C) (h2 : v.ownBlock ≠ some T) :
    Calls Tryz.prog 74 #[.pointer (some ⟨bc, 0, none⟩), .pointer (some ⟨bt, 0, none⟩)] w fun e w' => e = .returned (.tuple #[]) ∧ ∃ v', Wr w' C base (L ++ be 1 n) v' ∧ WMod C v w v' w' := by
  have hd : ∀ W, W = w.drew → Calls Tryz.prog 75 #[.pointer (some ⟨C, 0, none⟩), .int .i64 1, .pointer (some ⟨T, o + 26, none⟩)] W fun e w' => e = .returned (.tuple #[]) ∧ ∃ v', Wr w' C base (L ++ be 1 n) v' ∧ WMod C v w v' w' := by
    intro W hW
    subst hW
    exact (num_i64_wr (w := w.drew) ⟨h.blk, h.own⟩ hb 1 n (by decide) hL hT hz h1 h2).mono fun e w' ⟨he, v', a1, a2⟩ => ⟨he, v', a1, ⟨(Mod.refl _ w).drew.trans a2.mod, a2.row⟩⟩
  have c0 := blk_cell hx.c 0
  have c1 := blk_cell hx.t 0
  simp at c0 c1
  have HD := Lib.hid hd
  clear h hb hL hx hT hz h1 h2 hd
  go_enter Tryz.func74, Tryz.ntmps74
  go_wp2_with fail
  go_region_law (first | (go_simp; go_at_call 75; refine (HD.out _ rfl).mono ?_; rintro e w1 ⟨rfl, v', hw1, hm1⟩; have HW := Lib.hid (And.intro hw1 hm1); clear hw1 hm1))
  all_goals
    go_wp2
    first | go_end0 | (simp only [Exit.inBlock, Exit.then]; refine bodyPost_ret (results_none rfl _ _ _) rfl ?_) | refine bodyPost_ret (results_none rfl _ _ _) rfl ?_
    exact ⟨rfl, v', HW.out.1, HW.out.2⟩
set_option maxRecDepth 100000 in
theorem ten_sess_wr {w : World} {C base : Nat} {L : List UInt8} {v : Value} {bc bt T o : Nat} {z : Int} {n : Nat} (h : Wr w C base L v) (hb : base ≤ w.heap.size) (hL : L.length ≤ 90000000) (hx : Boxes w bc bt C T o)
    (hT : w.cell? ⟨T, o + 29, none⟩ = some (.int .i64 z)) (hz : IntKind.u64.wrap z = n) (h1 : T ≠ C) (h2 : v.ownBlock ≠ some T) :
    Calls Tryz.prog 76 #[.pointer (some ⟨bc, 0, none⟩), .pointer (some ⟨bt, 0, none⟩)] w fun e w' => e = .returned (.tuple #[]) ∧ ∃ v', Wr w' C base (L ++ be 2 n) v' ∧ WMod C v w v' w' := by
  have hd : ∀ W, W = w.drew → Calls Tryz.prog 75 #[.pointer (some ⟨C, 0, none⟩), .int .i64 2, .pointer (some ⟨T, o + 29, none⟩)] W fun e w' => e = .returned (.tuple #[]) ∧ ∃ v', Wr w' C base (L ++ be 2 n) v' ∧ WMod C v w v' w' := by
    intro W hW
    subst hW
    exact (num_i64_wr (w := w.drew) ⟨h.blk, h.own⟩ hb 2 n (by decide) hL hT hz h1 h2).mono fun e w' ⟨he, v', a1, a2⟩ => ⟨he, v', a1, ⟨(Mod.refl _ w).drew.trans a2.mod, a2.row⟩⟩
  have c0 := blk_cell hx.c 0
  have c1 := blk_cell hx.t 0
  simp at c0 c1
  have HD := Lib.hid hd
  clear h hb hL hx hT hz h1 h2 hd
  go_enter Tryz.func76, Tryz.ntmps76
  go_wp2_with fail
  go_region_law (first | (go_simp; go_at_call 75; refine (HD.out _ rfl).mono ?_; rintro e w1 ⟨rfl, v', hw1, hm1⟩; have HW := Lib.hid (And.intro hw1 hm1); clear hw1 hm1))
  all_goals
    go_wp2
    first | go_end0 | (simp only [Exit.inBlock, Exit.then]; refine bodyPost_ret (results_none rfl _ _ _) rfl ?_) | refine bodyPost_ret (results_none rfl _ _ _) rfl ?_
    exact ⟨rfl, v', HW.out.1, HW.out.2⟩
set_option maxRecDepth 100000 in
theorem ten_queue_wr {w : World} {C base : Nat} {L : List UInt8} {v : Value} {bc bt T o : Nat} {z : Int} {n : Nat} (h : Wr w C base L v) (hb : base ≤ w.heap.size) (hL : L.length ≤ 90000000) (hx : Boxes w bc bt C T o)
    (hT : w.cell? ⟨T, o + 30, none⟩ = some (.int .i64 z)) (hz : IntKind.u64.wrap z = n) (h1 : T ≠ C) (h2 : v.ownBlock ≠ some T) :
    Calls Tryz.prog 77 #[.pointer (some ⟨bc, 0, none⟩), .pointer (some ⟨bt, 0, none⟩)] w fun e w' => e = .returned (.tuple #[]) ∧ ∃ v', Wr w' C base (L ++ be 2 n) v' ∧ WMod C v w v' w' := by
  have hd : ∀ W, W = w.drew → Calls Tryz.prog 75 #[.pointer (some ⟨C, 0, none⟩), .int .i64 2, .pointer (some ⟨T, o + 30, none⟩)] W fun e w' => e = .returned (.tuple #[]) ∧ ∃ v', Wr w' C base (L ++ be 2 n) v' ∧ WMod C v w v' w' := by
    intro W hW
    subst hW
    exact (num_i64_wr (w := w.drew) ⟨h.blk, h.own⟩ hb 2 n (by decide) hL hT hz h1 h2).mono fun e w' ⟨he, v', a1, a2⟩ => ⟨he, v', a1, ⟨(Mod.refl _ w).drew.trans a2.mod, a2.row⟩⟩
  have c0 := blk_cell hx.c 0
  have c1 := blk_cell hx.t 0
  simp at c0 c1
  have HD := Lib.hid hd
  clear h hb hL hx hT hz h1 h2 hd
  go_enter Tryz.func77, Tryz.ntmps77
  go_wp2_with fail
  go_region_law (first | (go_simp; go_at_call 75; refine (HD.out _ rfl).mono ?_; rintro e w1 ⟨rfl, v', hw1, hm1⟩; have HW := Lib.hid (And.intro hw1 hm1); clear hw1 hm1))
  all_goals
    go_wp2
    first | go_end0 | (simp only [Exit.inBlock, Exit.then]; refine bodyPost_ret (results_none rfl _ _ _) rfl ?_) | refine bodyPost_ret (results_none rfl _ _ _) rfl ?_
    exact ⟨rfl, v', HW.out.1, HW.out.2⟩
set_option maxRecDepth 100000 in
theorem ten_rate_wr {w : World} {C base : Nat} {L : List UInt8} {v : Value} {bc bt T o : Nat} {z : Int} {n : Nat} (h : Wr w C base L v) (hb : base ≤ w.heap.size) (hL : L.length ≤ 90000000) (hx : Boxes w bc bt C T o)
    (hT : w.cell? ⟨T, o + 31, none⟩ = some (.int .u32 z)) (hz : IntKind.u64.wrap z = n) (h1 : T ≠ C) (h2 : v.ownBlock ≠ some T) :
    Calls Tryz.prog 78 #[.pointer (some ⟨bc, 0, none⟩), .pointer (some ⟨bt, 0, none⟩)] w fun e w' => e = .returned (.tuple #[]) ∧ ∃ v', Wr w' C base (L ++ be 4 n) v' ∧ WMod C v w v' w' := by
  have hd : ∀ W, W = w.drew → Calls Tryz.prog 63 #[.pointer (some ⟨C, 0, none⟩), .int .i64 4, .pointer (some ⟨T, o + 31, none⟩)] W fun e w' => e = .returned (.tuple #[]) ∧ ∃ v', Wr w' C base (L ++ be 4 n) v' ∧ WMod C v w v' w' := by
    intro W hW
    subst hW
    exact (num_u32_wr (w := w.drew) ⟨h.blk, h.own⟩ hb 4 n (by decide) hL hT hz h1 h2).mono fun e w' ⟨he, v', a1, a2⟩ => ⟨he, v', a1, ⟨(Mod.refl _ w).drew.trans a2.mod, a2.row⟩⟩
  have c0 := blk_cell hx.c 0
  have c1 := blk_cell hx.t 0
  simp at c0 c1
  have HD := Lib.hid hd
  clear h hb hL hx hT hz h1 h2 hd
  go_enter Tryz.func78, Tryz.ntmps78
  go_wp2_with fail
  go_region_law (first | (go_simp; go_at_call 63; refine (HD.out _ rfl).mono ?_; rintro e w1 ⟨rfl, v', hw1, hm1⟩; have HW := Lib.hid (And.intro hw1 hm1); clear hw1 hm1))
  all_goals
    go_wp2
    first | go_end0 | (simp only [Exit.inBlock, Exit.then]; refine bodyPost_ret (results_none rfl _ _ _) rfl ?_) | refine bodyPost_ret (results_none rfl _ _ _) rfl ?_
    exact ⟨rfl, v', HW.out.1, HW.out.2⟩
set_option maxRecDepth 100000 in
theorem ten_burst_wr {w : World} {C base : Nat} {L : List UInt8} {v : Value} {bc bt T o : Nat} {z : Int} {n : Nat} (h : Wr w C base L v) (hb : base ≤ w.heap.size) (hL : L.length ≤ 90000000) (hx : Boxes w bc bt C T o)
    (hT : w.cell? ⟨T, o + 32, none⟩ = some (.int .u32 z)) (hz : IntKind.u64.wrap z = n) (h1 : T ≠ C) (h2 : v.ownBlock ≠ some T) :
    Calls Tryz.prog 79 #[.pointer (some ⟨bc, 0, none⟩), .pointer (some ⟨bt, 0, none⟩)] w fun e w' => e = .returned (.tuple #[]) ∧ ∃ v', Wr w' C base (L ++ be 4 n) v' ∧ WMod C v w v' w' := by
  have hd : ∀ W, W = w.drew → Calls Tryz.prog 63 #[.pointer (some ⟨C, 0, none⟩), .int .i64 4, .pointer (some ⟨T, o + 32, none⟩)] W fun e w' => e = .returned (.tuple #[]) ∧ ∃ v', Wr w' C base (L ++ be 4 n) v' ∧ WMod C v w v' w' := by
    intro W hW
    subst hW
    exact (num_u32_wr (w := w.drew) ⟨h.blk, h.own⟩ hb 4 n (by decide) hL hT hz h1 h2).mono fun e w' ⟨he, v', a1, a2⟩ => ⟨he, v', a1, ⟨(Mod.refl _ w).drew.trans a2.mod, a2.row⟩⟩
  have c0 := blk_cell hx.c 0
  have c1 := blk_cell hx.t 0
  simp at c0 c1
  have HD := Lib.hid hd
  clear h hb hL hx hT hz h1 h2 hd
  go_enter Tryz.func79, Tryz.ntmps79
  go_wp2_with fail
  go_region_law (first | (go_simp; go_at_call 63; refine (HD.out _ rfl).mono ?_; rintro e w1 ⟨rfl, v', hw1, hm1⟩; have HW := Lib.hid (And.intro hw1 hm1); clear hw1 hm1))
  all_goals
    go_wp2
    first | go_end0 | (simp only [Exit.inBlock, Exit.then]; refine bodyPost_ret (results_none rfl _ _ _) rfl ?_) | refine bodyPost_ret (results_none rfl _ _ _) rfl ?_
    exact ⟨rfl, v', HW.out.1, HW.out.2⟩
set_option maxRecDepth 100000 in
theorem ten_vni_rd {S : Nat → Prop} {w : World} {C : Nat} {A : Option Addr} {c at_ : Nat} {sh : Bool} (B : List UInt8) (hb : w.heap[C]? = some (rdObj A B.length c at_ sh)) (hrow : RowAt S w A (bcells B)) (hat : at_ ≤ B.length) (hc : B.length ≤ c) (hB : B.length ≤ 100000000) (hS : ¬ S C) {bc bt T o : Nat} (hx : Boxes w bc bt C T o)
    {cs : Array Value} {t : TypeId} (hT : w.heap[T]? = some (.cells cs t (0, 0))) (ho : o + 1 < cs.size) (h1 : T ≠ C) :
    Calls Tryz.prog 65 #[.pointer (some ⟨bc, 0, none⟩), .pointer (some ⟨bt, 0, none⟩)] w fun e w' => e = .returned (.tuple #[]) ∧ w'.heap[C]? = some (rdObj A B.length c (rtake B (at_, sh) 4).2.1 (rtake B (at_, sh) 4).2.2) ∧
      w'.heap[T]? = some (.cells (cs.setIfInBounds (o + 1) (.int .u32 (beval (rtake B (at_, sh) 4).1))) t (0, 0)) ∧ Mod (fun b => b = C ∨ b = T) w w' := by
  have hd : ∀ W, W = w.drew → Calls Tryz.prog 63 #[.pointer (some ⟨C, 0, none⟩), .int .i64 4, .pointer (some ⟨T, o + 1, none⟩)] W fun e w' => e = .returned (.tuple #[]) ∧ w'.heap[C]? = some (rdObj A B.length c (rtake B (at_, sh) 4).2.1 (rtake B (at_, sh) 4).2.2) ∧
      w'.heap[T]? = some (.cells (cs.setIfInBounds (o + 1) (.int .u32 (beval (rtake B (at_, sh) 4).1))) t (0, 0)) ∧ Mod (fun b => b = C ∨ b = T) w w' := by
    intro W hW
    subst hW
    exact (num_u32_rd (w := w.drew) B hb (hrow.keeps (Mod.keeps (Mod.drew (Mod.refl No w)) (fun _ _ _ f => f))) hat hc hB 4 (by decide) hS hT ho h1).mono fun e w' ⟨e1, e2, e3, e4⟩ => ⟨e1, e2, e3, (Mod.refl _ w).drew.trans e4⟩
  have c0 := blk_cell hx.c 0
  have c1 := blk_cell hx.t 0
  simp at c0 c1
  obtain ⟨R, hR⟩ : ∃ R : World → Prop, R = fun w' => w'.heap[C]? = some (rdObj A B.length c (rtake B (at_, sh) 4).2.1 (rtake B (at_, sh) 4).2.2) ∧
      w'.heap[T]? = some (.cells (cs.setIfInBounds (o + 1) (.int .u32 (beval (rtake B (at_, sh) 4).1))) t (0, 0)) ∧ Mod (fun b => b = C ∨ b = T) w w' := ⟨_, rfl⟩
  have hd' : ∀ W, W = w.drew → Calls Tryz.prog 63 #[.pointer (some ⟨C, 0, none⟩), .int .i64 4, .pointer (some ⟨T, o + 1, none⟩)] W fun e w' => e = .returned (.tuple #[]) ∧ R w' := by
    rw [hR]; exact hd
  suffices hs : Calls Tryz.prog 65 #[.pointer (some ⟨bc, 0, none⟩), .pointer (some ⟨bt, 0, none⟩)] w fun e w' => e = .returned (.tuple #[]) ∧ R w' by
    rw [hR] at hs; exact hs
  have HD := Lib.hid hd'
  clear hb hrow hat hc hB hS hx hT ho hd hd' hR
  go_enter Tryz.func65, Tryz.ntmps65
  go_wp2_with fail
  go_region_law (first | (go_simp; go_at_call 63; refine (HD.out _ rfl).mono ?_; rintro e w1 ⟨rfl, hr⟩; have HW := Lib.hid hr; clear hr))
  all_goals
    go_wp2
    first | go_end0 | (simp only [Exit.inBlock, Exit.then]; refine bodyPost_ret (results_none rfl _ _ _) rfl ?_) | refine bodyPost_ret (results_none rfl _ _ _) rfl ?_
    exact ⟨rfl, HW.out⟩
set_option maxRecDepth 100000 in
theorem ten_vtep_rd {S : Nat → Prop} {w : World} {C : Nat} {A : Option Addr} {c at_ : Nat} {sh : Bool} (B : List UInt8) (hb : w.heap[C]? = some (rdObj A B.length c at_ sh)) (hrow : RowAt S w A (bcells B)) (hat : at_ ≤ B.length) (hc : B.length ≤ c) (hB : B.length ≤ 100000000) (hS : ¬ S C) {bc bt T o : Nat} (hx : Boxes w bc bt C T o)
    {cs : Array Value} {t : TypeId} (hT : w.heap[T]? = some (.cells cs t (0, 0))) (ho : o + 10 < cs.size) (h1 : T ≠ C) :
    Calls Tryz.prog 68 #[.pointer (some ⟨bc, 0, none⟩), .pointer (some ⟨bt, 0, none⟩)] w fun e w' => e = .returned (.tuple #[]) ∧ w'.heap[C]? = some (rdObj A B.length c (rtake B (at_, sh) 4).2.1 (rtake B (at_, sh) 4).2.2) ∧
      w'.heap[T]? = some (.cells (cs.setIfInBounds (o + 10) (.int .u32 (beval (rtake B (at_, sh) 4).1))) t (0, 0)) ∧ Mod (fun b => b = C ∨ b = T) w w' := by
  have hd : ∀ W, W = w.drew → Calls Tryz.prog 63 #[.pointer (some ⟨C, 0, none⟩), .int .i64 4, .pointer (some ⟨T, o + 10, none⟩)] W fun e w' => e = .returned (.tuple #[]) ∧ w'.heap[C]? = some (rdObj A B.length c (rtake B (at_, sh) 4).2.1 (rtake B (at_, sh) 4).2.2) ∧
      w'.heap[T]? = some (.cells (cs.setIfInBounds (o + 10) (.int .u32 (beval (rtake B (at_, sh) 4).1))) t (0, 0)) ∧ Mod (fun b => b = C ∨ b = T) w w' := by
    intro W hW
    subst hW
    exact (num_u32_rd (w := w.drew) B hb (hrow.keeps (Mod.keeps (Mod.drew (Mod.refl No w)) (fun _ _ _ f => f))) hat hc hB 4 (by decide) hS hT ho h1).mono fun e w' ⟨e1, e2, e3, e4⟩ => ⟨e1, e2, e3, (Mod.refl _ w).drew.trans e4⟩
  have c0 := blk_cell hx.c 0
  have c1 := blk_cell hx.t 0
  simp at c0 c1
  obtain ⟨R, hR⟩ : ∃ R : World → Prop, R = fun w' => w'.heap[C]? = some (rdObj A B.length c (rtake B (at_, sh) 4).2.1 (rtake B (at_, sh) 4).2.2) ∧
      w'.heap[T]? = some (.cells (cs.setIfInBounds (o + 10) (.int .u32 (beval (rtake B (at_, sh) 4).1))) t (0, 0)) ∧ Mod (fun b => b = C ∨ b = T) w w' := ⟨_, rfl⟩
  have hd' : ∀ W, W = w.drew → Calls Tryz.prog 63 #[.pointer (some ⟨C, 0, none⟩), .int .i64 4, .pointer (some ⟨T, o + 10, none⟩)] W fun e w' => e = .returned (.tuple #[]) ∧ R w' := by
    rw [hR]; exact hd
  suffices hs : Calls Tryz.prog 68 #[.pointer (some ⟨bc, 0, none⟩), .pointer (some ⟨bt, 0, none⟩)] w fun e w' => e = .returned (.tuple #[]) ∧ R w' by
    rw [hR] at hs; exact hs
  have HD := Lib.hid hd'
  clear hb hrow hat hc hB hS hx hT ho hd hd' hR
  go_enter Tryz.func68, Tryz.ntmps68
  go_wp2_with fail
  go_region_law (first | (go_simp; go_at_call 63; refine (HD.out _ rfl).mono ?_; rintro e w1 ⟨rfl, hr⟩; have HW := Lib.hid hr; clear hr))
  all_goals
    go_wp2
    first | go_end0 | (simp only [Exit.inBlock, Exit.then]; refine bodyPost_ret (results_none rfl _ _ _) rfl ?_) | refine bodyPost_ret (results_none rfl _ _ _) rfl ?_
    exact ⟨rfl, HW.out⟩
set_option maxRecDepth 100000 in
theorem ten_lo_rd {S : Nat → Prop} {w : World} {C : Nat} {A : Option Addr} {c at_ : Nat} {sh : Bool} (B : List UInt8) (hb : w.heap[C]? = some (rdObj A B.length c at_ sh)) (hrow : RowAt S w A (bcells B)) (hat : at_ ≤ B.length) (hc : B.length ≤ c) (hB : B.length ≤ 100000000) (hS : ¬ S C) {bc bt T o : Nat} (hx : Boxes w bc bt C T o)
    {cs : Array Value} {t : TypeId} (hT : w.heap[T]? = some (.cells cs t (0, 0))) (ho : o + 24 < cs.size) (h1 : T ≠ C) :
    Calls Tryz.prog 71 #[.pointer (some ⟨bc, 0, none⟩), .pointer (some ⟨bt, 0, none⟩)] w fun e w' => e = .returned (.tuple #[]) ∧ w'.heap[C]? = some (rdObj A B.length c (rtake B (at_, sh) 2).2.1 (rtake B (at_, sh) 2).2.2) ∧
      w'.heap[T]? = some (.cells (cs.setIfInBounds (o + 24) (.int .u16 (beval (rtake B (at_, sh) 2).1))) t (0, 0)) ∧ Mod (fun b => b = C ∨ b = T) w w' := by
  have hd : ∀ W, W = w.drew → Calls Tryz.prog 72 #[.pointer (some ⟨C, 0, none⟩), .int .i64 2, .pointer (some ⟨T, o + 24, none⟩)] W fun e w' => e = .returned (.tuple #[]) ∧ w'.heap[C]? = some (rdObj A B.length c (rtake B (at_, sh) 2).2.1 (rtake B (at_, sh) 2).2.2) ∧
      w'.heap[T]? = some (.cells (cs.setIfInBounds (o + 24) (.int .u16 (beval (rtake B (at_, sh) 2).1))) t (0, 0)) ∧ Mod (fun b => b = C ∨ b = T) w w' := by
    intro W hW
    subst hW
    exact (num_u16_rd (w := w.drew) B hb (hrow.keeps (Mod.keeps (Mod.drew (Mod.refl No w)) (fun _ _ _ f => f))) hat hc hB 2 (by decide) hS hT ho h1).mono fun e w' ⟨e1, e2, e3, e4⟩ => ⟨e1, e2, e3, (Mod.refl _ w).drew.trans e4⟩
  have c0 := blk_cell hx.c 0
  have c1 := blk_cell hx.t 0
  simp at c0 c1
  obtain ⟨R, hR⟩ : ∃ R : World → Prop, R = fun w' => w'.heap[C]? = some (rdObj A B.length c (rtake B (at_, sh) 2).2.1 (rtake B (at_, sh) 2).2.2) ∧
      w'.heap[T]? = some (.cells (cs.setIfInBounds (o + 24) (.int .u16 (beval (rtake B (at_, sh) 2).1))) t (0, 0)) ∧ Mod (fun b => b = C ∨ b = T) w w' := ⟨_, rfl⟩
  have hd' : ∀ W, W = w.drew → Calls Tryz.prog 72 #[.pointer (some ⟨C, 0, none⟩), .int .i64 2, .pointer (some ⟨T, o + 24, none⟩)] W fun e w' => e = .returned (.tuple #[]) ∧ R w' := by
    rw [hR]; exact hd
  suffices hs : Calls Tryz.prog 71 #[.pointer (some ⟨bc, 0, none⟩), .pointer (some ⟨bt, 0, none⟩)] w fun e w' => e = .returned (.tuple #[]) ∧ R w' by
    rw [hR] at hs; exact hs
  have HD := Lib.hid hd'
  clear hb hrow hat hc hB hS hx hT ho hd hd' hR
  go_enter Tryz.func71, Tryz.ntmps71
  go_wp2_with fail
  go_region_law (first | (go_simp; go_at_call 72; refine (HD.out _ rfl).mono ?_; rintro e w1 ⟨rfl, hr⟩; have HW := Lib.hid hr; clear hr))
  all_goals
    go_wp2
    first | go_end0 | (simp only [Exit.inBlock, Exit.then]; refine bodyPost_ret (results_none rfl _ _ _) rfl ?_) | refine bodyPost_ret (results_none rfl _ _ _) rfl ?_
    exact ⟨rfl, HW.out⟩
set_option maxRecDepth 100000 in
theorem ten_hi_rd {S : Nat → Prop} {w : World} {C : Nat} {A : Option Addr} {c at_ : Nat} {sh : Bool} (B : List UInt8) (hb : w.heap[C]? = some (rdObj A B.length c at_ sh)) (hrow : RowAt S w A (bcells B)) (hat : at_ ≤ B.length) (hc : B.length ≤ c) (hB : B.length ≤ 100000000) (hS : ¬ S C) {bc bt T o : Nat} (hx : Boxes w bc bt C T o)
    {cs : Array Value} {t : TypeId} (hT : w.heap[T]? = some (.cells cs t (0, 0))) (ho : o + 25 < cs.size) (h1 : T ≠ C) :
    Calls Tryz.prog 73 #[.pointer (some ⟨bc, 0, none⟩), .pointer (some ⟨bt, 0, none⟩)] w fun e w' => e = .returned (.tuple #[]) ∧ w'.heap[C]? = some (rdObj A B.length c (rtake B (at_, sh) 2).2.1 (rtake B (at_, sh) 2).2.2) ∧
      w'.heap[T]? = some (.cells (cs.setIfInBounds (o + 25) (.int .u16 (beval (rtake B (at_, sh) 2).1))) t (0, 0)) ∧ Mod (fun b => b = C ∨ b = T) w w' := by
  have hd : ∀ W, W = w.drew → Calls Tryz.prog 72 #[.pointer (some ⟨C, 0, none⟩), .int .i64 2, .pointer (some ⟨T, o + 25, none⟩)] W fun e w' => e = .returned (.tuple #[]) ∧ w'.heap[C]? = some (rdObj A B.length c (rtake B (at_, sh) 2).2.1 (rtake B (at_, sh) 2).2.2) ∧
      w'.heap[T]? = some (.cells (cs.setIfInBounds (o + 25) (.int .u16 (beval (rtake B (at_, sh) 2).1))) t (0, 0)) ∧ Mod (fun b => b = C ∨ b = T) w w' := by
    intro W hW
    subst hW
    exact (num_u16_rd (w := w.drew) B hb (hrow.keeps (Mod.keeps (Mod.drew (Mod.refl No w)) (fun _ _ _ f => f))) hat hc hB 2 (by decide) hS hT ho h1).mono fun e w' ⟨e1, e2, e3, e4⟩ => ⟨e1, e2, e3, (Mod.refl _ w).drew.trans e4⟩
  have c0 := blk_cell hx.c 0
  have c1 := blk_cell hx.t 0
  simp at c0 c1
  obtain ⟨R, hR⟩ : ∃ R : World → Prop, R = fun w' => w'.heap[C]? = some (rdObj A B.length c (rtake B (at_, sh) 2).2.1 (rtake B (at_, sh) 2).2.2) ∧
      w'.heap[T]? = some (.cells (cs.setIfInBounds (o + 25) (.int .u16 (beval (rtake B (at_, sh) 2).1))) t (0, 0)) ∧ Mod (fun b => b = C ∨ b = T) w w' := ⟨_, rfl⟩
  have hd' : ∀ W, W = w.drew → Calls Tryz.prog 72 #[.pointer (some ⟨C, 0, none⟩), .int .i64 2, .pointer (some ⟨T, o + 25, none⟩)] W fun e w' => e = .returned (.tuple #[]) ∧ R w' := by
    rw [hR]; exact hd
  suffices hs : Calls Tryz.prog 73 #[.pointer (some ⟨bc, 0, none⟩), .pointer (some ⟨bt, 0, none⟩)] w fun e w' => e = .returned (.tuple #[]) ∧ R w' by
    rw [hR] at hs; exact hs
  have HD := Lib.hid hd'
  clear hb hrow hat hc hB hS hx hT ho hd hd' hR
  go_enter Tryz.func73, Tryz.ntmps73
  go_wp2_with fail
  go_region_law (first | (go_simp; go_at_call 72; refine (HD.out _ rfl).mono ?_; rintro e w1 ⟨rfl, hr⟩; have HW := Lib.hid hr; clear hr))
  all_goals
    go_wp2
    first | go_end0 | (simp only [Exit.inBlock, Exit.then]; refine bodyPost_ret (results_none rfl _ _ _) rfl ?_) | refine bodyPost_ret (results_none rfl _ _ _) rfl ?_
    exact ⟨rfl, HW.out⟩
set_option maxRecDepth 100000 in
theorem ten_filter_rd {S : Nat → Prop} {w : World} {C : Nat} {A : Option Addr} {c at_ : Nat} {sh : Bool} (B : List UInt8) (hb : w.heap[C]? = some (rdObj A B.length c at_ sh)) (hrow : RowAt S w A (bcells B)) (hat : at_ ≤ B.length) (hc : B.length ≤ c) (hB : B.length ≤ 100000000) (hS : ¬ S C) {bc bt T o : Nat} (hx : Boxes w bc bt C T o)
    {cs : Array Value} {t : TypeId} (hT : w.heap[T]? = some (.cells cs t (0, 0))) (ho : o + 26 < cs.size) (h1 : T ≠ C) :
    Calls Tryz.prog 74 #[.pointer (some ⟨bc, 0, none⟩), .pointer (some ⟨bt, 0, none⟩)] w fun e w' => e = .returned (.tuple #[]) ∧ w'.heap[C]? = some (rdObj A B.length c (rtake B (at_, sh) 1).2.1 (rtake B (at_, sh) 1).2.2) ∧
      w'.heap[T]? = some (.cells (cs.setIfInBounds (o + 26) (.int .i64 (beval (rtake B (at_, sh) 1).1))) t (0, 0)) ∧ Mod (fun b => b = C ∨ b = T) w w' := by
  have hd : ∀ W, W = w.drew → Calls Tryz.prog 75 #[.pointer (some ⟨C, 0, none⟩), .int .i64 1, .pointer (some ⟨T, o + 26, none⟩)] W fun e w' => e = .returned (.tuple #[]) ∧ w'.heap[C]? = some (rdObj A B.length c (rtake B (at_, sh) 1).2.1 (rtake B (at_, sh) 1).2.2) ∧
      w'.heap[T]? = some (.cells (cs.setIfInBounds (o + 26) (.int .i64 (beval (rtake B (at_, sh) 1).1))) t (0, 0)) ∧ Mod (fun b => b = C ∨ b = T) w w' := by
    intro W hW
    subst hW
    exact (num_i64_rd (w := w.drew) B hb (hrow.keeps (Mod.keeps (Mod.drew (Mod.refl No w)) (fun _ _ _ f => f))) hat hc hB 1 (by decide) hS hT ho h1).mono fun e w' ⟨e1, e2, e3, e4⟩ => ⟨e1, e2, e3, (Mod.refl _ w).drew.trans e4⟩
  have c0 := blk_cell hx.c 0
  have c1 := blk_cell hx.t 0
  simp at c0 c1
  obtain ⟨R, hR⟩ : ∃ R : World → Prop, R = fun w' => w'.heap[C]? = some (rdObj A B.length c (rtake B (at_, sh) 1).2.1 (rtake B (at_, sh) 1).2.2) ∧
      w'.heap[T]? = some (.cells (cs.setIfInBounds (o + 26) (.int .i64 (beval (rtake B (at_, sh) 1).1))) t (0, 0)) ∧ Mod (fun b => b = C ∨ b = T) w w' := ⟨_, rfl⟩
  have hd' : ∀ W, W = w.drew → Calls Tryz.prog 75 #[.pointer (some ⟨C, 0, none⟩), .int .i64 1, .pointer (some ⟨T, o + 26, none⟩)] W fun e w' => e = .returned (.tuple #[]) ∧ R w' := by
    rw [hR]; exact hd
  suffices hs : Calls Tryz.prog 74 #[.pointer (some ⟨bc, 0, none⟩), .pointer (some ⟨bt, 0, none⟩)] w fun e w' => e = .returned (.tuple #[]) ∧ R w' by
    rw [hR] at hs; exact hs
  have HD := Lib.hid hd'
  clear hb hrow hat hc hB hS hx hT ho hd hd' hR
  go_enter Tryz.func74, Tryz.ntmps74
  go_wp2_with fail
  go_region_law (first | (go_simp; go_at_call 75; refine (HD.out _ rfl).mono ?_; rintro e w1 ⟨rfl, hr⟩; have HW := Lib.hid hr; clear hr))
  all_goals
    go_wp2
    first | go_end0 | (simp only [Exit.inBlock, Exit.then]; refine bodyPost_ret (results_none rfl _ _ _) rfl ?_) | refine bodyPost_ret (results_none rfl _ _ _) rfl ?_
    exact ⟨rfl, HW.out⟩
set_option maxRecDepth 100000 in
theorem ten_sess_rd {S : Nat → Prop} {w : World} {C : Nat} {A : Option Addr} {c at_ : Nat} {sh : Bool} (B : List UInt8) (hb : w.heap[C]? = some (rdObj A B.length c at_ sh)) (hrow : RowAt S w A (bcells B)) (hat : at_ ≤ B.length) (hc : B.length ≤ c) (hB : B.length ≤ 100000000) (hS : ¬ S C) {bc bt T o : Nat} (hx : Boxes w bc bt C T o)
    {cs : Array Value} {t : TypeId} (hT : w.heap[T]? = some (.cells cs t (0, 0))) (ho : o + 29 < cs.size) (h1 : T ≠ C) :
    Calls Tryz.prog 76 #[.pointer (some ⟨bc, 0, none⟩), .pointer (some ⟨bt, 0, none⟩)] w fun e w' => e = .returned (.tuple #[]) ∧ w'.heap[C]? = some (rdObj A B.length c (rtake B (at_, sh) 2).2.1 (rtake B (at_, sh) 2).2.2) ∧
      w'.heap[T]? = some (.cells (cs.setIfInBounds (o + 29) (.int .i64 (beval (rtake B (at_, sh) 2).1))) t (0, 0)) ∧ Mod (fun b => b = C ∨ b = T) w w' := by
  have hd : ∀ W, W = w.drew → Calls Tryz.prog 75 #[.pointer (some ⟨C, 0, none⟩), .int .i64 2, .pointer (some ⟨T, o + 29, none⟩)] W fun e w' => e = .returned (.tuple #[]) ∧ w'.heap[C]? = some (rdObj A B.length c (rtake B (at_, sh) 2).2.1 (rtake B (at_, sh) 2).2.2) ∧
      w'.heap[T]? = some (.cells (cs.setIfInBounds (o + 29) (.int .i64 (beval (rtake B (at_, sh) 2).1))) t (0, 0)) ∧ Mod (fun b => b = C ∨ b = T) w w' := by
    intro W hW
    subst hW
    exact (num_i64_rd (w := w.drew) B hb (hrow.keeps (Mod.keeps (Mod.drew (Mod.refl No w)) (fun _ _ _ f => f))) hat hc hB 2 (by decide) hS hT ho h1).mono fun e w' ⟨e1, e2, e3, e4⟩ => ⟨e1, e2, e3, (Mod.refl _ w).drew.trans e4⟩
  have c0 := blk_cell hx.c 0
  have c1 := blk_cell hx.t 0
  simp at c0 c1
  obtain ⟨R, hR⟩ : ∃ R : World → Prop, R = fun w' => w'.heap[C]? = some (rdObj A B.length c (rtake B (at_, sh) 2).2.1 (rtake B (at_, sh) 2).2.2) ∧
      w'.heap[T]? = some (.cells (cs.setIfInBounds (o + 29) (.int .i64 (beval (rtake B (at_, sh) 2).1))) t (0, 0)) ∧ Mod (fun b => b = C ∨ b = T) w w' := ⟨_, rfl⟩
  have hd' : ∀ W, W = w.drew → Calls Tryz.prog 75 #[.pointer (some ⟨C, 0, none⟩), .int .i64 2, .pointer (some ⟨T, o + 29, none⟩)] W fun e w' => e = .returned (.tuple #[]) ∧ R w' := by
    rw [hR]; exact hd
  suffices hs : Calls Tryz.prog 76 #[.pointer (some ⟨bc, 0, none⟩), .pointer (some ⟨bt, 0, none⟩)] w fun e w' => e = .returned (.tuple #[]) ∧ R w' by
    rw [hR] at hs; exact hs
  have HD := Lib.hid hd'
  clear hb hrow hat hc hB hS hx hT ho hd hd' hR
  go_enter Tryz.func76, Tryz.ntmps76
  go_wp2_with fail
  go_region_law (first | (go_simp; go_at_call 75; refine (HD.out _ rfl).mono ?_; rintro e w1 ⟨rfl, hr⟩; have HW := Lib.hid hr; clear hr))
  all_goals
    go_wp2
    first | go_end0 | (simp only [Exit.inBlock, Exit.then]; refine bodyPost_ret (results_none rfl _ _ _) rfl ?_) | refine bodyPost_ret (results_none rfl _ _ _) rfl ?_
    exact ⟨rfl, HW.out⟩
set_option maxRecDepth 100000 in
theorem ten_queue_rd {S : Nat → Prop} {w : World} {C : Nat} {A : Option Addr} {c at_ : Nat} {sh : Bool} (B : List UInt8) (hb : w.heap[C]? = some (rdObj A B.length c at_ sh)) (hrow : RowAt S w A (bcells B)) (hat : at_ ≤ B.length) (hc : B.length ≤ c) (hB : B.length ≤ 100000000) (hS : ¬ S C) {bc bt T o : Nat} (hx : Boxes w bc bt C T o)
    {cs : Array Value} {t : TypeId} (hT : w.heap[T]? = some (.cells cs t (0, 0))) (ho : o + 30 < cs.size) (h1 : T ≠ C) :
    Calls Tryz.prog 77 #[.pointer (some ⟨bc, 0, none⟩), .pointer (some ⟨bt, 0, none⟩)] w fun e w' => e = .returned (.tuple #[]) ∧ w'.heap[C]? = some (rdObj A B.length c (rtake B (at_, sh) 2).2.1 (rtake B (at_, sh) 2).2.2) ∧
      w'.heap[T]? = some (.cells (cs.setIfInBounds (o + 30) (.int .i64 (beval (rtake B (at_, sh) 2).1))) t (0, 0)) ∧ Mod (fun b => b = C ∨ b = T) w w' := by
  have hd : ∀ W, W = w.drew → Calls Tryz.prog 75 #[.pointer (some ⟨C, 0, none⟩), .int .i64 2, .pointer (some ⟨T, o + 30, none⟩)] W fun e w' => e = .returned (.tuple #[]) ∧ w'.heap[C]? = some (rdObj A B.length c (rtake B (at_, sh) 2).2.1 (rtake B (at_, sh) 2).2.2) ∧
      w'.heap[T]? = some (.cells (cs.setIfInBounds (o + 30) (.int .i64 (beval (rtake B (at_, sh) 2).1))) t (0, 0)) ∧ Mod (fun b => b = C ∨ b = T) w w' := by
    intro W hW
    subst hW
    exact (num_i64_rd (w := w.drew) B hb (hrow.keeps (Mod.keeps (Mod.drew (Mod.refl No w)) (fun _ _ _ f => f))) hat hc hB 2 (by decide) hS hT ho h1).mono fun e w' ⟨e1, e2, e3, e4⟩ => ⟨e1, e2, e3, (Mod.refl _ w).drew.trans e4⟩
  have c0 := blk_cell hx.c 0
  have c1 := blk_cell hx.t 0
  simp at c0 c1
  obtain ⟨R, hR⟩ : ∃ R : World → Prop, R = fun w' => w'.heap[C]? = some (rdObj A B.length c (rtake B (at_, sh) 2).2.1 (rtake B (at_, sh) 2).2.2) ∧
      w'.heap[T]? = some (.cells (cs.setIfInBounds (o + 30) (.int .i64 (beval (rtake B (at_, sh) 2).1))) t (0, 0)) ∧ Mod (fun b => b = C ∨ b = T) w w' := ⟨_, rfl⟩
  have hd' : ∀ W, W = w.drew → Calls Tryz.prog 75 #[.pointer (some ⟨C, 0, none⟩), .int .i64 2, .pointer (some ⟨T, o + 30, none⟩)] W fun e w' => e = .returned (.tuple #[]) ∧ R w' := by
    rw [hR]; exact hd
  suffices hs : Calls Tryz.prog 77 #[.pointer (some ⟨bc, 0, none⟩), .pointer (some ⟨bt, 0, none⟩)] w fun e w' => e = .returned (.tuple #[]) ∧ R w' by
    rw [hR] at hs; exact hs
  have HD := Lib.hid hd'
  clear hb hrow hat hc hB hS hx hT ho hd hd' hR
  go_enter Tryz.func77, Tryz.ntmps77
  go_wp2_with fail
  go_region_law (first | (go_simp; go_at_call 75; refine (HD.out _ rfl).mono ?_; rintro e w1 ⟨rfl, hr⟩; have HW := Lib.hid hr; clear hr))
  all_goals
    go_wp2
    first | go_end0 | (simp only [Exit.inBlock, Exit.then]; refine bodyPost_ret (results_none rfl _ _ _) rfl ?_) | refine bodyPost_ret (results_none rfl _ _ _) rfl ?_
    exact ⟨rfl, HW.out⟩
set_option maxRecDepth 100000 in
theorem ten_rate_rd {S : Nat → Prop} {w : World} {C : Nat} {A : Option Addr} {c at_ : Nat} {sh : Bool} (B : List UInt8) (hb : w.heap[C]? = some (rdObj A B.length c at_ sh)) (hrow : RowAt S w A (bcells B)) (hat : at_ ≤ B.length) (hc : B.length ≤ c) (hB : B.length ≤ 100000000) (hS : ¬ S C) {bc bt T o : Nat} (hx : Boxes w bc bt C T o)
    {cs : Array Value} {t : TypeId} (hT : w.heap[T]? = some (.cells cs t (0, 0))) (ho : o + 31 < cs.size) (h1 : T ≠ C) :
    Calls Tryz.prog 78 #[.pointer (some ⟨bc, 0, none⟩), .pointer (some ⟨bt, 0, none⟩)] w fun e w' => e = .returned (.tuple #[]) ∧ w'.heap[C]? = some (rdObj A B.length c (rtake B (at_, sh) 4).2.1 (rtake B (at_, sh) 4).2.2) ∧
      w'.heap[T]? = some (.cells (cs.setIfInBounds (o + 31) (.int .u32 (beval (rtake B (at_, sh) 4).1))) t (0, 0)) ∧ Mod (fun b => b = C ∨ b = T) w w' := by
  have hd : ∀ W, W = w.drew → Calls Tryz.prog 63 #[.pointer (some ⟨C, 0, none⟩), .int .i64 4, .pointer (some ⟨T, o + 31, none⟩)] W fun e w' => e = .returned (.tuple #[]) ∧ w'.heap[C]? = some (rdObj A B.length c (rtake B (at_, sh) 4).2.1 (rtake B (at_, sh) 4).2.2) ∧
      w'.heap[T]? = some (.cells (cs.setIfInBounds (o + 31) (.int .u32 (beval (rtake B (at_, sh) 4).1))) t (0, 0)) ∧ Mod (fun b => b = C ∨ b = T) w w' := by
    intro W hW
    subst hW
    exact (num_u32_rd (w := w.drew) B hb (hrow.keeps (Mod.keeps (Mod.drew (Mod.refl No w)) (fun _ _ _ f => f))) hat hc hB 4 (by decide) hS hT ho h1).mono fun e w' ⟨e1, e2, e3, e4⟩ => ⟨e1, e2, e3, (Mod.refl _ w).drew.trans e4⟩
  have c0 := blk_cell hx.c 0
  have c1 := blk_cell hx.t 0
  simp at c0 c1
  obtain ⟨R, hR⟩ : ∃ R : World → Prop, R = fun w' => w'.heap[C]? = some (rdObj A B.length c (rtake B (at_, sh) 4).2.1 (rtake B (at_, sh) 4).2.2) ∧
      w'.heap[T]? = some (.cells (cs.setIfInBounds (o + 31) (.int .u32 (beval (rtake B (at_, sh) 4).1))) t (0, 0)) ∧ Mod (fun b => b = C ∨ b = T) w w' := ⟨_, rfl⟩
  have hd' : ∀ W, W = w.drew → Calls Tryz.prog 63 #[.pointer (some ⟨C, 0, none⟩), .int .i64 4, .pointer (some ⟨T, o + 31, none⟩)] W fun e w' => e = .returned (.tuple #[]) ∧ R w' := by
    rw [hR]; exact hd
  suffices hs : Calls Tryz.prog 78 #[.pointer (some ⟨bc, 0, none⟩), .pointer (some ⟨bt, 0, none⟩)] w fun e w' => e = .returned (.tuple #[]) ∧ R w' by
    rw [hR] at hs; exact hs
  have HD := Lib.hid hd'
  clear hb hrow hat hc hB hS hx hT ho hd hd' hR
  go_enter Tryz.func78, Tryz.ntmps78
  go_wp2_with fail
  go_region_law (first | (go_simp; go_at_call 63; refine (HD.out _ rfl).mono ?_; rintro e w1 ⟨rfl, hr⟩; have HW := Lib.hid hr; clear hr))
  all_goals
    go_wp2
    first | go_end0 | (simp only [Exit.inBlock, Exit.then]; refine bodyPost_ret (results_none rfl _ _ _) rfl ?_) | refine bodyPost_ret (results_none rfl _ _ _) rfl ?_
    exact ⟨rfl, HW.out⟩
set_option maxRecDepth 100000 in
theorem ten_burst_rd {S : Nat → Prop} {w : World} {C : Nat} {A : Option Addr} {c at_ : Nat} {sh : Bool} (B : List UInt8) (hb : w.heap[C]? = some (rdObj A B.length c at_ sh)) (hrow : RowAt S w A (bcells B)) (hat : at_ ≤ B.length) (hc : B.length ≤ c) (hB : B.length ≤ 100000000) (hS : ¬ S C) {bc bt T o : Nat} (hx : Boxes w bc bt C T o)
    {cs : Array Value} {t : TypeId} (hT : w.heap[T]? = some (.cells cs t (0, 0))) (ho : o + 32 < cs.size) (h1 : T ≠ C) :
    Calls Tryz.prog 79 #[.pointer (some ⟨bc, 0, none⟩), .pointer (some ⟨bt, 0, none⟩)] w fun e w' => e = .returned (.tuple #[]) ∧ w'.heap[C]? = some (rdObj A B.length c (rtake B (at_, sh) 4).2.1 (rtake B (at_, sh) 4).2.2) ∧
      w'.heap[T]? = some (.cells (cs.setIfInBounds (o + 32) (.int .u32 (beval (rtake B (at_, sh) 4).1))) t (0, 0)) ∧ Mod (fun b => b = C ∨ b = T) w w' := by
  have hd : ∀ W, W = w.drew → Calls Tryz.prog 63 #[.pointer (some ⟨C, 0, none⟩), .int .i64 4, .pointer (some ⟨T, o + 32, none⟩)] W fun e w' => e = .returned (.tuple #[]) ∧ w'.heap[C]? = some (rdObj A B.length c (rtake B (at_, sh) 4).2.1 (rtake B (at_, sh) 4).2.2) ∧
      w'.heap[T]? = some (.cells (cs.setIfInBounds (o + 32) (.int .u32 (beval (rtake B (at_, sh) 4).1))) t (0, 0)) ∧ Mod (fun b => b = C ∨ b = T) w w' := by
    intro W hW
    subst hW
    exact (num_u32_rd (w := w.drew) B hb (hrow.keeps (Mod.keeps (Mod.drew (Mod.refl No w)) (fun _ _ _ f => f))) hat hc hB 4 (by decide) hS hT ho h1).mono fun e w' ⟨e1, e2, e3, e4⟩ => ⟨e1, e2, e3, (Mod.refl _ w).drew.trans e4⟩
  have c0 := blk_cell hx.c 0
  have c1 := blk_cell hx.t 0
  simp at c0 c1
  obtain ⟨R, hR⟩ : ∃ R : World → Prop, R = fun w' => w'.heap[C]? = some (rdObj A B.length c (rtake B (at_, sh) 4).2.1 (rtake B (at_, sh) 4).2.2) ∧
      w'.heap[T]? = some (.cells (cs.setIfInBounds (o + 32) (.int .u32 (beval (rtake B (at_, sh) 4).1))) t (0, 0)) ∧ Mod (fun b => b = C ∨ b = T) w w' := ⟨_, rfl⟩
  have hd' : ∀ W, W = w.drew → Calls Tryz.prog 63 #[.pointer (some ⟨C, 0, none⟩), .int .i64 4, .pointer (some ⟨T, o + 32, none⟩)] W fun e w' => e = .returned (.tuple #[]) ∧ R w' := by
    rw [hR]; exact hd
  suffices hs : Calls Tryz.prog 79 #[.pointer (some ⟨bc, 0, none⟩), .pointer (some ⟨bt, 0, none⟩)] w fun e w' => e = .returned (.tuple #[]) ∧ R w' by
    rw [hR] at hs; exact hs
  have HD := Lib.hid hd'
  clear hb hrow hat hc hB hS hx hT ho hd hd' hR
  go_enter Tryz.func79, Tryz.ntmps79
  go_wp2_with fail
  go_region_law (first | (go_simp; go_at_call 63; refine (HD.out _ rfl).mono ?_; rintro e w1 ⟨rfl, hr⟩; have HW := Lib.hid hr; clear hr))
  all_goals
    go_wp2
    first | go_end0 | (simp only [Exit.inBlock, Exit.then]; refine bodyPost_ret (results_none rfl _ _ _) rfl ?_) | refine bodyPost_ret (results_none rfl _ _ _) rfl ?_
    exact ⟨rfl, HW.out⟩
end

end Go.Proofs.YtpkieilmlnlpkaaGreat
