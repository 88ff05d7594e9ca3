/-
  sides: the two sides of pairs. owned, Owns, the reference's Owned and Owns.
-/
import Derived.Test.YtfpfpeachmcfeaaDoorVdC
import Derived.Deep.RegionHeld3
import Derived.Deep.DrawnRows
import Derived.Deep.RegionLaw
import Derived.Deep.AppendSrc
import Derived.BigQuiet
namespace Go.Proofs.YtfpfpeachmcfeaaDoor
open Go.RowKit
set_option linter.unusedVariables false
set_option linter.unusedSimpArgs false
attribute [local go_sem ↓] Go.wp_at_zero Go.wp_at_succ

/-! ### a list of numbers of one's own that grows -/
def OwnN (base : Nat) (w : World) (v : Value) (l : List Nat) : Prop := w.ownsRow base 22 1 v l.length (numCells l)
theorem numCells_snoc (l : List Nat) (x : Nat) : numCells (l ++ [x]) = numCells l ++ [.int .u32 (x : Int)] := by simp [numCells]
theorem step_append_num {w : World} {ops : Array Oper} {o : Oper} {a : Act} {K : Act → World → Prop} {Q : Exit → Act → World → Prop} {E : Prop} (hgd : o.guard = none) (s x : Operand)
    (ho : o.op = .call { callee := .builtin .append, args := #[s, x], argTypes := #[26, 26] }) (v : Value) (l : List Nat) (base : Nat) (hs : a.eval s = v) (hown : OwnN base w v l) (hl : l.length ≤ 1000000)
    (b c : Nat) (p : Nat) (hx : a.eval x = .slice (some ⟨b, 0, none⟩) 1 c) (hb : w.heap[b]? = some (.cells #[.int .u32 (p : Int)] 22 (0, 0))) (B0 : Nat) (hB0 : B0 ≤ w.heap.size) (hbase : base ≤ B0)
    (h : ∀ v' w', OwnN base w' v' (l ++ [p]) → w.grownBy w' v.ownBlock → (v'.ownBlock = v.ownBlock ∨ ∃ g, v'.ownBlock = some g ∧ B0 ≤ g) → K (a.put o.dst v') w') :
    if Region.wanted o (yielded ops a.tmps) = true then Oper.wp Tryd.prog o a w K Q else E := by
  obtain ⟨i0, hi, hz0, hz1, hz2⟩ := info_parts infoU32
  have hr : RowAt (fun _ => True) w (some ⟨b, 0, none⟩) [.int .u32 (p : Int)] := .inr ⟨b, 0, rfl, trivial, fun j u hj => by rw [Nat.zero_add]; exact (blk_cell hb j).trans (by simpa using hj)⟩
  obtain ⟨v', w', h1, h2, h3, h4⟩ := run_append_row (P := Tryd.prog) w base 26 o.type 22 i0 _ 1 4 Tryd.underlying26 hi hz0 hz1 hz2 rfl (by decide) v l.length (numCells l) hown (some ⟨b, 0, none⟩) 1 c [.int .u32 (p : Int)] hr rfl (by
    intro u hu
    simp only [List.mem_cons, List.not_mem_nil, or_false] at hu
    rw [hu]
    rfl) (by unfold maxLen; omega) (by omega) (Nat.le_trans hbase hB0)
  refine step_append_run hgd s x _ _ ho v _ hs hx v' w' h1 (h v' w' ?_ h3 (by rcases h4 with h4 | h4; exact .inl h4; exact .inr ⟨_, h4, hB0⟩))
  unfold OwnN
  rw [numCells_snoc, List.length_append]
  exact h2

theorem pr_at {Q : Nat → Prop} {w : World} {A : Option Addr} {l : List Pr} (h : RowAt Q w A (prCells l)) {k : Nat} {p : Pr} (hk : l[k]? = some p) :
    ∃ b o, A = some ⟨b, o, none⟩ ∧ Q b ∧ b < w.heap.size ∧ w.cell? ⟨b, o + k * 2, none⟩ = some (.int .u32 (p.a : Int)) ∧ w.cell? ⟨b, o + k * 2 + 1, none⟩ = some (.int .u32 (p.b : Int)) := by
  obtain ⟨b, o, e, hq, hlt, hc⟩ := h.elem Pr.cells 2 Pr.cells_length (by omega) hk
  exact ⟨b, o, e, hq, hlt, hc 0 _ rfl, hc 1 _ rfl⟩
theorem at20d (w : World) (a b : Obj) : ((w.alloc a).alloc b).drew.heap[w.heap.size]? = some a := at20 w a b
def lefts (l : List Pr) : List Nat := l.map Pr.a
def rights (l : List Pr) : List Nat := l.map Pr.b
theorem lefts_len (l : List Pr) : (lefts l).length = l.length := by simp [lefts]
theorem rights_len (l : List Pr) : (rights l).length = l.length := by simp [rights]
theorem OwnN.mod {F : Nat → Prop} {base : Nat} {w w' : World} {v : Value} {l : List Nat} (h : OwnN base w v l) (hm : Mod F w w') (hF : ∀ k, v.ownBlock = some k → ¬ F k) : OwnN base w' v l := own_mod h hm hF
/-- What sides gives: two lists of its own, apart. -/
def SidesP (l : List Pr) (w : World) : Ending → World → Prop := fun e w' => ∃ va vb, e = .returned (.tuple #[va, vb]) ∧ OwnN w.heap.size w' va (lefts l) ∧ OwnN w.heap.size w' vb (rights l) ∧ Mod No w w'
set_option maxRecDepth 100000 in
set_option maxHeartbeats 2000000 in
theorem sides_ok {Q : Nat → Prop} {w : World} {A : Option Addr} {c n : Nat} (l : List Pr) (hx : RowAt Q w A (prCells l)) (hn : n = l.length) (hl : l.length ≤ 1000000) :
    Calls Tryd.prog 37 #[.slice A n c] w (SidesP l w) := by
  obtain ⟨QQ, hQQ⟩ : ∃ QQ, QQ = SidesP l w := ⟨_, rfl⟩
  rw [← hQQ]
  have H := Lib.hid (And.intro hx (And.intro hn hQQ))
  rw [← hn] at hl
  clear hx hn hQQ
  go_enter Tryd.func37, Tryd.ntmps37
  go_wp2
  go_loopw [2, 3, 8] (fun va vb i wr => ∃ k : Nat, i = .int .i64 k ∧ k ≤ n ∧ OwnN w.heap.size wr va ((lefts l).take k) ∧ OwnN w.heap.size wr vb ((rights l).take k) ∧ (∀ b, va.ownBlock = some b → vb.ownBlock ≠ some b) ∧ Mod No w wr) (fun _ _ i _ => n - (intOf i).toNat)
  case atStart => exact ⟨0, rfl, by omega, ⟨by simp [numCells], .inl ⟨rfl, rfl⟩⟩, ⟨by simp [numCells], .inl ⟨rfl, rfl⟩⟩, by simp [Value.ownBlock], Mod.refl _ _⟩
  case round =>
    obtain ⟨k, rfl, hk, hoa, hob, hne, hm⟩ := hrel
    by_cases hkn : k < n
    · as_aux_lemma =>
      obtain ⟨p, hp⟩ : ∃ p, l[k]? = some p := ⟨_, List.getElem?_eq_getElem (by have := H.out.2.1; omega)⟩
      obtain ⟨b, o, rfl, _, hblt, hc0, hc1⟩ := pr_at (H.out.1.keeps (hm.keeps (fun _ _ _ f => f))) hp
      have HR := Lib.hid (And.intro hoa (And.intro hob (And.intro hne (And.intro hm hp))))
      have p1 : (0:Int) ≤ k := by omega
      have p2 : (k:Int) < n := by omega
      clear hoa hob hne hm hp
      go_upto_region 4 with fail
      refine grab_w fun W hW => ?_
      have mW : Mod No wr W := by rw [hW]; exact (Mod.refl _ _).alloc _
      have hbl : W.heap[wr.heap.size]? = some (.cells #[.int .u32 (p.a : Int), .int .u32 (p.b : Int)] 49 (0, 0)) := by rw [hW]; exact at10 _ _
      have q0 : W.cell? ⟨wr.heap.size, 0, none⟩ = some (.int .u32 (p.a : Int)) := (blk_cell hbl 0).trans rfl
      have q1 : W.cell? ⟨wr.heap.size, 1, none⟩ = some (.int .u32 (p.b : Int)) := (blk_cell hbl 1).trans rfl
      have HW := Lib.hid (And.intro mW hbl)
      have hold : ∀ w', Mod (fun j => u2.ownBlock = some j ∨ u3.ownBlock = some j) W w' → w'.cell? ⟨wr.heap.size, 0, none⟩ = some (.int .u32 (p.a : Int)) ∧ w'.cell? ⟨wr.heap.size, 1, none⟩ = some (.int .u32 (p.b : Int)) := fun w' hw' => by
        have hnf : ¬ (u2.ownBlock = some wr.heap.size ∨ u3.ownBlock = some wr.heap.size) := by
          rintro (f | f)
          · have := (HR.out.1.lt _ f).2; omega
          · have := (HR.out.2.1.lt _ f).2; omega
        exact ⟨hw'.cell q0 hnf, hw'.cell q1 hnf⟩
      have HO := Lib.hid hold
      clear hW mW hbl hc0 hc1 hold
      have HNE := Lib.hid (show ¬ u2.ownBlock = some W.heap.size ∧ ¬ u2.ownBlock = some (W.heap.size + 1) from ⟨fun f => by have h1 := (HR.out.1.lt _ f).2; have h2 := HW.out.1.size; omega, fun f => by have h1 := (HR.out.1.lt _ f).2; have h2 := HW.out.1.size; omega⟩)
      go_region_held3 (fun w' => w'.cell? ⟨wr.heap.size, 0, none⟩ = some (.int .u32 (p.a : Int)) ∧ w'.cell? ⟨wr.heap.size, 1, none⟩ = some (.int .u32 (p.b : Int)))
        ((refine HO.out _ ?_; repeat (first | with_reducible exact Mod.refl _ _ | refine Mod.alloc ?_ _ | refine Mod.drew ?_ | with_reducible exact zb' | with_reducible exact za')))
        (first
        | (refine step_append_num (by rfl) _ _ (by rfl) u2 ((lefts l).take k) w.heap.size (by rfl) (OwnN.mod HR.out.1 (F := No) (HW.out.1.trans (by (repeat (first | with_reducible exact Mod.refl _ _ | refine Mod.alloc ?_ _ | refine Mod.drew ?_)))) (fun _ _ f => f)) (by have h1 := H.out.2.1; have h2 := lefts_len l; have h3 := rights_len l; rw [List.length_take]; omega) _ _ p.a (by rfl) (by first | exact at10d _ _ | exact at10 _ _ | exact at20 W _ _ | exact at20d W _ _ | exact at21 W _ _ | exact at21d W _ _) W.heap.size (Mod.size (F := No) (by (repeat (first | with_reducible exact Mod.refl _ _ | refine Mod.alloc ?_ _ | refine Mod.drew ?_)))) (Nat.le_trans HR.out.2.2.2.1.size HW.out.1.size) ?_; rintro va wa oa ga ea; have hmA := Mod.grown (F := fun j => u2.ownBlock = some j) (Mod.refl _ _) ga (fun _ hk => .inr hk); have za : Mod (fun j => u2.ownBlock = some j) W wa := Mod.trans (by (repeat (first | with_reducible exact Mod.refl _ _ | refine Mod.alloc ?_ _ | refine Mod.drew ?_))) hmA; have za' : Mod (fun j => u2.ownBlock = some j ∨ u3.ownBlock = some j) W wa := za.mono (fun _ f => .inl f))
        | (refine step_append_num (by rfl) _ _ (by rfl) u3 ((rights l).take k) w.heap.size (by rfl) (OwnN.mod HR.out.2.1 (F := fun j => u2.ownBlock = some j) ((HW.out.1.mono (fun _ f => f.elim)).trans (za.trans (by (repeat (first | with_reducible exact Mod.refl _ _ | refine Mod.alloc ?_ _ | refine Mod.drew ?_))))) (fun j hj f => HR.out.2.2.1 j f hj)) (by have h1 := H.out.2.1; have h2 := lefts_len l; have h3 := rights_len l; rw [List.length_take]; omega) _ _ p.b (by rfl) (by first | exact at10d _ _ | exact at10 _ _ | exact hmA.obj (at20 W _ _) HNE.out.1 | exact hmA.obj (at20d W _ _) HNE.out.1 | exact hmA.obj (at21 W _ _) HNE.out.2 | exact hmA.obj (at21d W _ _) HNE.out.2) wa.heap.size (Mod.size (F := No) (by (repeat (first | with_reducible exact Mod.refl _ _ | refine Mod.alloc ?_ _ | refine Mod.drew ?_)))) (Nat.le_trans HR.out.2.2.2.1.size (Nat.le_trans HW.out.1.size za.size)) ?_; rintro vb wb ob gb eb; have zb : Mod (fun j => u3.ownBlock = some j) wa wb := Mod.grown (by (repeat (first | with_reducible exact Mod.refl _ _ | refine Mod.alloc ?_ _ | refine Mod.drew ?_))) gb (fun _ hk => .inr hk); have zb' : Mod (fun j => u2.ownBlock = some j ∨ u3.ownBlock = some j) W wb := za'.trans (zb.mono (fun _ f => .inr f))))
      all_goals
        go_wp2
        have hR := HR.out
        have htk : (lefts l).take (k + 1) = (lefts l).take k ++ [p.a] := by
          have h1 : (lefts l)[k]? = some p.a := by unfold lefts; rw [List.getElem?_map, hR.2.2.2.2]; rfl
          obtain ⟨hlt, e⟩ := List.getElem?_eq_some_iff.1 h1
          rw [List.take_succ_eq_append_getElem hlt, e]
        have htk2 : (rights l).take (k + 1) = (rights l).take k ++ [p.b] := by
          have h1 : (rights l)[k]? = some p.b := by unfold rights; rw [List.getElem?_map, hR.2.2.2.2]; rfl
          obtain ⟨hlt, e⟩ := List.getElem?_eq_some_iff.1 h1
          rw [List.take_succ_eq_append_getElem hlt, e]
        refine ⟨⟨k + 1, by go_num, by omega, ?_, ?_, ?_, ?_⟩, by simp [intOf]; omega⟩
        · rw [htk]
          refine oa.mod zb (fun j hj f => ?_)
          rcases ea with ea | ⟨g, ea, hg⟩
          · rw [ea] at hj; exact hR.2.2.1 j hj f
          · rw [ea] at hj
            cases hj
            have h1 := (hR.2.1.lt _ f).2
            have h2 := HW.out.1.size
            omega
        · rw [htk2]; exact ob
        · intro j hj f
          have h2 := HW.out.1.size
          have h3 := (oa.lt _ hj).2
          rcases eb with eb | ⟨g', eb, hg'⟩
          · rw [eb] at f
            rcases ea with ea | ⟨g, ea, hg⟩
            · rw [ea] at hj; exact hR.2.2.1 j hj f
            · rw [ea] at hj
              cases hj
              have h1 := (hR.2.1.lt _ f).2
              omega
          · rw [eb] at f
            cases f
            omega
        · have h1 := (hR.2.2.2.1.trans HW.out.1).trans' za (fun i hi f => by have := (hR.1.lt _ f).1; omega)
          exact h1.trans' zb (fun i hi f => by have := (hR.2.1.lt _ f).1; omega)
    · as_aux_lemma =>
      have hkn' : k = n := by omega
      subst hkn'
      have HR := Lib.hid (And.intro hoa (And.intro hob (And.intro hne hm)))
      clear hoa hob hne hm
      go_wp2
      rw [H.out.2.2]
      have hlen := H.out.2.1
      have h1 := HR.out.1
      have h2 := HR.out.2.1
      rw [List.take_of_length_le (by rw [lefts_len]; omega)] at h1
      rw [List.take_of_length_le (by rw [rights_len]; omega)] at h2
      exact ⟨_, _, rfl, h1, h2, HR.out.2.2.2⟩

end Go.Proofs.YtfpfpeachmcfeaaDoor
