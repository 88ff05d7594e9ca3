/-
  The reference's Owned.
-/
import Derived.Test.YtfpfpeachmcfeaaDoorKnwN
namespace Go.Proofs.YtfpfpeachmcfeaaDoor
open Go.RowKit
set_option linter.unusedVariables false
set_option linter.unusedSimpArgs false
attribute [local go_sem ↓] Go.wp_at_zero Go.wp_at_succ
attribute [local go_sem ↓] store_fold alloc_fold load_fold slice_op_fold ten_zero_fold

/-- Numbers appended to a row of one's own. -/
theorem appN {base : Nat} {U : World} {v : Value} {l : List Nat} (ho : OwnN base U v l) (hb : base ≤ U.heap.size) {S : Nat → Prop} {A : Option Addr} {c n : Nat} {m : List Nat} (hx : RowAt S U A (numCells m)) (hn : n = m.length) (hl : l.length + m.length ≤ 1000000) :
    ∃ v3 w3, (Builtin.append_ #[26, 26] 26 #[v, .slice A n c]).run Tryd.prog U = .ok v3 w3 ∧ OwnN base w3 v3 (l ++ m) ∧ Mod (fun j => v.ownBlock = some j) U w3 := by
  subst hn
  obtain ⟨i0, hi, hz0, hz1, hz2⟩ := info_parts infoCN32
  obtain ⟨v3, w3, hrun, ho3, hg3, hb3⟩ := run_append_row (P := Tryd.prog) U base 26 26 22 i0 _ 1 4 Tryd.underlying26 hi hz0 hz1 hz2 rfl (by decide) v _ _ ho A m.length c (numCells m) hx (by rw [numCells_length, Nat.mul_one]) (numCells_one' _) (by unfold maxLen; omega) (by omega) hb
  refine ⟨v3, w3, hrun, ?_, Mod.grown (Mod.refl _ _) hg3 (fun q hq => .inr hq)⟩
  unfold OwnN
  rw [List.length_append, show numCells (l ++ m) = numCells l ++ numCells m from by simp [numCells]]
  exact ho3
set_option maxRecDepth 100000 in
set_option maxHeartbeats 2000000 in
theorem refOwned_ok {S : Nat → Prop} {w : World} (x : TV) (hx : x.Rows S w) (h1 : x.t.pool.length ≤ 100000) (h2 : x.t.statics.length ≤ 100000) :
    Calls Tryd.prog 11 #[.agg x.cells.toArray] w fun e w' => ∃ v, e = .returned v ∧ OwnN w.heap.size w' v (ownedN x.t) ∧ Mod No w w' := by
  obtain ⟨CX, hCX⟩ : ∃ CX, CX = x.cells.toArray := ⟨_, rfl⟩
  have hbox := box_ten CX (by rw [hCX]; rfl) w
  obtain ⟨W, hW⟩ : ∃ W, W = w.alloc (.cells CX 30) := ⟨_, rfl⟩
  have hbl : W.heap[w.heap.size]? = some (.cells CX 30 (0, 0)) := by rw [hW]; exact at10 w _
  have m1 : Mod No w W := by rw [hW]; exact (Mod.refl _ _).alloc _
  have hx1 := (hx.lt (S' := fun b => b < w.heap.size) (fun b hb _ => hb)).keeps (m1.keeps (fun _ _ _ f => f))
  obtain ⟨P, p, Q, q, R, r, e1, e2, e3, r1, r2, r3⟩ := hx1
  obtain ⟨n, hn⟩ : ∃ n, n = x.t.statics.length := ⟨_, rfl⟩
  obtain ⟨m, hm⟩ : ∃ m, m = x.t.pool.length := ⟨_, rfl⟩
  have c23 : W.cell? ⟨w.heap.size, 23, none⟩ = some (.slice P m p) := (blk_cell hbl 23).trans (by rw [hCX, hm, ← e1]; rfl)
  have c27 : W.cell? ⟨w.heap.size, 27, none⟩ = some (.slice Q n q) := (blk_cell hbl 27).trans (by rw [hCX, hn, ← e2]; rfl)
  have zW : w.heap.size < W.heap.size := lt_of_block hbl
  rw [← hCX]
  obtain ⟨g, hg⟩ : ∃ g, g = w.heap.size := ⟨_, rfl⟩
  have h0 : OwnN W.heap.size W (.slice none 0 0) [] := ⟨rfl, .inl ⟨rfl, rfl⟩⟩
  obtain ⟨v1, W1, hrun1, ho1, hm1⟩ := appN (c := p) h0 (Nat.le_refl _) r1 hm (by simp; omega)
  rw [List.nil_append] at ho1
  have hm1' : Mod No W W1 := hm1.mono (fun j f => by simp [Value.ownBlock] at f)
  have d27 := c27
  rw [← hg] at c23 d27 hbox
  have H := Lib.hid (And.intro r2 (And.intro m1 (And.intro hn (And.intro hm (And.intro ho1 (And.intro hm1' (And.intro h1 h2)))))))
  have HG := Lib.hid (And.intro hg zW)
  clear r1 r2 r3 m1 h1 h2 hbl hCX hx e1 e2 e3 hn hm ho1 hm1 hm1' h0 c27 zW
  go_enter Tryd.func11, Tryd.ntmps11
  go_upto_region 1 with fail
  rw [← hW]
  rw [← hg]
  clear hW hbox hg
  go_wp2_with (at_builtin; refine Lib.wpList_append_run _ (by rfl) _ _ _ _ (by rfl) _ _ (by rfl) (by rfl) _ _ hrun1 ?_)
  clear hrun1
  go_loopw [3, 4] (fun v i wr => ∃ k : Nat, i = .int .i64 k ∧ k ≤ n ∧ OwnN W.heap.size wr v (x.t.pool ++ (rights x.t.statics).take k) ∧ Mod No W wr) (fun _ i _ => n - (intOf i).toNat)
  case atStart => exact ⟨0, rfl, by omega, by simpa using H.out.2.2.2.2.1, H.out.2.2.2.2.2.1⟩
  case round =>
    obtain ⟨k, rfl, hk, ho, hmw⟩ := hrel
    have e27 := hmw.cell d27 (fun f => f)
    have hn1 : n ≤ 100000 := by have h3 := H.out.2.2.2.2.2.2.2; have h4 := H.out.2.2.1; omega
    have hlr : (rights x.t.statics).length = n := by rw [rights_len]; exact H.out.2.2.1.symm
    by_cases hkn : k < n
    · obtain ⟨y, hy⟩ : ∃ y, x.t.statics[k]? = some y := ⟨_, List.getElem?_eq_getElem (by have := H.out.2.2.1; omega)⟩
      obtain ⟨b, o, rfl, _, hblt, _, hc1⟩ := pr_at ((H.out.1.mono (S' := fun b => b < w.heap.size ∧ b < W.heap.size) (fun b hb hs => ⟨hs, hb⟩)).keeps (hmw.keeps (fun _ _ _ f => f))) hy
      have hbU : (wr.alloc (.cells #[.int .u32 (y.b : Int)] 22)).heap[wr.heap.size]? = some (.cells #[.int .u32 (y.b : Int)] 22 (0, 0)) := at10 wr _
      obtain ⟨v3, w3, hrun, ho3, hm3⟩ := appN (c := 1) (n := 1) (A := some ⟨wr.heap.size, 0, none⟩) (S := fun _ => True) (m := [y.b]) (ho.mod ((Mod.refl No wr).alloc (.cells #[.int .u32 (y.b : Int)] 22)) (fun _ _ f => f)) (by have := hmw.size; simp; omega) (.inr ⟨wr.heap.size, 0, rfl, trivial, fun j v hj => by rw [Nat.zero_add, blk_cell hbU j, ← hj]; simp [numCells]⟩) rfl
        (by have h3 := H.out.2.2.2.2.2.2.1; have h4 := H.out.2.2.2.2.2.2.2; have h5 := H.out.2.2.1; rw [List.length_append, List.length_take]; simp only [List.length_cons, List.length_nil]; omega)
      have hsn : x.t.pool ++ (rights x.t.statics).take (k + 1) = x.t.pool ++ (rights x.t.statics).take k ++ [y.b] := by
        have h1 : (rights x.t.statics)[k]? = some y.b := by unfold rights; rw [List.getElem?_map, hy]; rfl
        obtain ⟨hlt, e⟩ := List.getElem?_eq_some_iff.1 h1
        rw [List.take_succ_eq_append_getElem hlt, e, List.append_assoc]
      have hmf : Mod No W w3 := (hmw.alloc _).trans' hm3 (fun i hi hj => by have := (World.ownsRow.lt ho i hj).1; omega)
      have HF := Lib.hid (And.intro hsn (And.intro ho3 hmf))
      have p1 : (0:Int) ≤ k := by omega
      have p2 : (k:Int) < n := by omega
      clear hy hsn ho3 hmf hm3 ho hmw hbU d27
      go_wp2_with (at_builtin; refine Lib.wpList_append_run _ (by rfl) _ _ _ _ (by rfl) _ _ (by rfl) (by rfl) _ _ hrun ?_)
      exact ⟨⟨k + 1, by go_num, by omega, by rw [HF.out.1]; exact HF.out.2.1, HF.out.2.2⟩, by simp [intOf]; omega⟩
    · have hkn' : k = n := by omega
      subst hkn'
      rw [List.take_of_length_le (by omega)] at ho
      have HF := Lib.hid (And.intro ho hmw)
      clear ho hmw d27
      go_wp2
      go_ret
      exact ⟨_, rfl, HF.out.1.lower (by have := HG.out.2; omega), H.out.2.1.trans HF.out.2⟩

end Go.Proofs.YtfpfpeachmcfeaaDoor
