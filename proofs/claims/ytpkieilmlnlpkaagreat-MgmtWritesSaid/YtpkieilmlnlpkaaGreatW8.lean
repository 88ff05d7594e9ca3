/-
  LawE, LawG, LawB, RrH, RrI, LawR, MgA, MgB, MgC, MgF, MgH, MgD, MgG in one text (pack.py).
-/
import Derived.Test.YtpkieilmlnlpkaaGreatW7
namespace Go.Proofs.YtpkieilmlnlpkaaGreat

section
attribute [local go_sem] stPair gtPair gtK8 gtM6 run_store_func
attribute [local go_sem high] neqPair eqK8 eqM6
attribute [local go_sem ↓] load_fold store_fold alloc_fold slice_op_fold con_load_fold chg_load_fold ten_zero_fold con_alloc_fold con_store_fold con_zero_fold chg_alloc_fold chg_store_fold chg_zero_fold chg_put_fold chg_make_fold
open Go.RowKit
set_option linter.unusedVariables false
theorem TV.Rows.size {S : Nat → Prop} {w : World} {x : TV} (h : x.Rows S w) : x.cells.toArray.size = 33 := rfl
/-- Tenants' values: each with rows that are there. -/
def TVl (S : Nat → Prop) (w : World) (A : Option Addr) (l : List TV) : Prop := RowAt S w A (tvCells l) ∧ ∀ x ∈ l, x.Rows S w
theorem TVl.keeps {S : Nat → Prop} {w w' : World} {A : Option Addr} {l : List TV} (h : TVl S w A l) (hk : Keeps S w w') : TVl S w' A l := ⟨h.1.keeps hk, fun x hx => (h.2 x hx).keeps hk⟩
theorem TVl.nil (S : Nat → Prop) (w : World) (A : Option Addr) : TVl S w A [] := ⟨.nil _ _ _, by simp⟩
set_option maxRecDepth 100000 in
theorem tenants_same {S S' : Nat → Prop} {w : World} {A B : Option Addr} {n c d : Nat} {l l' : List TV} (hA : TVl S w A l) (hB : TVl S' w B l') (hn : n = l.length) (he : l.map (·.t) = l'.map (·.t)) (hl : ∀ x ∈ l', x.t.pool.length ≤ 300 ∧ x.t.statics.length ≤ 300 ∧ x.t.twices.length ≤ 300) (h63 : n ≤ 9223372036854775807) :
    Calls Tryz.prog 50 #[.slice A n c, .slice B n d] w fun e w' => e = .returned (.bool true) ∧ Mod No w w' := by
  have hlen : l'.length = l.length := by have := congrArg List.length he; simpa using this.symm
  have H0 := Lib.hid (And.intro hA (And.intro hB (And.intro hn (And.intro he (And.intro hl hlen)))))
  have hne : ((n : Int) != n) = false := by simp
  clear hA hB hn he hl hlen
  go_enter Tryz.func50, Tryz.ntmps50
  go_wp2
  go_loopw [5] (fun i wr => ∃ j : Nat, i = .int .i64 j ∧ j ≤ n ∧ Mod No w wr) (fun i _ => n - (intOf i).toNat)
  case atStart => exact ⟨0, rfl, by omega, Mod.refl _ _⟩
  case round =>
    obtain ⟨j, rfl, hj, hmw⟩ := hrel
    have HM := Lib.hid hmw
    clear hmw
    by_cases hlt : j < n
    · obtain ⟨x, hx⟩ : ∃ x, l[j]? = some x := ⟨_, List.getElem?_eq_getElem (by have := H0.out.2.2.1; omega)⟩
      obtain ⟨y, hy⟩ : ∃ y, l'[j]? = some y := ⟨_, List.getElem?_eq_getElem (by have := H0.out.2.2.1; have := H0.out.2.2.2.2.2; omega)⟩
      have hxy : x.t = y.t := by
        have h1 := congrArg (fun m => m[j]?) H0.out.2.2.2.1
        simpa [hx, hy] using h1
      have kA := H0.out.1.keeps (HM.out.keeps (fun _ _ _ f => f))
      have kB := H0.out.2.1.keeps (HM.out.keeps (fun _ _ _ f => f))
      obtain ⟨b, o, rfl, _, _, hx0⟩ := kA.1.elem TV.cells 33 TV.len (by omega) hx
      obtain ⟨b', o', rfl, _, _, hy0⟩ := kB.1.elem TV.cells 33 TV.len (by omega) hy
      have hkd : ∀ S, Keeps S wr wr.drew := fun S => (Mod.refl No _).drew.keeps (fun _ _ _ f => f)
      have hld1 := tenLoad_mid wr.drew b (o + j * 33) x.cells rfl (fun i v hi => (Mod.refl No wr).drew.cell (hx0 i v hi) id)
      have hld2 := tenLoad_mid wr.drew b' (o' + j * 33) y.cells rfl (fun i v hi => (Mod.refl No wr).drew.cell (hy0 i v hi) id)
      have hly := H0.out.2.2.2.2.1 y (List.mem_of_getElem? hy)
      have hs := (tenant_same (w := wr.drew) ((kA.2 x (List.mem_of_getElem? hx)).keeps (hkd _)) ((kB.2 y (List.mem_of_getElem? hy)).keeps (hkd _)) hxy hly.1 hly.2.1 hly.2.2)
      obtain ⟨TX, hTX⟩ : ∃ TX, TX = x.cells.toArray := ⟨_, rfl⟩
      obtain ⟨TY, hTY⟩ : ∃ TY, TY = y.cells.toArray := ⟨_, rfl⟩
      rw [← hTX] at hld1 hs
      rw [← hTY] at hld2 hs
      have HS := Lib.hid hs
      have p1 : (0:Int) ≤ j := by omega
      have p2 : (j:Int) < n := by omega
      clear hx hy hxy kA kB hx0 hy0 hkd hly hs hTX hTY
      go_wp2_with fail
      go_region_law (first | (go_simp; go_at_call 49; refine HS.out.mono ?_; rintro e w9 ⟨rfl, m9⟩; have H9 := Lib.hid m9; clear m9))
      all_goals
        go_wp2
        exact ⟨⟨j + 1, by go_num, by omega, (HM.out.drew).trans H9.out⟩, by simp [intOf]; omega⟩
    · obtain rfl : n = j := by omega
      go_wp2
      go_ret
      exact ⟨rfl, HM.out⟩
set_option maxRecDepth 100000 in
set_option maxHeartbeats 2000000 in
theorem config_same {S S' : Nat → Prop} {w : World} (c : Con) {A B : Option Addr} {n p q : Nat} {l l' : List TV} (hA : TVl S w A l) (hB : TVl S' w B l') (hn : n = l.length) (he : l.map (·.t) = l'.map (·.t)) (hl : ∀ x ∈ l', x.t.pool.length ≤ 300 ∧ x.t.statics.length ≤ 300 ∧ x.t.twices.length ≤ 300) (h63 : n ≤ 9223372036854775807) :
    Calls Tryz.prog 24 #[.agg (c.cells (.slice A n p)), .agg (c.cells (.slice B n q))] w fun e w' => e = .returned (.bool true) ∧ Mod No w w' := by
  obtain ⟨CA, hCA⟩ : ∃ CA, CA = c.cells (.slice A n p) := ⟨_, rfl⟩
  obtain ⟨CB, hCB⟩ : ∃ CB, CB = c.cells (.slice B n q) := ⟨_, rfl⟩
  have bA := box_con CA (by rw [hCA]; rfl)
  have bB := box_con CB (by rw [hCB]; rfl)
  rw [← hCA, ← hCB]
  obtain ⟨w0, hw0⟩ : ∃ w0, w0 = (w.alloc (.cells CA 36)).alloc (.cells CB 36) := ⟨_, rfl⟩
  have hm0 : Mod No w w0 := by rw [hw0]; exact ((Mod.refl _ _).alloc _).alloc _
  have h1 : w0.heap[w.heap.size]? = some (.cells CA 36 (0, 0)) := by rw [hw0]; exact at20 w _ _
  have h2 : w0.heap[w.heap.size + 1]? = some (.cells CB 36 (0, 0)) := by rw [hw0]; exact at21 w _ _
  have a0 : w0.cell? ⟨w.heap.size, 0, none⟩ = some (.int .u32 (c.ip : Int)) := by rw [blk_cell h1, hCA]; rfl
  have b0 : w0.cell? ⟨w.heap.size + 1, 0, none⟩ = some (.int .u32 (c.ip : Int)) := by rw [blk_cell h2, hCB]; rfl
  have a1 : w0.cell? ⟨w.heap.size, 1, none⟩ = some (.int .u8 (c.mac.b0.toNat : Int)) := by rw [blk_cell h1, hCA]; rfl
  have b1 : w0.cell? ⟨w.heap.size + 1, 1, none⟩ = some (.int .u8 (c.mac.b0.toNat : Int)) := by rw [blk_cell h2, hCB]; rfl
  have a2 : w0.cell? ⟨w.heap.size, 2, none⟩ = some (.int .u8 (c.mac.b1.toNat : Int)) := by rw [blk_cell h1, hCA]; rfl
  have b2 : w0.cell? ⟨w.heap.size + 1, 2, none⟩ = some (.int .u8 (c.mac.b1.toNat : Int)) := by rw [blk_cell h2, hCB]; rfl
  have a3 : w0.cell? ⟨w.heap.size, 3, none⟩ = some (.int .u8 (c.mac.b2.toNat : Int)) := by rw [blk_cell h1, hCA]; rfl
  have b3 : w0.cell? ⟨w.heap.size + 1, 3, none⟩ = some (.int .u8 (c.mac.b2.toNat : Int)) := by rw [blk_cell h2, hCB]; rfl
  have a4 : w0.cell? ⟨w.heap.size, 4, none⟩ = some (.int .u8 (c.mac.b3.toNat : Int)) := by rw [blk_cell h1, hCA]; rfl
  have b4 : w0.cell? ⟨w.heap.size + 1, 4, none⟩ = some (.int .u8 (c.mac.b3.toNat : Int)) := by rw [blk_cell h2, hCB]; rfl
  have a5 : w0.cell? ⟨w.heap.size, 5, none⟩ = some (.int .u8 (c.mac.b4.toNat : Int)) := by rw [blk_cell h1, hCA]; rfl
  have b5 : w0.cell? ⟨w.heap.size + 1, 5, none⟩ = some (.int .u8 (c.mac.b4.toNat : Int)) := by rw [blk_cell h2, hCB]; rfl
  have a6 : w0.cell? ⟨w.heap.size, 6, none⟩ = some (.int .u8 (c.mac.b5.toNat : Int)) := by rw [blk_cell h1, hCA]; rfl
  have b6 : w0.cell? ⟨w.heap.size + 1, 6, none⟩ = some (.int .u8 (c.mac.b5.toNat : Int)) := by rw [blk_cell h2, hCB]; rfl
  have a7 : w0.cell? ⟨w.heap.size, 7, none⟩ = some (.int .u8 (c.omac.b0.toNat : Int)) := by rw [blk_cell h1, hCA]; rfl
  have b7 : w0.cell? ⟨w.heap.size + 1, 7, none⟩ = some (.int .u8 (c.omac.b0.toNat : Int)) := by rw [blk_cell h2, hCB]; rfl
  have a8 : w0.cell? ⟨w.heap.size, 8, none⟩ = some (.int .u8 (c.omac.b1.toNat : Int)) := by rw [blk_cell h1, hCA]; rfl
  have b8 : w0.cell? ⟨w.heap.size + 1, 8, none⟩ = some (.int .u8 (c.omac.b1.toNat : Int)) := by rw [blk_cell h2, hCB]; rfl
  have a9 : w0.cell? ⟨w.heap.size, 9, none⟩ = some (.int .u8 (c.omac.b2.toNat : Int)) := by rw [blk_cell h1, hCA]; rfl
  have b9 : w0.cell? ⟨w.heap.size + 1, 9, none⟩ = some (.int .u8 (c.omac.b2.toNat : Int)) := by rw [blk_cell h2, hCB]; rfl
  have a10 : w0.cell? ⟨w.heap.size, 10, none⟩ = some (.int .u8 (c.omac.b3.toNat : Int)) := by rw [blk_cell h1, hCA]; rfl
  have b10 : w0.cell? ⟨w.heap.size + 1, 10, none⟩ = some (.int .u8 (c.omac.b3.toNat : Int)) := by rw [blk_cell h2, hCB]; rfl
  have a11 : w0.cell? ⟨w.heap.size, 11, none⟩ = some (.int .u8 (c.omac.b4.toNat : Int)) := by rw [blk_cell h1, hCA]; rfl
  have b11 : w0.cell? ⟨w.heap.size + 1, 11, none⟩ = some (.int .u8 (c.omac.b4.toNat : Int)) := by rw [blk_cell h2, hCB]; rfl
  have a12 : w0.cell? ⟨w.heap.size, 12, none⟩ = some (.int .u8 (c.omac.b5.toNat : Int)) := by rw [blk_cell h1, hCA]; rfl
  have b12 : w0.cell? ⟨w.heap.size + 1, 12, none⟩ = some (.int .u8 (c.omac.b5.toNat : Int)) := by rw [blk_cell h2, hCB]; rfl
  have a13 : w0.cell? ⟨w.heap.size, 13, none⟩ = some (.int .u8 (c.nmac.b0.toNat : Int)) := by rw [blk_cell h1, hCA]; rfl
  have b13 : w0.cell? ⟨w.heap.size + 1, 13, none⟩ = some (.int .u8 (c.nmac.b0.toNat : Int)) := by rw [blk_cell h2, hCB]; rfl
  have a14 : w0.cell? ⟨w.heap.size, 14, none⟩ = some (.int .u8 (c.nmac.b1.toNat : Int)) := by rw [blk_cell h1, hCA]; rfl
  have b14 : w0.cell? ⟨w.heap.size + 1, 14, none⟩ = some (.int .u8 (c.nmac.b1.toNat : Int)) := by rw [blk_cell h2, hCB]; rfl
  have a15 : w0.cell? ⟨w.heap.size, 15, none⟩ = some (.int .u8 (c.nmac.b2.toNat : Int)) := by rw [blk_cell h1, hCA]; rfl
  have b15 : w0.cell? ⟨w.heap.size + 1, 15, none⟩ = some (.int .u8 (c.nmac.b2.toNat : Int)) := by rw [blk_cell h2, hCB]; rfl
  have a16 : w0.cell? ⟨w.heap.size, 16, none⟩ = some (.int .u8 (c.nmac.b3.toNat : Int)) := by rw [blk_cell h1, hCA]; rfl
  have b16 : w0.cell? ⟨w.heap.size + 1, 16, none⟩ = some (.int .u8 (c.nmac.b3.toNat : Int)) := by rw [blk_cell h2, hCB]; rfl
  have a17 : w0.cell? ⟨w.heap.size, 17, none⟩ = some (.int .u8 (c.nmac.b4.toNat : Int)) := by rw [blk_cell h1, hCA]; rfl
  have b17 : w0.cell? ⟨w.heap.size + 1, 17, none⟩ = some (.int .u8 (c.nmac.b4.toNat : Int)) := by rw [blk_cell h2, hCB]; rfl
  have a18 : w0.cell? ⟨w.heap.size, 18, none⟩ = some (.int .u8 (c.nmac.b5.toNat : Int)) := by rw [blk_cell h1, hCA]; rfl
  have b18 : w0.cell? ⟨w.heap.size + 1, 18, none⟩ = some (.int .u8 (c.nmac.b5.toNat : Int)) := by rw [blk_cell h2, hCB]; rfl
  have a19 : w0.cell? ⟨w.heap.size, 19, none⟩ = some (.int .u8 (c.key.b0.toNat : Int)) := by rw [blk_cell h1, hCA]; rfl
  have b19 : w0.cell? ⟨w.heap.size + 1, 19, none⟩ = some (.int .u8 (c.key.b0.toNat : Int)) := by rw [blk_cell h2, hCB]; rfl
  have a20 : w0.cell? ⟨w.heap.size, 20, none⟩ = some (.int .u8 (c.key.b1.toNat : Int)) := by rw [blk_cell h1, hCA]; rfl
  have b20 : w0.cell? ⟨w.heap.size + 1, 20, none⟩ = some (.int .u8 (c.key.b1.toNat : Int)) := by rw [blk_cell h2, hCB]; rfl
  have a21 : w0.cell? ⟨w.heap.size, 21, none⟩ = some (.int .u8 (c.key.b2.toNat : Int)) := by rw [blk_cell h1, hCA]; rfl
  have b21 : w0.cell? ⟨w.heap.size + 1, 21, none⟩ = some (.int .u8 (c.key.b2.toNat : Int)) := by rw [blk_cell h2, hCB]; rfl
  have a22 : w0.cell? ⟨w.heap.size, 22, none⟩ = some (.int .u8 (c.key.b3.toNat : Int)) := by rw [blk_cell h1, hCA]; rfl
  have b22 : w0.cell? ⟨w.heap.size + 1, 22, none⟩ = some (.int .u8 (c.key.b3.toNat : Int)) := by rw [blk_cell h2, hCB]; rfl
  have a23 : w0.cell? ⟨w.heap.size, 23, none⟩ = some (.int .u8 (c.key.b4.toNat : Int)) := by rw [blk_cell h1, hCA]; rfl
  have b23 : w0.cell? ⟨w.heap.size + 1, 23, none⟩ = some (.int .u8 (c.key.b4.toNat : Int)) := by rw [blk_cell h2, hCB]; rfl
  have a24 : w0.cell? ⟨w.heap.size, 24, none⟩ = some (.int .u8 (c.key.b5.toNat : Int)) := by rw [blk_cell h1, hCA]; rfl
  have b24 : w0.cell? ⟨w.heap.size + 1, 24, none⟩ = some (.int .u8 (c.key.b5.toNat : Int)) := by rw [blk_cell h2, hCB]; rfl
  have a25 : w0.cell? ⟨w.heap.size, 25, none⟩ = some (.int .u8 (c.key.b6.toNat : Int)) := by rw [blk_cell h1, hCA]; rfl
  have b25 : w0.cell? ⟨w.heap.size + 1, 25, none⟩ = some (.int .u8 (c.key.b6.toNat : Int)) := by rw [blk_cell h2, hCB]; rfl
  have a26 : w0.cell? ⟨w.heap.size, 26, none⟩ = some (.int .u8 (c.key.b7.toNat : Int)) := by rw [blk_cell h1, hCA]; rfl
  have b26 : w0.cell? ⟨w.heap.size + 1, 26, none⟩ = some (.int .u8 (c.key.b7.toNat : Int)) := by rw [blk_cell h2, hCB]; rfl
  have a27 : w0.cell? ⟨w.heap.size, 27, none⟩ = some (.int .u32 (c.drain : Int)) := by rw [blk_cell h1, hCA]; rfl
  have b27 : w0.cell? ⟨w.heap.size + 1, 27, none⟩ = some (.int .u32 (c.drain : Int)) := by rw [blk_cell h2, hCB]; rfl
  have a28 : w0.cell? ⟨w.heap.size, 28, none⟩ = some (.slice A n p) := by rw [blk_cell h1, hCA]; rfl
  have b28 : w0.cell? ⟨w.heap.size + 1, 28, none⟩ = some (.slice B n q) := by rw [blk_cell h2, hCB]; rfl
  have hT := tenants_same (w := w0) (c := p) (d := q) (hA.keeps (hm0.keeps (fun _ _ _ f => f))) (hB.keeps (hm0.keeps (fun _ _ _ f => f))) hn he hl h63
  have HT := Lib.hid hT
  have HM := Lib.hid hm0
  have HW := Lib.hid hw0
  clear hA hB hn he hl hT hm0 hw0 h1 h2 hCA hCB
  go_enter Tryz.func24, Tryz.ntmps24
  go_upto_region 1 with fail
  refine grab_world fun wg hwg => ?_
  rw [← HW.out] at hwg
  subst hwg
  clear HW
  go_wp2_with (first | (go_at_call 50; refine HT.out.mono ?_; rintro e w9 ⟨rfl, m9⟩; have H9 := Lib.hid m9; clear m9) | fail)
  go_ret
  exact ⟨rfl, HM.out.trans H9.out⟩
end

section
attribute [local go_sem] stPair gtPair gtK8 gtM6 run_store_func
attribute [local go_sem high] neqPair eqK8 eqM6
attribute [local go_sem ↓] load_fold store_fold alloc_fold slice_op_fold con_load_fold chg_load_fold ten_zero_fold con_alloc_fold con_store_fold con_zero_fold chg_alloc_fold chg_store_fold chg_zero_fold chg_put_fold chg_make_fold
open Go.RowKit
set_option linter.unusedVariables false
theorem infoChg : (Tryz.prog.info? 33).map (fun i => (i.zero, i.size)) = some (some (.agg zChg), 35) := by kernel_rfl
theorem list35' {α : Type} : ∀ (l : List α), l.length = 35 → ∃ c0 c1 c2 c3 c4 c5 c6 c7 c8 c9 c10 c11 c12 c13 c14 c15 c16 c17 c18 c19 c20 c21 c22 c23 c24 c25 c26 c27 c28 c29 c30 c31 c32 c33 c34, l = [c0, c1, c2, c3, c4, c5, c6, c7, c8, c9, c10, c11, c12, c13, c14, c15, c16, c17, c18, c19, c20, c21, c22, c23, c24, c25, c26, c27, c28, c29, c30, c31, c32, c33, c34]
  | c0 :: c1 :: c2 :: c3 :: c4 :: c5 :: c6 :: c7 :: c8 :: c9 :: c10 :: c11 :: c12 :: c13 :: c14 :: c15 :: c16 :: c17 :: c18 :: c19 :: c20 :: c21 :: c22 :: c23 :: c24 :: c25 :: c26 :: c27 :: c28 :: c29 :: c30 :: c31 :: c32 :: c33 :: c34 :: [], _ => ⟨c0, c1, c2, c3, c4, c5, c6, c7, c8, c9, c10, c11, c12, c13, c14, c15, c16, c17, c18, c19, c20, c21, c22, c23, c24, c25, c26, c27, c28, c29, c30, c31, c32, c33, c34, rfl⟩
set_option maxRecDepth 100000 in
theorem chg_build (CA : Array Value) (h : CA.size = 35) : ∀ W, (Instr.buildSlice 77 1 #[(0, .agg CA)]).run Tryz.prog W = .ok (.slice (some ⟨W.heap.size, 0, none⟩) 1 1) (W.alloc (.cells CA 33)) := by
  intro W
  have hi := infoChg
  cases hie : Tryz.prog.info? 33 with
  | none => rw [hie] at hi; simp at hi
  | some ie =>
    rw [hie] at hi
    simp only [Option.map_some, Option.some.injEq, Prod.mk.injEq] at hi
    refine Go.run_buildSlice W _ 33 1 _ CA ie _ Tryz.underlying77 hie hi.1 (by rw [hi.2]; decide) (by rw [hi.2]; decide) ?_
    rw [hi.2]
    obtain ⟨l⟩ := CA
    obtain ⟨c0, c1, c2, c3, c4, c5, c6, c7, c8, c9, c10, c11, c12, c13, c14, c15, c16, c17, c18, c19, c20, c21, c22, c23, c24, c25, c26, c27, c28, c29, c30, c31, c32, c33, c34, rfl⟩ := list35' l (by simpa using h)
    kernel_rfl
def chgSlice (v : Value) : Sem Value := Instr.buildSlice 77 1 #[(0, v)]
theorem chg_slice_fold (ρ : Operand → Value) (x : Operand) (dst : Option Tmp) (ty : TypeId) (pos : String) (after : Array Edge) (g : Option (Nat × Bool)) :
    execOp ρ { dst := dst, op := .buildSlice 77 1 #[(0, x)], type := ty, pos := pos, after := after, guard := g } = (do pure (Next.value (← chgSlice (ρ x))) : Sem Next) := by
  show (do pure (Next.value (← Instr.buildSlice 77 1 (#[(0, x)].map fun (i, x) => (i, ρ x)))) : Sem Next) = _
  have hm : (#[((0 : Nat), x)].map fun (i, x) => (i, ρ x)) = #[(0, ρ x)] := by simp
  rw [hm]
  rfl
attribute [local go_sem ↓] chg_slice_fold
theorem chgSlice_run (CA : Array Value) (h : CA.size = 35) : ∀ W : World, (chgSlice (.agg CA)).run Tryz.prog W = .ok (.slice (some ⟨W.heap.size, 0, none⟩) 1 1) (W.alloc (.cells CA 33)) := chg_build CA h
set_option maxRecDepth 100000 in
set_option maxHeartbeats 2000000 in
theorem changes_same {S S' : Nat → Prop} {w : World} (put : Bool) (name : List UInt8) {x y : TV} {g g' : Nat} (hg : w.heap[g]? = some (.cells (cChg put name x) 33 (0, 0))) (hg' : w.heap[g']? = some (.cells (cChg put name y) 33 (0, 0)))
    (hx : x.Rows S w) (hy : y.Rows S' w) (he : x.t = y.t) (hl : y.t.pool.length ≤ 300 ∧ y.t.statics.length ≤ 300 ∧ y.t.twices.length ≤ 300) :
    Calls Tryz.prog 23 #[.slice (some ⟨g, 0, none⟩) 1 1, .slice (some ⟨g', 0, none⟩) 1 1] w fun e w' => e = .returned (.bool true) ∧ Mod No w w' := by
  have H0 := Lib.hid (And.intro hg (And.intro hg' (And.intro hx (And.intro hy (And.intro he hl)))))
  clear hg hg' hx hy he hl
  go_enter Tryz.func23, Tryz.ntmps23
  go_wp2
  go_loopw [5] (fun i wr => ∃ j : Nat, i = .int .i64 j ∧ j ≤ 1 ∧ Mod No w wr) (fun i _ => 1 - (intOf i).toNat)
  case atStart => exact ⟨0, rfl, by omega, Mod.refl _ _⟩
  case round =>
    obtain ⟨j, rfl, hj, hmw⟩ := hrel
    have HM := Lib.hid hmw
    clear hmw
    by_cases hlt : j < 1
    · obtain rfl : j = 0 := by omega
      have b1 := HM.out.obj H0.out.1 id
      have b2 := HM.out.obj H0.out.2.1 id
      obtain ⟨sn, hsn⟩ : ∃ sn, sn = str name := ⟨_, rfl⟩
      obtain ⟨TX, hTX⟩ : ∃ TX, TX = x.cells.toArray := ⟨_, rfl⟩
      obtain ⟨TY, hTY⟩ : ∃ TY, TY = y.cells.toArray := ⟨_, rfl⟩
      have hS : ∀ W, Mod No wr W → W.cell? ⟨g, 0, none⟩ = some (.bool put) ∧ W.cell? ⟨g', 0, none⟩ = some (.bool put) ∧ W.cell? ⟨g, 1, none⟩ = some (.string sn) ∧ W.cell? ⟨g', 1, none⟩ = some (.string sn) ∧
          (tenLoad (.pointer (some ⟨g, 2, none⟩))).run Tryz.prog W = .ok (.agg TX) W ∧ (tenLoad (.pointer (some ⟨g', 2, none⟩))).run Tryz.prog W = .ok (.agg TY) W := fun W hW => by
        have b1 := hW.obj b1 id
        have b2 := hW.obj b2 id
        rw [hsn, hTX, hTY]
        exact ⟨(blk_cell b1 0).trans (cChg0 put name x), (blk_cell b2 0).trans (cChg0 put name y), (blk_cell b1 1).trans (cChg1 put name x), (blk_cell b2 1).trans (cChg1 put name y), chgTen_run b1, chgTen_run b2⟩
      have hs : ∀ W, Mod No wr W → Calls Tryz.prog 49 #[.agg TX, .agg TY] W fun e w' => e = .returned (.bool true) ∧ Mod No W w' := fun W hW => by
        have hkd : ∀ S, Keeps S w W := fun S => (HM.out.trans hW).keeps (fun _ _ _ f => f)
        rw [hTX, hTY]
        exact tenant_same (w := W) (H0.out.2.2.1.keeps (hkd _)) (H0.out.2.2.2.1.keeps (hkd _)) H0.out.2.2.2.2.1 H0.out.2.2.2.2.2.1 H0.out.2.2.2.2.2.2.1 H0.out.2.2.2.2.2.2.2
      have HS := Lib.hid hs
      have HSS := Lib.hid hS
      have q0 : (put == put) = true := by cases put <;> rfl
      have q1 : (put != put) = false := by cases put <;> rfl
      have q2 : (sn.toList != sn.toList) = false := by simp
      have q3 : (sn.toList == sn.toList) = true := by simp
      clear b1 b2 hs hTX hTY hS hsn
      go_wp2_with fail
      go_region_held3 (fun W => W.cell? ⟨g, 0, none⟩ = some (.bool put) ∧ W.cell? ⟨g', 0, none⟩ = some (.bool put) ∧ W.cell? ⟨g, 1, none⟩ = some (.string sn) ∧ W.cell? ⟨g', 1, none⟩ = some (.string sn) ∧
          (tenLoad (.pointer (some ⟨g, 2, none⟩))).run Tryz.prog W = .ok (.agg TX) W ∧ (tenLoad (.pointer (some ⟨g', 2, none⟩))).run Tryz.prog W = .ok (.agg TY) W)
        (exact HSS.out _ (by (repeat (first | with_reducible exact Mod.refl _ _ | with_reducible refine Mod.trans ?_ m9 | refine Mod.drew ?_))))
        (first
          | (go_at_call 49; refine (HS.out _ ?_).mono ?_; (repeat (first | with_reducible exact Mod.refl _ _ | refine Mod.drew ?_)); rintro e w9 ⟨rfl, m9⟩))
      all_goals
        go_wp2
        exact ⟨⟨1, by go_num, by omega, HM.out.trans (by (repeat (first | with_reducible exact Mod.refl _ _ | with_reducible refine Mod.trans ?_ m9 | refine Mod.drew ?_)))⟩, by simp [intOf]⟩
    · obtain rfl : j = 1 := by omega
      go_wp2
      go_ret
      exact ⟨rfl, HM.out⟩
end

section
attribute [local go_sem] stPair gtPair gtK8 gtM6 run_store_func
attribute [local go_sem high] neqPair eqK8 eqM6
attribute [local go_sem ↓] load_fold store_fold alloc_fold slice_op_fold con_load_fold chg_load_fold ten_zero_fold con_alloc_fold con_store_fold con_zero_fold chg_alloc_fold chg_store_fold chg_zero_fold chg_put_fold chg_make_fold chg_slice_fold
open Go.RowKit
set_option linter.unusedVariables false
/-- A tenant stored into the middle of a block that is known whole. -/
theorem tenStore_in {W : World} {b o : Nat} {cur CA : Array Value} {t : TypeId} (h : W.heap[b]? = some (.cells cur t (0, 0))) (ho : o + 33 ≤ cur.size) (hc : CA.size = 33) (h1 : CA.all (·.oneCell') = true) :
    (tenStore (.pointer (some ⟨b, o, none⟩)) (.agg CA)).run Tryz.prog W = .ok () (W.setRow b (cur.toList.take o ++ CA.toList ++ cur.toList.drop (o + 33)).toArray) := by
  have hl : CA.toList.length = 33 := by simpa using hc
  have := run_storeCells_at (P := Tryz.prog) b o t CA.toList 0 cur W h (by rw [hl]; omega) (fun v hv => (Array.all_eq_true_iff_forall_mem.1 h1) v (by simpa using hv))
  simp only [Nat.add_zero, hl] at this
  simp only [tenStore, Instr.storeAt, Instr.sureAddr, Sem.run_bind, Sem.run_pure, Result.andThen_ok]
  cases hq : Tryz.prog.info? 31 with
  | none => have := tenSize; simp [hq] at this
  | some i =>
    have hs : i.size = 33 := by have := tenSize; simpa [hq] using this
    simp [storeVar, sizeOf, typeInfo, hq, Value.cells, hs, hc, this]
theorem cChg_in (put : Bool) (name : List UInt8) (x y : TV) : (((cChg put name x).toList.take 2 ++ y.cells.toArray.toList ++ (cChg put name x).toList.drop (2 + 33)).toArray : Array Value) = cChg put name y := by
  have e : (cChg put name x).toList = [Value.bool put, .string (str name)] ++ x.cells := by simp [cChg]
  rw [e]
  have h1 : ([Value.bool put, .string (str name)] ++ x.cells).take 2 = [Value.bool put, .string (str name)] := by rw [List.take_append_of_le_length (by simp)]; rfl
  have h2 : ([Value.bool put, .string (str name)] ++ x.cells).drop (2 + 33) = [] := List.drop_of_length_le (by rw [List.length_append, TV.len]; simp)
  rw [h1, h2]
  simp [cChg]
theorem zero_ok : Ten.zero.Ok := ⟨by decide, by decide, by decide, by decide, by decide, by decide, (fun x hx => by cases hx), (fun x hx => by cases hx), (fun x hx => by cases hx)⟩
end

section
attribute [local go_sem] stPair gtPair gtK8 gtM6 run_store_func
attribute [local go_sem high] neqPair eqK8 eqM6
attribute [local go_sem ↓] load_fold store_fold alloc_fold slice_op_fold con_load_fold chg_load_fold ten_zero_fold con_alloc_fold con_store_fold con_zero_fold chg_alloc_fold chg_store_fold chg_zero_fold chg_put_fold macLoad_fold macStore_fold keyLoad_fold keyStore_fold chg_make_fold chg_slice_fold
open Go.RowKit
set_option linter.unusedVariables false
set_option linter.unusedSimpArgs false
abbrev ocNone : Bool × List UInt8 × Ten × Nat := (false, [], .zero, 70)
theorem rnum1_nil : rnum [] 1 (0, false) = (0, (0, true)) := rfl
theorem rnum1_cons (b : UInt8) (r : List UInt8) : rnum (b :: r) 1 (0, false) = (b.toNat, (1, false)) := by
  simp [rnum, rtake, beval]
theorem ocg_eq (B : List UInt8) : ocg B = if (rnum B 1 (0, false)).2.2 = true ∨ 1 < (rnum B 1 (0, false)).1 then ocNone else
    if (rnum B 1 (0, false)).1 = 1 then (if (rten B (rnum B 1 (0, false)).2).2 = (B.length, false) then (true, (rten B (rnum B 1 (0, false)).2).1.name, (rten B (rnum B 1 (0, false)).2).1, 0) else ocNone)
    else (if (rname B (rnum B 1 (0, false)).2).2 = (B.length, false) then (false, (rname B (rnum B 1 (0, false)).2).1, .zero, 0) else ocNone) := by
  cases B with
  | nil => rw [rnum1_nil, if_pos (Or.inl rfl)]; rfl
  | cons b r =>
    rw [rnum1_cons]
    by_cases h1 : 1 < b.toNat
    · rw [if_pos (Or.inr h1)]; simp [ocg, h1]
    · rw [if_neg (by simp; omega)]
      by_cases h2 : b = 1
      · subst h2
        simp only [ocg, if_neg h1, if_pos, List.length_cons]
        rfl
      · have hb0 : b = 0 := by
          apply UInt8.toNat_inj.1
          have : b.toNat ≠ 1 := fun e => h2 (UInt8.toNat_inj.1 e)
          simp; omega
        subst hb0
        simp only [ocg, if_neg h1, if_neg h2, List.length_cons]
        rfl
theorem zChg_c : zChg = cChg false [] TV.zero := rfl
set_option maxRecDepth 100000 in
set_option maxHeartbeats 4000000 in
theorem refOpenChange_ok {w : World} {A : Option Addr} {c : Nat} (B : List UInt8) (hrow : RowAt (fun b => b < w.heap.size) w A (bcells B)) (hc : B.length ≤ c) (hB : B.length ≤ 100000000) :
    Calls Tryz.prog 21 #[.slice A B.length c] w (OpenChgP (ocg B) w) := by
  obtain ⟨W, hW⟩ : ∃ W, W = ((w.alloc (.cells zChg 33)).alloc (.cells #[.slice A B.length c, .int .i64 0, .bool false] 92)).alloc (.cells zChg 33) := ⟨_, rfl⟩
  have hmW : Mod No w W := by rw [hW]; exact (((Mod.refl _ _).alloc _).alloc _).alloc _
  have hsz : W.heap.size = w.heap.size + 3 := by rw [hW]; simp
  have hX : W.heap[w.heap.size]? = some (.cells zChg 33 (0, 0)) := by rw [hW]; exact at30 w _ _ _
  have hC : W.heap[w.heap.size + 1]? = some (rrObj A B.length c 0 false) := by rw [hW]; exact at31 w _ _ _
  have hT : W.heap[w.heap.size + 2]? = some (.cells zChg 33 (0, 0)) := by rw [hW]; exact at32 w _ _ _
  have hrW := hrow.keeps (hmW.keeps (fun _ _ _ f => f))
  have HN := rr_n (w := W) (s := (0, false)) (S := fun b => b < w.heap.size) B hC hrW (Nat.zero_le _) hc hB 1 (by omega) (by omega)
  have hle := rnum_le B 1 (0, false) (Nat.zero_le _)
  have hog := ocg_eq B
  have hk8 := rnum_lt B 1 (0, false)
  obtain ⟨k, hk⟩ : ∃ k, k = (rnum B 1 (0, false)).1 := ⟨_, rfl⟩
  obtain ⟨s1, hs1⟩ : ∃ s1, s1 = (rnum B 1 (0, false)).2 := ⟨_, rfl⟩
  rw [← hk, ← hs1] at HN hog
  rw [← hs1] at hle
  rw [← hk] at hk8
  -- what the two readers do behind the first byte
  have hten : ∀ W1 : World, Mod (fun b => b = w.heap.size + 1) W W1 → W1.heap[w.heap.size + 1]? = some (rrObj A B.length c s1.1 s1.2) → Calls Tryz.prog 45 #[.pointer (some ⟨w.heap.size + 1, 0, none⟩)] W1 fun e w' => ∃ x : TV, e = .returned (.agg x.cells.toArray) ∧ x.t = (rten B s1).1 ∧ x.Rows (fun b => w.heap.size + 3 ≤ b) w' ∧ w'.heap[w.heap.size + 1]? = some (rrObj A B.length c (rten B s1).2.1 (rten B s1).2.2) ∧ Mod (fun b => b = w.heap.size + 1) W w' := by
    intro W1 hm h1
    have := hm.size
    refine (rr_tenant (S := fun b => b < w.heap.size) B h1 (hrW.keeps (hm.keeps (fun b _ hb f => by omega))) hle hc hB (by omega) (fun b hb => by omega)).mono ?_
    rintro e w' ⟨x, he, hx, hr, hb, hm'⟩
    exact ⟨x, he, hx, hr.imp (fun b hb => by omega), hb, hm.trans hm'⟩
  have hnam : ∀ W1 : World, Mod (fun b => b = w.heap.size + 1) W W1 → W1.heap[w.heap.size + 1]? = some (rrObj A B.length c s1.1 s1.2) → Calls Tryz.prog 46 #[.pointer (some ⟨w.heap.size + 1, 0, none⟩)] W1 fun e w' => e = .returned (.string (str (rname B s1).1)) ∧ w'.heap[w.heap.size + 1]? = some (rrObj A B.length c (rname B s1).2.1 (rname B s1).2.2) ∧ Mod (fun b => b = w.heap.size + 1) W w' := by
    intro W1 hm h1
    refine (rr_name (S := fun b => b < w.heap.size) B h1 (hrW.keeps (hm.keeps (fun b _ hb f => by omega))) hle hc hB (by omega)).mono ?_
    rintro e w' ⟨he, hb, hm'⟩
    exact ⟨he, hb, hm.trans hm'⟩
  obtain ⟨n0, hn0⟩ : ∃ n0, n0 = B.length := ⟨_, rfl⟩
  rw [← hn0] at hW HN hog hten hnam
  rw [← hn0]
  have HN := Lib.hid HN
  have HM := Lib.hid (And.intro hmW (And.intro hX (And.intro hsz hT)))
  have HW := Lib.hid hW
  have HTN := Lib.hid hten
  have HNM := Lib.hid hnam
  have HOG := Lib.hid hog
  have hal := chgAlloc_run
  have hzr := chgZero_run
  clear hmW hX hC hW hT hrow hc hB hn0 hsz hten hnam hog hrW hle hs1 hk
  go_enter Tryz.func21, Tryz.ntmps21
  go_upto_region 5 with (first | (go_at_call 44; (first | rw [← HW.out] | skip); refine HN.out.mono ?_; rintro e w1 ⟨rfl, k1, m1⟩; have H1 := Lib.hid (And.intro k1 m1); clear k1 m1) | fail)
  obtain ⟨at1, sh1⟩ := s1
  have d2 : w1.cell? ⟨w.heap.size + 1, 2, none⟩ = some (.bool sh1) := (blk_cell H1.out.1 2).trans rfl
  have hX1 : w1.heap[w.heap.size]? = some (.cells zChg 33 (0, 0)) := H1.out.2.obj HM.out.2.1 (by omega)
  have hT1 : w1.heap[w.heap.size + 2]? = some (.cells zChg 33 (0, 0)) := H1.out.2.obj HM.out.2.2.2 (by omega)
  have hm1 : Mod No w w1 := HM.out.1.trans' H1.out.2 (fun i hi f => by omega)
  have HB1 := Lib.hid (And.intro hX1 (And.intro hT1 hm1))
  clear hX1 hT1 hm1
  by_cases hbd : sh1 = true ∨ 1 < k
  · have hbad : ocg B = ocNone := by rw [HOG.out, if_pos hbd]
    have hor : sh1 = true ∨ sh1 = false ∧ (1 : Int) < (k : Int) := by
      cases sh1
      · exact .inr ⟨rfl, by rcases hbd with f | f; simp at f; omega⟩
      · exact .inl rfl
    clear hbd
    rcases hor with rfl | ⟨rfl, h1k⟩
    · have hst := chgStore_row (CA := zChg) HB1.out.1 zSize zSize zOne
      have hres := setRow_heap w1 w.heap.size _ zChg _ _ HB1.out.1
      have HBAD := Lib.hid hbad
      have HRS := Lib.hid hres
      clear hbad hres
      go_wp2
      refine bodyPost_ret (results_cell_tmp rfl _ _ w.heap.size 33 zChg (0, 0) _ rfl HRS.out Tryz.underlying33 rfl (by rw [chgSize, zSize])) rfl ?_
      rw [HBAD.out]
      exact openChg_none rfl (HB1.out.2.2.trans' (setRow_mod zChg) (fun i hi f => by omega))
    · have hst := chgStore_row (CA := zChg) HB1.out.1 zSize zSize zOne
      have hres := setRow_heap w1 w.heap.size _ zChg _ _ HB1.out.1
      have HBAD := Lib.hid hbad
      have HRS := Lib.hid hres
      clear hbad hres
      go_wp2
      refine bodyPost_ret (results_cell_tmp rfl _ _ w.heap.size 33 zChg (0, 0) _ rfl HRS.out Tryz.underlying33 rfl (by rw [chgSize, zSize])) rfl ?_
      rw [HBAD.out]
      exact openChg_none rfl (HB1.out.2.2.trans' (setRow_mod zChg) (fun i hi f => by omega))
  · obtain rfl : sh1 = false := by
      cases sh1
      · rfl
      · exact absurd (Or.inl rfl) hbd
    have hk1 : k = 1 ∨ k = 0 := by
      have : ¬ 1 < k := fun f => hbd (.inr f)
      omega
    have hog2 := HOG.out
    rw [if_neg hbd] at hog2
    clear hbd
    rcases hk1 with rfl | rfl
    · rw [if_pos rfl] at hog2
      have HO2 := Lib.hid hog2
      clear hog2
      have hzt := HTN.out w1 H1.out.2 H1.out.1
      obtain ⟨q, hq⟩ : ∃ q, q = rten B (at1, false) := ⟨_, rfl⟩
      rw [← hq] at hzt HO2
      have HT := Lib.hid hzt
      clear hzt hq
      go_upto_region 8 with fail
      -- the tenant goes into the change
      have hT0 : ∀ w2 : World, w2.heap[w.heap.size + 2]? = some (.cells zChg 33 (0, 0)) → (w2.setCell ⟨w.heap.size + 2, 0, none⟩ (.bool true)).heap[w.heap.size + 2]? = some (.cells (cChg true [] TV.zero) 33 (0, 0)) := fun w2 h => by rw [heap_setCell_row h]; rfl
      have HT0 := Lib.hid hT0
      clear hT0
      go_upto_region 10 with (first | (go_at_call 45; refine HT.out.mono ?_; rintro e w2 ⟨x, rfl, k0, kr, k1, m2⟩; have hT2 : w2.heap[w.heap.size + 2]? = some (.cells zChg 33 (0, 0)) := m2.obj HM.out.2.2.2 (by omega); have c20 : w2.cell? ⟨w.heap.size + 2, 0, none⟩ = some (.bool false) := (blk_cell hT2 0).trans rfl; have f20 := blk_free hT2 0; have hT3 := HT0.out w2 hT2; obtain ⟨TA, hTA⟩ : ∃ TA, TA = x.cells.toArray := ⟨_, rfl⟩; rw [← hTA]; have hst3 := tenStore_in (o := 2) (CA := TA) hT3 (by rw [cChg_size]; decide) (by rw [hTA]; rfl) (by rw [hTA]; exact TV.one kr); rw [hTA, cChg_in, ← hTA] at hst3; obtain ⟨w4, hw4⟩ : ∃ w4, w4 = (w2.setCell ⟨w.heap.size + 2, 0, none⟩ (.bool true)).setRow (w.heap.size + 2) (cChg true [] x) := ⟨_, rfl⟩; rw [← hw4] at hst3; have hT4 : w4.heap[w.heap.size + 2]? = some (.cells (cChg true [] x) 33 (0, 0)) := (by rw [hw4]; exact setRow_heap _ _ _ _ _ _ hT3); have c42 : w4.cell? ⟨w.heap.size + 2, 2, none⟩ = some (.string (str x.t.name)) := (blk_cell hT4 2).trans (cChg_at2 _ _ _); have c41 : w4.cell? ⟨w.heap.size + 2, 1, none⟩ = some (.string (str [])) := (blk_cell hT4 1).trans (cChg1 _ _ _); have f41 := blk_free hT4 1; have H2 := Lib.hid (And.intro k0 (And.intro kr (And.intro k1 (And.intro m2 (And.intro hw4 (And.intro hT4 hT2)))))); clear k0 kr k1 m2 hw4 hT4 hT3 hT2 hTA) | fail)
      refine grab_world fun V hV => ?_
      obtain ⟨k0, kr, k1, m2, hw4, hT4, hT2⟩ := H2.out
      obtain ⟨qt, at_, sh⟩ := q
      have m4 : Mod (fun b => b = w.heap.size + 2) w2 V := by
        rw [hV, hw4]
        exact Mod.setCell ((Mod.setCell (p := ⟨w.heap.size + 2, 0, none⟩) (Mod.refl (fun b => b = w.heap.size + 2) w2) (.inr rfl) _).trans (setRow_mod _)) (p := ⟨w.heap.size + 2, 1, none⟩) (.inr rfl) _
      have hTV0 : V.heap[w.heap.size + 2]? = some (.cells (cChg true x.t.name x) 33 (0, 0)) := by rw [hV, heap_setCell_row hT4, cChg_set1]
      obtain ⟨CX, hCX⟩ : ∃ CX, CX = cChg true x.t.name x := ⟨_, rfl⟩
      have hTV : V.heap[w.heap.size + 2]? = some (.cells CX 33 (0, 0)) := by rw [hCX]; exact hTV0
      have hXV : V.heap[w.heap.size]? = some (.cells zChg 33 (0, 0)) := m4.obj (m2.obj HM.out.2.1 (by omega)) (by omega)
      have hCV : V.heap[w.heap.size + 1]? = some (rrObj A n0 c at_ sh) := m4.obj k1 (by omega)
      have hmV : Mod No w V := (HM.out.1.trans' m2 (fun i hi f => by omega)).trans' m4 (fun i hi f => by omega)
      have hrV : x.Rows (fun b => w.heap.size + 3 ≤ b) V := kr.keeps (m4.keeps (fun b _ hb f => by omega))
      have hCs : CX.size = 35 := by rw [hCX]; exact cChg_size _ _ _
      have hone : CX.all (·.oneCell') = true := by rw [hCX]; exact cChg_one _ _ kr
      have hoc := HO2.out
      have HK0 := Lib.hid k0
      clear k0 kr k1 m2 hw4 hT4 hT2 m4 hTV0 hV H2 d2 c20 f20 hst3 c42 c41 f41
      have HEND := Lib.hid (And.intro hXV (And.intro hTV (And.intro hmV (And.intro hrV (And.intro hCX (And.intro hCs hone))))))
      have dV2 : V.cell? ⟨w.heap.size + 1, 2, none⟩ = some (.bool sh) := (blk_cell hCV 2).trans rfl
      have dV1 : V.cell? ⟨w.heap.size + 1, 1, none⟩ = some (.int .i64 (at_ : Int)) := (blk_cell hCV 1).trans rfl
      have hldV := chgLoad_run hTV hCs
      have hstV := chgStore_row (CA := CX) hXV zSize hCs hone
      have hstZ := chgStore_row (CA := zChg) hXV zSize zSize zOne
      have hresV := setRow_heap V w.heap.size _ CX _ _ hXV
      have hresZ := setRow_heap V w.heap.size _ zChg _ _ hXV
      have HRS := Lib.hid (And.intro hresV hresZ)
      have HOC := Lib.hid hoc
      clear hXV hTV hmV hrV hCX hCs hone hCV hresV hresZ hoc
      by_cases hg : ((at_, sh) : St) = (n0, false)
      · obtain ⟨e1, e2⟩ := Prod.mk.inj hg
        subst e1 e2
        have HGD := Lib.hid (show ocg B = (true, qt.name, qt, 0) from HOC.out.trans (if_pos rfl))
        clear hg hstZ
        go_wp2
        refine bodyPost_ret (results_cell_tmp rfl _ _ w.heap.size 33 CX (0, 0) _ rfl HRS.out.1 Tryz.underlying33 rfl (by rw [chgSize, HEND.out.2.2.2.2.2.1])) rfl ?_
        obtain ⟨k1, k2, k3, k4, k5, k6, k7⟩ := HEND.out
        rw [HGD.out]
        refine ⟨x, by rw [k5]; rw [HK0.out]; rfl, HK0.out, ?_, k3.trans' (setRow_mod CX) (fun i hi f => by omega)⟩
        exact (k4.keeps ((setRow_mod (w := V) (g := w.heap.size) CX).keeps (fun b _ hb f => by omega))).imp (fun b hb => by omega)
      · have hz : OpenChgP (ocg B) w = OpenChgP ocNone w := by rw [HOC.out, if_neg hg]
        have HZ := Lib.hid hz
        have hor : sh = true ∨ sh = false ∧ ¬ (at_ : Int) = (n0 : Int) := by
          cases sh
          · exact .inr ⟨rfl, fun e => hg (by rw [Int.ofNat_inj.1 e])⟩
          · exact .inl rfl
        clear hz hg hstV
        rcases hor with rfl | ⟨rfl, hne⟩
        all_goals
          go_wp2
          refine bodyPost_ret (results_cell_tmp rfl _ _ w.heap.size 33 zChg (0, 0) _ rfl HRS.out.2 Tryz.underlying33 rfl (by rw [chgSize, zSize])) rfl ?_
          rw [HZ.out]
          exact openChg_none rfl (HEND.out.2.2.1.trans' (setRow_mod zChg) (fun i hi f => by omega))
    · rw [if_neg (by decide)] at hog2
      have HO2 := Lib.hid hog2
      clear hog2
      have hzt := HNM.out w1 H1.out.2 H1.out.1
      obtain ⟨q, hq⟩ : ∃ q, q = rname B (at1, false) := ⟨_, rfl⟩
      rw [← hq] at hzt HO2
      have HT := Lib.hid hzt
      clear hzt hq
      obtain ⟨qt, at_, sh⟩ := q
      go_upto_region 10 with (first | (go_at_call 46; refine HT.out.mono ?_; rintro e w2 ⟨rfl, k1, m2⟩; have hT2 : w2.heap[w.heap.size + 2]? = some (.cells zChg 33 (0, 0)) := m2.obj HM.out.2.2.2 (by omega); have c21 : w2.cell? ⟨w.heap.size + 2, 1, none⟩ = some (.string (str [])) := (blk_cell hT2 1).trans rfl; have f21 := blk_free hT2 1; have H2 := Lib.hid (And.intro k1 (And.intro m2 hT2)); clear k1 m2 hT2) | fail)
      refine grab_world fun V hV => ?_
      obtain ⟨k1, m2, hT2⟩ := H2.out
      have m4 : Mod (fun b => b = w.heap.size + 2) w2 V := by
        rw [hV]
        exact Mod.setCell (p := ⟨w.heap.size + 2, 1, none⟩) (Mod.refl (fun b => b = w.heap.size + 2) w2) (.inr rfl) _
      obtain ⟨x, hx⟩ : ∃ x, x = TV.zero := ⟨_, rfl⟩
      obtain ⟨CX, hCX⟩ : ∃ CX, CX = cChg false qt x := ⟨_, rfl⟩
      have hTV : V.heap[w.heap.size + 2]? = some (.cells CX 33 (0, 0)) := by rw [hV, heap_setCell_row hT2, zChg_c, cChg_set1, hCX, hx]
      have hXV : V.heap[w.heap.size]? = some (.cells zChg 33 (0, 0)) := m4.obj (m2.obj HM.out.2.1 (by omega)) (by omega)
      have hCV : V.heap[w.heap.size + 1]? = some (rrObj A n0 c at_ sh) := m4.obj k1 (by omega)
      have hmV : Mod No w V := (HM.out.1.trans' m2 (fun i hi f => by omega)).trans' m4 (fun i hi f => by omega)
      have hrV : x.Rows (fun b => w.heap.size + 3 ≤ b) V := by rw [hx]; exact TV.zero_rows _ _
      have hCs : CX.size = 35 := by rw [hCX]; exact cChg_size _ _ _
      have hone : CX.all (·.oneCell') = true := by rw [hCX]; exact cChg_one _ _ hrV
      have hoc := HO2.out
      have HK0 := Lib.hid hx
      clear k1 m2 hT2 m4 hV H2 d2 c21 f21 hx
      have HEND := Lib.hid (And.intro hXV (And.intro hTV (And.intro hmV (And.intro hrV (And.intro hCX (And.intro hCs hone))))))
      have dV2 : V.cell? ⟨w.heap.size + 1, 2, none⟩ = some (.bool sh) := (blk_cell hCV 2).trans rfl
      have dV1 : V.cell? ⟨w.heap.size + 1, 1, none⟩ = some (.int .i64 (at_ : Int)) := (blk_cell hCV 1).trans rfl
      have hldV := chgLoad_run hTV hCs
      have hstV := chgStore_row (CA := CX) hXV zSize hCs hone
      have hstZ := chgStore_row (CA := zChg) hXV zSize zSize zOne
      have hresV := setRow_heap V w.heap.size _ CX _ _ hXV
      have hresZ := setRow_heap V w.heap.size _ zChg _ _ hXV
      have HRS := Lib.hid (And.intro hresV hresZ)
      have HOC := Lib.hid hoc
      clear hXV hTV hmV hrV hCX hCs hone hCV hresV hresZ hoc
      by_cases hg : ((at_, sh) : St) = (n0, false)
      · obtain ⟨e1, e2⟩ := Prod.mk.inj hg
        subst e1 e2
        have HGD := Lib.hid (show ocg B = (false, qt, Ten.zero, 0) from HOC.out.trans (if_pos rfl))
        clear hg hstZ
        go_wp2
        refine bodyPost_ret (results_cell_tmp rfl _ _ w.heap.size 33 CX (0, 0) _ rfl HRS.out.1 Tryz.underlying33 rfl (by rw [chgSize, HEND.out.2.2.2.2.2.1])) rfl ?_
        obtain ⟨k1, k2, k3, k4, k5, k6, k7⟩ := HEND.out
        rw [HGD.out]
        refine ⟨x, by rw [k5]; rfl, (by rw [HK0.out]; rfl), ?_, k3.trans' (setRow_mod CX) (fun i hi f => by omega)⟩
        exact (k4.keeps ((setRow_mod (w := V) (g := w.heap.size) CX).keeps (fun b _ hb f => by omega))).imp (fun b hb => by omega)
      · have hz : OpenChgP (ocg B) w = OpenChgP ocNone w := by rw [HOC.out, if_neg hg]
        have HZ := Lib.hid hz
        have hor : sh = true ∨ sh = false ∧ ¬ (at_ : Int) = (n0 : Int) := by
          cases sh
          · exact .inr ⟨rfl, fun e => hg (by rw [Int.ofNat_inj.1 e])⟩
          · exact .inl rfl
        clear hz hg hstV
        rcases hor with rfl | ⟨rfl, hne⟩
        all_goals
          go_wp2
          refine bodyPost_ret (results_cell_tmp rfl _ _ w.heap.size 33 zChg (0, 0) _ rfl HRS.out.2 Tryz.underlying33 rfl (by rw [chgSize, zSize])) rfl ?_
          rw [HZ.out]
          exact openChg_none rfl (HEND.out.2.2.1.trans' (setRow_mod zChg) (fun i hi f => by omega))
end

section
attribute [local go_sem] stPair gtPair gtK8 gtM6 run_store_func
attribute [local go_sem high] neqPair eqK8 eqM6
attribute [local go_sem ↓] load_fold store_fold alloc_fold slice_op_fold con_load_fold chg_load_fold ten_zero_fold con_alloc_fold con_store_fold con_zero_fold chg_alloc_fold chg_store_fold chg_zero_fold chg_put_fold macLoad_fold macStore_fold keyLoad_fold keyStore_fold chg_make_fold chg_slice_fold
open Go.RowKit
set_option linter.unusedVariables false
set_option linter.unusedSimpArgs false
def Ten.small (t : Ten) : Prop := t.pool.length ≤ 300 ∧ t.statics.length ≤ 300 ∧ t.twices.length ≤ 300
theorem zero_small : Ten.zero.small := ⟨by decide, by decide, by decide⟩
theorem rten_small (B : List UInt8) (s : St) : (rten B s).1.small := by
  have k19 : rk B s 19 = (fun r : RS => ({ r with t := { r.t with twices := (rmany (rpr B) r.nt r.s).1 }, s := (rmany (rpr B) r.nt r.s).2 } : RS)) (rk B s 18) := rfl
  have k18 : rk B s 18 = (fun r : RS => ({ r with t := { r.t with statics := (rmany (rpr B) r.ns r.s).1 }, s := (rmany (rpr B) r.ns r.s).2 } : RS)) (rk B s 17) := rfl
  have k17 : rk B s 17 = (fun r : RS => ({ r with t := { r.t with pool := (rmany (rnum B 4) r.np r.s).1 }, s := (rmany (rnum B 4) r.np r.s).2 } : RS)) (rk B s 16) := rfl
  have k16 : rk B s 16 = (fun r : RS => ({ r with nt := (rnum B 1 r.s).1, s := (rnum B 1 r.s).2 } : RS)) (rk B s 15) := rfl
  have k15 : rk B s 15 = (fun r : RS => ({ r with ns := (rnum B 1 r.s).1, s := (rnum B 1 r.s).2 } : RS)) (rk B s 14) := rfl
  have k14 : rk B s 14 = (fun r : RS => ({ r with np := (rnum B 1 r.s).1, s := (rnum B 1 r.s).2 } : RS)) (rk B s 13) := rfl
  have hnp : (rk B s 16).np < 256 ∧ (rk B s 16).ns < 256 ∧ (rk B s 16).nt < 256 := by
    rw [k16]
    generalize h15 : rk B s 15 = r15 at *
    refine ⟨?_, ?_, rnum_lt B 1 _⟩
    · show r15.np < 256
      rw [k15]
      generalize h14 : rk B s 14 = r14 at *
      show r14.np < 256
      rw [k14]
      exact rnum_lt B 1 _
    · show r15.ns < 256
      rw [k15]
      exact rnum_lt B 1 _
  clear k16 k15 k14
  show (rk B s 19).t.small
  rw [k19]
  clear k19
  generalize h16 : rk B s 16 = r16 at *
  generalize h17 : rk B s 17 = r17 at *
  generalize h18 : rk B s 18 = r18 at *
  obtain ⟨a, b, c⟩ := hnp
  refine ⟨?_, ?_, ?_⟩
  · show r18.t.pool.length ≤ 300
    rw [k18]
    show r17.t.pool.length ≤ 300
    rw [k17]
    exact Nat.le_trans (rmany_len _ _ _) (by omega)
  · show r18.t.statics.length ≤ 300
    rw [k18]
    show (rmany (rpr B) r17.ns r17.s).1.length ≤ 300
    have : r17.ns < 256 := by rw [k17]; exact b
    exact Nat.le_trans (rmany_len _ _ _) (by omega)
  · show (rmany (rpr B) r18.nt r18.s).1.length ≤ 300
    have : r18.nt < 256 := by rw [k18]; show r17.nt < 256; rw [k17]; exact c
    exact Nat.le_trans (rmany_len _ _ _) (by omega)
theorem ocg_small (B : List UInt8) : (ocg B).2.2.1.small := by
  rw [ocg_eq]
  split
  · exact zero_small
  · split
    · split
      · exact rten_small B _
      · exact zero_small
    · split
      · exact zero_small
      · exact zero_small
end

section
attribute [local go_sem] stPair gtPair gtK8 gtM6 run_store_func
attribute [local go_sem high] neqPair eqK8 eqM6
attribute [local go_sem ↓] load_fold store_fold alloc_fold slice_op_fold con_load_fold chg_load_fold ten_zero_fold con_alloc_fold con_store_fold con_zero_fold chg_alloc_fold chg_store_fold chg_zero_fold chg_put_fold macLoad_fold macStore_fold keyLoad_fold keyStore_fold chg_make_fold chg_slice_fold
open Go.RowKit
set_option linter.unusedVariables false
set_option linter.unusedSimpArgs false
def ConQ (cc : Con) (lt : List Ten) (ce : Nat) (W : World) (e : Ending) (w' : World) : Prop :=
  ∃ (CA : Array Value) (Q : Option Addr) (p : Nat) (l : List TV), e = .returned (.tuple #[.agg CA, .int .i64 (ce : Int)]) ∧ CA = cc.cells (.slice Q lt.length p) ∧ l.map (·.t) = lt ∧ TVl (fun b => W.heap.size ≤ b) w' Q l ∧ Mod No W w' ∧ CA.size = 29 ∧ CA.all (·.oneCell') = true
def ChgQ (put : Bool) (name : List UInt8) (t : Ten) (ce : Nat) (W : World) (e : Ending) (w' : World) : Prop :=
  ∃ (CA : Array Value) (x : TV), e = .returned (.tuple #[.agg CA, .int .i64 (ce : Int)]) ∧ CA = cChg put name x ∧ x.t = t ∧ x.Rows (fun b => W.heap.size ≤ b) w' ∧ Mod No W w' ∧ CA.size = 35 ∧ CA.all (·.oneCell') = true
theorem con_q {f : Nat} {args : Array Value} {W : World} {B : List UInt8} {cc : Con} {lt : List Ten} {ce : Nat} (h : Calls Tryz.prog f args W (OpenConP (ocf B) W)) (hq : ocf B = (cc, lt, ce)) : Calls Tryz.prog f args W (ConQ cc lt ce W) := by
  rw [hq] at h
  refine h.mono ?_
  rintro e w' ⟨vt, l, e1, e2, e3, e4⟩
  obtain ⟨Q, p, hv, hr⟩ := own_rowAt e3.own
  have hl : l.length = lt.length := by have := congrArg List.length e2; simpa using this
  rw [hl] at hv
  subst hv
  exact ⟨_, Q, p, l, e1, rfl, e2, ⟨hr, fun x hx => (e3.rows x hx).imp (fun b hb => hb.1)⟩, e4, rfl, con_one _ _ _ _⟩
theorem chg_q {f : Nat} {args : Array Value} {W : World} {B : List UInt8} {put : Bool} {name : List UInt8} {t : Ten} {ce : Nat} (h : Calls Tryz.prog f args W (OpenChgP (ocg B) W)) (hq : ocg B = (put, name, t, ce)) : Calls Tryz.prog f args W (ChgQ put name t ce W) := by
  rw [hq] at h
  refine h.mono ?_
  rintro e w' ⟨x, e1, e2, e3, e4⟩
  exact ⟨_, x, e1, rfl, e2, e3, e4, cChg_size _ _ _, cChg_one _ _ e3⟩
end

section
attribute [local go_sem] stPair gtPair gtK8 gtM6 run_store_func
attribute [local go_sem high] neqPair eqK8 eqM6
attribute [local go_sem ↓] load_fold store_fold alloc_fold slice_op_fold con_load_fold chg_load_fold ten_zero_fold con_alloc_fold con_store_fold con_zero_fold chg_alloc_fold chg_store_fold chg_zero_fold chg_put_fold macLoad_fold macStore_fold keyLoad_fold keyStore_fold chg_make_fold chg_slice_fold
open Go.RowKit
set_option linter.unusedVariables false
/-- A request as data; its change's and its settings' cells. -/
structure AskD where
  key : K8
  op : Int
  ver : Nat
  chg : List Value
  con : List Value
  name : List UInt8
def AskD.cells (a : AskD) : List Value := bcells a.key.l ++ ([.int .i64 a.op, .int .u64 (a.ver : Int)] ++ (a.chg ++ (a.con ++ [.string (str a.name)])))
structure AskD.ok (a : AskD) : Prop where
  chg : a.chg.length = 35
  con : a.con.length = 29
  chg1 : ∀ v ∈ a.chg, v.oneCell' = true
  con1 : ∀ v ∈ a.con, v.oneCell' = true
def AskD.zero : AskD := ⟨.zero, 0, 0, zChg.toList, zCon.toList, []⟩
theorem K8.cells_len (k : K8) : (bcells k.l).length = 8 := rfl
theorem AskD.len {a : AskD} (h : a.ok) : a.cells.length = 75 := by
  simp only [AskD.cells, List.length_append, K8.cells_len, h.chg, h.con, List.length_cons, List.length_nil]
theorem AskD.size {a : AskD} (h : a.ok) : a.cells.toArray.size = 75 := by rw [List.size_toArray]; exact a.len h
theorem AskD.one {a : AskD} (h : a.ok) : a.cells.toArray.all (·.oneCell') = true := by
  rw [Array.all_eq_true_iff_forall_mem]
  intro v hv
  simp only [List.mem_toArray, AskD.cells, List.mem_append, List.mem_cons, List.mem_nil_iff, or_false] at hv
  rcases hv with h1 | (rfl | rfl) | h1 | h1 | rfl
  · exact bcells_one _ v h1
  · rfl
  · rfl
  · exact h.chg1 v h1
  · exact h.con1 v h1
  · rfl
theorem AskD.zero_ok : AskD.zero.ok := ⟨rfl, rfl, by decide +kernel, by decide +kernel⟩
theorem AskD.at8 (a : AskD) : a.cells[8]? = some (.int .i64 a.op) := by
  rw [AskD.cells, List.getElem?_append_right (by rw [K8.cells_len]; exact Nat.le_refl _), K8.cells_len]; rfl
theorem AskD.at9 (a : AskD) : a.cells[9]? = some (.int .u64 (a.ver : Int)) := by
  rw [AskD.cells, List.getElem?_append_right (by rw [K8.cells_len]; decide), K8.cells_len]; rfl
theorem AskD.atKey (a : AskD) (j : Nat) (hj : j < 8) : a.cells[j]? = (bcells a.key.l)[j]? := by
  rw [AskD.cells, List.getElem?_append_left (by rw [K8.cells_len]; exact hj)]
theorem AskD.atChg {a : AskD} (h : a.ok) (j : Nat) (hj : j < 35) : a.cells[10 + j]? = a.chg[j]? := by
  rw [AskD.cells, List.getElem?_append_right (by rw [K8.cells_len]; omega), K8.cells_len, List.getElem?_append_right (by simp; omega), List.getElem?_append_left (by rw [h.chg]; simp; omega)]
  congr 1
  simp
  omega
theorem AskD.atCon {a : AskD} (h : a.ok) (j : Nat) (hj : j < 29) : a.cells[45 + j]? = a.con[j]? := by
  rw [AskD.cells, List.getElem?_append_right (by rw [K8.cells_len]; omega), K8.cells_len, List.getElem?_append_right (by simp; omega), List.getElem?_append_right (by rw [h.chg]; simp; omega), List.getElem?_append_left (by rw [h.con, h.chg]; simp; omega)]
  congr 1
  rw [h.chg]
  simp
  omega
theorem AskD.at74 {a : AskD} (h : a.ok) : a.cells[74]? = some (.string (str a.name)) := by
  rw [AskD.cells, List.getElem?_append_right (by rw [K8.cells_len]; omega), K8.cells_len, List.getElem?_append_right (by simp), List.getElem?_append_right (by rw [h.chg]; simp), List.getElem?_append_right (by rw [h.con, h.chg]; simp), h.chg, h.con]
  rfl
theorem splice_app {α : Type} (p m q m' : List α) (o : Nat) (ho : p.length = o) (hm : m'.length = m.length) : splice (p ++ (m ++ q)) o m' = p ++ (m' ++ q) := by
  subst ho
  simp [splice, hm, List.drop_append]
theorem set_app {α : Type} (p q : List α) (x y : α) (o : Nat) (ho : p.length = o) : (p ++ (x :: q)).set o y = p ++ (y :: q) := by
  subst ho
  simp
theorem AskD.setKey (a : AskD) (k : K8) : splice a.cells 0 (bcells k.l) = { a with key := k }.cells :=
  splice_app [] _ _ _ 0 rfl rfl
theorem AskD.setVer (a : AskD) (v : Nat) : a.cells.set 9 (.int .u64 (v : Int)) = { a with ver := v }.cells := by
  have := set_app (bcells a.key.l ++ [.int .i64 a.op]) (a.chg ++ (a.con ++ [.string (str a.name)])) (.int .u64 (a.ver : Int)) (.int .u64 (v : Int)) 9 rfl
  simpa [AskD.cells] using this
theorem AskD.setChg {a : AskD} (h : a.ok) (c : List Value) (hc : c.length = 35) : splice a.cells 10 c = { a with chg := c }.cells := by
  have := splice_app (bcells a.key.l ++ [.int .i64 a.op, .int .u64 (a.ver : Int)]) a.chg (a.con ++ [.string (str a.name)]) c 10 rfl (by rw [h.chg, hc])
  simpa [AskD.cells] using this
theorem AskD.setCon {a : AskD} (h : a.ok) (c : List Value) (hc : c.length = 29) : splice a.cells 45 c = { a with con := c }.cells := by
  have := splice_app (bcells a.key.l ++ ([.int .i64 a.op, .int .u64 (a.ver : Int)] ++ a.chg)) a.con [.string (str a.name)] c 45 (by simp [K8.cells_len, h.chg]) (by rw [h.con, hc])
  simpa [AskD.cells] using this
theorem AskD.setName {a : AskD} (h : a.ok) (n : List UInt8) : a.cells.set 74 (.string (str n)) = { a with name := n }.cells := by
  have := set_app (bcells a.key.l ++ ([.int .i64 a.op, .int .u64 (a.ver : Int)] ++ (a.chg ++ a.con))) [] (.string (str a.name)) (.string (str n)) 74 (by simp [K8.cells_len, h.chg, h.con])
  simpa [AskD.cells] using this
set_option maxRecDepth 100000 in
theorem askBox_raw (CA : Array Value) (h : CA.size = 75) (W : World) : (Instr.box 45 (.agg CA)).run Tryz.prog W = .ok (.pointer (some ⟨W.heap.size, 0, none⟩)) (W.alloc (.cells CA 45)) := by
  go_simp
def askLoad (v : Value) : Sem Value := Instr.loadAt 45 v
theorem askLoad_fold (v : Value) : Instr.loadAt 45 v = askLoad v := rfl
attribute [local go_sem ↓] askLoad_fold
def askStore (p v : Value) : Sem Unit := Instr.storeAt 45 p v
theorem askStore_fold (p v : Value) : Instr.storeAt 45 p v = askStore p v := rfl
attribute [local go_sem ↓] askStore_fold
def askAlloc (v : Value) : Sem Value := Instr.alloc 45 true v
theorem askAlloc_fold (v : Value) : Instr.alloc 45 true v = askAlloc v := rfl
attribute [local go_sem ↓] askAlloc_fold
def askBox (v : Value) : Sem Value := Instr.box 45 v
theorem askBox_fold (v : Value) : Instr.box 45 v = askBox v := rfl
attribute [local go_sem ↓] askBox_fold
def askZero : Sem Value := Instr.build 45 #[]
theorem askZero_fold (ρ : Operand → Value) (dst : Option Tmp) (ty : TypeId) (pos : String) (after : Array Edge) (g : Option (Nat × Bool)) :
    execOp ρ { dst := dst, op := .build 45 #[], type := ty, pos := pos, after := after, guard := g } = (do pure (Next.value (← askZero)) : Sem Next) := by
  show (do pure (Next.value (← Instr.build 45 (#[].map fun (i, x) => (i, ρ x)))) : Sem Next) = _
  simp only [Array.map_empty]
  rfl
attribute [local go_sem ↓] askZero_fold
theorem askSize : (Tryz.prog.info? 45).map (·.size) = some 75 := by kernel_rfl
set_option maxRecDepth 100000 in
theorem askAlloc_run (W : World) : (askAlloc (.tuple #[])).run Tryz.prog W = .ok (.pointer (some ⟨W.heap.size, 0, none⟩)) (W.alloc (.cells AskD.zero.cells.toArray 45)) := by kernel_rfl
set_option maxRecDepth 100000 in
theorem askZero_run (W : World) : askZero.run Tryz.prog W = .ok (.agg AskD.zero.cells.toArray) W := by kernel_rfl
theorem askBox_run (CA : Array Value) (h : CA.size = 75) (W : World) : (askBox (.agg CA)).run Tryz.prog W = .ok (.pointer (some ⟨W.heap.size, 0, none⟩)) (W.alloc (.cells CA 45)) := askBox_raw CA h W
theorem askLoad_run {W : World} {b : Nat} {CA : Array Value} (h : W.heap[b]? = some (.cells CA 45 (0, 0))) (hc : CA.size = 75) : (askLoad (.pointer (some ⟨b, 0, none⟩))).run Tryz.prog W = .ok (.agg CA) W := by
  simp only [askLoad, Instr.loadAt, Instr.sureAddr, Sem.run_bind, Sem.run_pure, Result.andThen_ok]
  exact run_loadVar_row W b _ _ CA (0, 0) _ h Tryz.underlying45 rfl (by rw [askSize, hc])
theorem askStore_run {W : World} {b : Nat} {old CA : Array Value} (h : W.heap[b]? = some (.cells old 45 (0, 0))) (ho : old.size = 75) (hc : CA.size = 75) (h1 : CA.all (·.oneCell') = true) :
    (askStore (.pointer (some ⟨b, 0, none⟩)) (.agg CA)).run Tryz.prog W = .ok () (W.setRow b CA) := by
  simp only [askStore, Instr.storeAt, Instr.sureAddr, Sem.run_bind, Sem.run_pure, Result.andThen_ok]
  exact run_storeVar_row W b _ _ old CA h (by rw [askSize, hc]) (by rw [ho, hc]) h1
theorem askBox_new (CA : Array Value) (h : CA.size = 75) : ∀ W : World, (askBox (.agg CA)).run Tryz.prog W = .ok (.pointer (some ⟨W.heap.size, 0, none⟩)) (W.alloc (.cells CA 45)) := askBox_run CA h
theorem askStore_new (W : World) (CA : Array Value) (hc : CA.size = 75) (h1 : CA.all (·.oneCell') = true) : (askStore (.pointer (some ⟨W.heap.size, 0, none⟩)) (.agg CA)).run Tryz.prog (W.alloc (.cells AskD.zero.cells.toArray 45)) = .ok () (W.alloc (.cells CA 45)) := by
  rw [← setRow_alloc W AskD.zero.cells.toArray CA]
  exact askStore_run (at10 W _) rfl hc h1
theorem askStore_newd (W : World) (CA : Array Value) (hc : CA.size = 75) (h1 : CA.all (·.oneCell') = true) : (askStore (.pointer (some ⟨W.heap.size, 0, none⟩)) (.agg CA)).run Tryz.prog (W.alloc (.cells AskD.zero.cells.toArray 45)).drew = .ok () (W.alloc (.cells CA 45)).drew := by
  rw [← setRow_alloc W AskD.zero.cells.toArray CA]
  exact askStore_run (W := (W.alloc (.cells AskD.zero.cells.toArray 45)).drew) (at10 W _) rfl hc h1
/-- A block that is a request. -/
def askAt (W : World) (b : Nat) (a : AskD) : Prop := W.heap[b]? = some (.cells a.cells.toArray 45 (0, 0))
theorem askAt_chg {W : World} {b : Nat} {a : AskD} (h : askAt W b a) (ha : a.ok) (c : Array Value) (hc : c.size = 35) (h1 : c.all (·.oneCell') = true) :
    ∃ W', (chgStore (.pointer (some ⟨b, 10, none⟩)) (.agg c)).run Tryz.prog W = .ok () W' ∧ askAt W' b { a with chg := c.toList } ∧ Mod (fun k => k = b) W W' := by
  refine ⟨_, arrStore_in chgSize h (by rw [AskD.size ha]; decide) hc h1, ?_, setRow_mod _⟩
  rw [askAt, setRow_heap _ _ _ _ _ _ h]
  simp only
  rw [AskD.setChg ha _ (by simpa using hc)]
theorem askAt_con {W : World} {b : Nat} {a : AskD} (h : askAt W b a) (ha : a.ok) (c : Array Value) (hc : c.size = 29) (h1 : c.all (·.oneCell') = true) :
    ∃ W', (conStore (.pointer (some ⟨b, 45, none⟩)) (.agg c)).run Tryz.prog W = .ok () W' ∧ askAt W' b { a with con := c.toList } ∧ Mod (fun k => k = b) W W' := by
  refine ⟨_, arrStore_in conSize h (by rw [AskD.size ha]; decide) hc h1, ?_, setRow_mod _⟩
  rw [askAt, setRow_heap _ _ _ _ _ _ h]
  simp only
  rw [AskD.setCon ha _ (by simpa using hc)]
theorem askAt_cell {W : World} {b : Nat} {a : AskD} (h : askAt W b a) (j : Nat) : W.cell? ⟨b, j, none⟩ = a.cells[j]? := by
  rw [blk_cell h]; simp
theorem askAt_chgLoad {W : World} {b : Nat} {a : AskD} (h : askAt W b a) (ha : a.ok) : (chgLoad (.pointer (some ⟨b, 10, none⟩))).run Tryz.prog W = .ok (.agg a.chg.toArray) W := by
  refine run_loadAt_mid W b 10 _ a.chg _ (fun j v hj => ?_) Tryz.underlying33 rfl (by rw [chgSize, ha.chg])
  have := (List.getElem?_eq_some_iff.1 hj).1
  rw [askAt_cell h, AskD.atChg ha j (by rw [← ha.chg]; exact this), hj]
theorem askAt_conLoad {W : World} {b : Nat} {a : AskD} (h : askAt W b a) (ha : a.ok) : (conLoad (.pointer (some ⟨b, 45, none⟩))).run Tryz.prog W = .ok (.agg a.con.toArray) W := by
  refine run_loadAt_mid W b 45 _ a.con _ (fun j v hj => ?_) Tryz.underlying36 rfl (by rw [conSize, ha.con])
  have := (List.getElem?_eq_some_iff.1 hj).1
  rw [askAt_cell h, AskD.atCon ha j (by rw [← ha.con]; exact this), hj]
theorem askAt_keyLoad {W : World} {b : Nat} {a : AskD} (h : askAt W b a) : (keyLoad (.pointer (some ⟨b, 0, none⟩))).run Tryz.prog W = .ok (.agg (bcells a.key.l).toArray) W := by
  refine run_loadAt_mid W b 0 _ (bcells a.key.l) _ (fun j v hj => ?_) Tryz.underlying22 rfl (by rw [keySize, K8.cells_len])
  have := (List.getElem?_eq_some_iff.1 hj).1
  rw [Nat.zero_add, askAt_cell h, AskD.atKey _ j (by simpa [K8.cells_len] using this), hj]
set_option maxRecDepth 100000 in
theorem reqBox_raw (CA : Array Value) (h : CA.size = 75) (W : World) : (Instr.box 48 (.agg CA)).run Tryz.prog W = .ok (.pointer (some ⟨W.heap.size, 0, none⟩)) (W.alloc (.cells CA 48)) := by
  go_simp
def reqLoad (v : Value) : Sem Value := Instr.loadAt 48 v
theorem reqLoad_fold (v : Value) : Instr.loadAt 48 v = reqLoad v := rfl
attribute [local go_sem ↓] reqLoad_fold
def reqStore (p v : Value) : Sem Unit := Instr.storeAt 48 p v
theorem reqStore_fold (p v : Value) : Instr.storeAt 48 p v = reqStore p v := rfl
attribute [local go_sem ↓] reqStore_fold
def reqAlloc (v : Value) : Sem Value := Instr.alloc 48 true v
theorem reqAlloc_fold (v : Value) : Instr.alloc 48 true v = reqAlloc v := rfl
attribute [local go_sem ↓] reqAlloc_fold
def reqBox (v : Value) : Sem Value := Instr.box 48 v
theorem reqBox_fold (v : Value) : Instr.box 48 v = reqBox v := rfl
attribute [local go_sem ↓] reqBox_fold
def reqZero : Sem Value := Instr.build 48 #[]
theorem reqZero_fold (ρ : Operand → Value) (dst : Option Tmp) (ty : TypeId) (pos : String) (after : Array Edge) (g : Option (Nat × Bool)) :
    execOp ρ { dst := dst, op := .build 48 #[], type := ty, pos := pos, after := after, guard := g } = (do pure (Next.value (← reqZero)) : Sem Next) := by
  show (do pure (Next.value (← Instr.build 48 (#[].map fun (i, x) => (i, ρ x)))) : Sem Next) = _
  simp only [Array.map_empty]
  rfl
attribute [local go_sem ↓] reqZero_fold
theorem reqSize : (Tryz.prog.info? 48).map (·.size) = some 75 := by kernel_rfl
set_option maxRecDepth 100000 in
theorem reqAlloc_run (W : World) : (reqAlloc (.tuple #[])).run Tryz.prog W = .ok (.pointer (some ⟨W.heap.size, 0, none⟩)) (W.alloc (.cells AskD.zero.cells.toArray 48)) := by kernel_rfl
set_option maxRecDepth 100000 in
theorem reqZero_run (W : World) : reqZero.run Tryz.prog W = .ok (.agg AskD.zero.cells.toArray) W := by kernel_rfl
theorem reqBox_run (CA : Array Value) (h : CA.size = 75) (W : World) : (reqBox (.agg CA)).run Tryz.prog W = .ok (.pointer (some ⟨W.heap.size, 0, none⟩)) (W.alloc (.cells CA 48)) := reqBox_raw CA h W
theorem reqLoad_run {W : World} {b : Nat} {CA : Array Value} (h : W.heap[b]? = some (.cells CA 48 (0, 0))) (hc : CA.size = 75) : (reqLoad (.pointer (some ⟨b, 0, none⟩))).run Tryz.prog W = .ok (.agg CA) W := by
  simp only [reqLoad, Instr.loadAt, Instr.sureAddr, Sem.run_bind, Sem.run_pure, Result.andThen_ok]
  exact run_loadVar_row W b _ _ CA (0, 0) _ h Tryz.underlying48 rfl (by rw [reqSize, hc])
theorem reqStore_run {W : World} {b : Nat} {old CA : Array Value} (h : W.heap[b]? = some (.cells old 48 (0, 0))) (ho : old.size = 75) (hc : CA.size = 75) (h1 : CA.all (·.oneCell') = true) :
    (reqStore (.pointer (some ⟨b, 0, none⟩)) (.agg CA)).run Tryz.prog W = .ok () (W.setRow b CA) := by
  simp only [reqStore, Instr.storeAt, Instr.sureAddr, Sem.run_bind, Sem.run_pure, Result.andThen_ok]
  exact run_storeVar_row W b _ _ old CA h (by rw [reqSize, hc]) (by rw [ho, hc]) h1
theorem reqBox_new (CA : Array Value) (h : CA.size = 75) : ∀ W : World, (reqBox (.agg CA)).run Tryz.prog W = .ok (.pointer (some ⟨W.heap.size, 0, none⟩)) (W.alloc (.cells CA 48)) := reqBox_run CA h
theorem reqStore_new (W : World) (CA : Array Value) (hc : CA.size = 75) (h1 : CA.all (·.oneCell') = true) : (reqStore (.pointer (some ⟨W.heap.size, 0, none⟩)) (.agg CA)).run Tryz.prog (W.alloc (.cells AskD.zero.cells.toArray 48)) = .ok () (W.alloc (.cells CA 48)) := by
  rw [← setRow_alloc W AskD.zero.cells.toArray CA]
  exact reqStore_run (at10 W _) rfl hc h1
/-- A block that is a request. -/
def reqAt (W : World) (b : Nat) (a : AskD) : Prop := W.heap[b]? = some (.cells a.cells.toArray 48 (0, 0))
theorem reqAt_chg {W : World} {b : Nat} {a : AskD} (h : reqAt W b a) (ha : a.ok) (c : Array Value) (hc : c.size = 35) (h1 : c.all (·.oneCell') = true) :
    ∃ W', (chgStore (.pointer (some ⟨b, 10, none⟩)) (.agg c)).run Tryz.prog W = .ok () W' ∧ reqAt W' b { a with chg := c.toList } ∧ Mod (fun k => k = b) W W' := by
  refine ⟨_, arrStore_in chgSize h (by rw [AskD.size ha]; decide) hc h1, ?_, setRow_mod _⟩
  rw [reqAt, setRow_heap _ _ _ _ _ _ h]
  simp only
  rw [AskD.setChg ha _ (by simpa using hc)]
theorem reqAt_con {W : World} {b : Nat} {a : AskD} (h : reqAt W b a) (ha : a.ok) (c : Array Value) (hc : c.size = 29) (h1 : c.all (·.oneCell') = true) :
    ∃ W', (conStore (.pointer (some ⟨b, 45, none⟩)) (.agg c)).run Tryz.prog W = .ok () W' ∧ reqAt W' b { a with con := c.toList } ∧ Mod (fun k => k = b) W W' := by
  refine ⟨_, arrStore_in conSize h (by rw [AskD.size ha]; decide) hc h1, ?_, setRow_mod _⟩
  rw [reqAt, setRow_heap _ _ _ _ _ _ h]
  simp only
  rw [AskD.setCon ha _ (by simpa using hc)]
theorem reqAt_cell {W : World} {b : Nat} {a : AskD} (h : reqAt W b a) (j : Nat) : W.cell? ⟨b, j, none⟩ = a.cells[j]? := by
  rw [blk_cell h]; simp
theorem reqAt_chgLoad {W : World} {b : Nat} {a : AskD} (h : reqAt W b a) (ha : a.ok) : (chgLoad (.pointer (some ⟨b, 10, none⟩))).run Tryz.prog W = .ok (.agg a.chg.toArray) W := by
  refine run_loadAt_mid W b 10 _ a.chg _ (fun j v hj => ?_) Tryz.underlying33 rfl (by rw [chgSize, ha.chg])
  have := (List.getElem?_eq_some_iff.1 hj).1
  rw [reqAt_cell h, AskD.atChg ha j (by rw [← ha.chg]; exact this), hj]
theorem reqAt_conLoad {W : World} {b : Nat} {a : AskD} (h : reqAt W b a) (ha : a.ok) : (conLoad (.pointer (some ⟨b, 45, none⟩))).run Tryz.prog W = .ok (.agg a.con.toArray) W := by
  refine run_loadAt_mid W b 45 _ a.con _ (fun j v hj => ?_) Tryz.underlying36 rfl (by rw [conSize, ha.con])
  have := (List.getElem?_eq_some_iff.1 hj).1
  rw [reqAt_cell h, AskD.atCon ha j (by rw [← ha.con]; exact this), hj]
theorem reqAt_keyLoad {W : World} {b : Nat} {a : AskD} (h : reqAt W b a) : (keyLoad (.pointer (some ⟨b, 0, none⟩))).run Tryz.prog W = .ok (.agg (bcells a.key.l).toArray) W := by
  refine run_loadAt_mid W b 0 _ (bcells a.key.l) _ (fun j v hj => ?_) Tryz.underlying22 rfl (by rw [keySize, K8.cells_len])
  have := (List.getElem?_eq_some_iff.1 hj).1
  rw [Nat.zero_add, reqAt_cell h, AskD.atKey _ j (by simpa [K8.cells_len] using this), hj]
theorem chgStore_nw (W : World) (CA : Array Value) (hc : CA.size = 35) (h1 : CA.all (·.oneCell') = true) : (chgStore (.pointer (some ⟨W.heap.size, 0, none⟩)) (.agg CA)).run Tryz.prog (W.alloc (.cells zChg 33)) = .ok () (W.alloc (.cells CA 33)) := by
  rw [← setRow_alloc W zChg CA]
  exact chgStore_row (at10 W _) zSize hc h1
theorem conStore_nw (W : World) (CA : Array Value) (hc : CA.size = 29) (h1 : CA.all (·.oneCell') = true) : (conStore (.pointer (some ⟨W.heap.size, 0, none⟩)) (.agg CA)).run Tryz.prog (W.alloc (.cells zCon 36)) = .ok () (W.alloc (.cells CA 36)) := by
  rw [← setRow_alloc W zCon CA]
  exact conStore_row (at10 W _) rfl hc h1
theorem keyLoad_mid (W : World) (b o : Nat) (k : K8) (h : ∀ j v, (bcells k.l)[j]? = some v → W.cell? ⟨b, o + j, none⟩ = some v) : (keyLoad (.pointer (some ⟨b, o, none⟩))).run Tryz.prog W = .ok (.agg (bcells k.l).toArray) W :=
  run_loadAt_mid W b o _ (bcells k.l) _ h Tryz.underlying22 rfl (by rw [keySize, K8.cells_len])
def askPut (k o : Value) : Sem Value := Instr.build 45 #[(0, k), (1, o)]
theorem askPut_fold (ρ : Operand → Value) (x y : Operand) (dst : Option Tmp) (ty : TypeId) (pos : String) (after : Array Edge) (g : Option (Nat × Bool)) :
    execOp ρ { dst := dst, op := .build 45 #[(0, x), (1, y)], type := ty, pos := pos, after := after, guard := g } = (do pure (Next.value (← askPut (ρ x) (ρ y))) : Sem Next) := by
  show (do pure (Next.value (← Instr.build 45 (#[(0, x), (1, y)].map fun (i, x) => (i, ρ x)))) : Sem Next) = _
  have hm : (#[((0 : Nat), x), (1, y)].map fun (i, x) => (i, ρ x)) = #[(0, ρ x), (1, ρ y)] := by simp
  rw [hm]
  rfl
attribute [local go_sem ↓] askPut_fold
set_option maxRecDepth 100000 in
theorem askPut_run (k : K8) (o : Int) (W : World) : (askPut (.agg (bcells k.l).toArray) (.int .i64 o)).run Tryz.prog W = .ok (.agg { AskD.zero with key := k, op := o }.cells.toArray) W := by kernel_rfl
def reqPut (o : Value) : Sem Value := Instr.build 48 #[(1, o)]
theorem reqPut_fold (ρ : Operand → Value) (y : Operand) (dst : Option Tmp) (ty : TypeId) (pos : String) (after : Array Edge) (g : Option (Nat × Bool)) :
    execOp ρ { dst := dst, op := .build 48 #[(1, y)], type := ty, pos := pos, after := after, guard := g } = (do pure (Next.value (← reqPut (ρ y))) : Sem Next) := by
  show (do pure (Next.value (← Instr.build 48 (#[(1, y)].map fun (i, x) => (i, ρ x)))) : Sem Next) = _
  have hm : (#[((1 : Nat), y)].map fun (i, x) => (i, ρ x)) = #[(1, ρ y)] := by simp
  rw [hm]
  rfl
attribute [local go_sem ↓] reqPut_fold
set_option maxRecDepth 100000 in
theorem reqPut_run (o : Int) (W : World) : (reqPut (.int .i64 o)).run Tryz.prog W = .ok (.agg { AskD.zero with op := o }.cells.toArray) W := by kernel_rfl
end

section
attribute [local go_sem] stPair gtPair gtK8 gtM6 run_store_func
attribute [local go_sem high] neqPair eqK8 eqM6
attribute [local go_sem ↓] load_fold store_fold alloc_fold slice_op_fold con_load_fold chg_load_fold ten_zero_fold con_alloc_fold con_store_fold con_zero_fold chg_alloc_fold chg_store_fold chg_zero_fold chg_put_fold macLoad_fold macStore_fold keyLoad_fold keyStore_fold chg_make_fold chg_slice_fold askLoad_fold askStore_fold askAlloc_fold askBox_fold askZero_fold reqLoad_fold reqStore_fold reqAlloc_fold reqBox_fold reqZero_fold askPut_fold reqPut_fold
open Go.RowKit
set_option linter.unusedVariables false
/-- What a request's rest comes to. -/
structure MRes where
  ok : Bool
  ver : Nat
  put : Bool
  cn : List UInt8
  ct : Ten
  cc : Con
  nm : List UInt8
def MRes.none (ok : Bool) : MRes := ⟨ok, 0, false, [], .zero, .zero, []⟩
def mnamed : List UInt8 → MRes
  | [] => .none false
  | x :: r => if x.toNat = r.length then { MRes.none true with nm := r } else .none false
def mchg (B : List UInt8) : MRes := if (ocg B).2.2.2 = 0 then ⟨true, 0, (ocg B).1, (ocg B).2.1, (ocg B).2.2.1, .zero, []⟩ else .none false
def mcon (B : List UInt8) : MRes := if (ocf B).2.2 = 0 ∧ (ocf B).2.1 = [] then { MRes.none true with cc := (ocf B).1 } else .none false
def mrest (op : Nat) (B : List UInt8) : MRes :=
  if op = 1 then (if B.length = 8 then { MRes.none true with ver := beval B } else .none false)
  else if op = 2 then mchg B
  else if op = 3 then mcon B
  else if op = 4 ∨ op = 5 ∨ op = 6 then .none (decide (B = []))
  else if op = 7 ∨ op = 8 then mnamed B
  else .none false
/-- The request that a rest makes. -/
def MRes.ask (r : MRes) (key : K8) (op : Nat) (x : TV) (Q : Option Addr) (q : Nat) : AskD :=
  ⟨key, op, r.ver, (cChg r.put r.cn x).toList, (r.cc.cells (.slice Q 0 q)).toList, r.nm⟩
theorem MRes.ask_ok {S : Nat → Prop} {w : World} (r : MRes) (key : K8) (op : Nat) {x : TV} (Q : Option Addr) (q : Nat) (h : x.Rows S w) : (r.ask key op x Q q).ok :=
  ⟨by simpa [MRes.ask] using cChg_size _ _ _, rfl, fun v hv => Array.all_eq_true_iff_forall_mem.1 (cChg_one r.put r.cn h) v (by simpa [MRes.ask] using hv),
    fun v hv => Array.all_eq_true_iff_forall_mem.1 (con_one r.cc Q 0 q) v (by simpa [MRes.ask] using hv)⟩
def askNew (key : K8) (op : Nat) : AskD := { AskD.zero with key := key, op := op }
theorem askNew_ok (key : K8) (op : Nat) : (askNew key op).ok := ⟨AskD.zero_ok.chg, AskD.zero_ok.con, AskD.zero_ok.chg1, AskD.zero_ok.con1⟩
theorem zchg_eq : zChg.toList = (cChg false [] TV.zero).toList := by kernel_rfl
theorem zcon_eq : zCon.toList = (Con.zero.cells (.slice none 0 0)).toList := by kernel_rfl
theorem askNew_eq (key : K8) (op : Nat) (b : Bool) : askNew key op = (MRes.none b).ask key op TV.zero none 0 := by
  have h1 := zchg_eq
  have h2 := zcon_eq
  unfold askNew AskD.zero MRes.ask MRes.none
  simp only
  rw [← h1, ← h2]
/-- What a closure that reads leaves: whether it was read, and in block T the request. -/
def RdC (r : MRes) (key : K8) (op T : Nat) (W : World) (e : Ending) (w' : World) : Prop :=
  e = .returned (.bool r.ok) ∧ Mod (fun b => b = T) W w' ∧ (r.ok = true → ∃ (x : TV) (Q : Option Addr) (q : Nat), askAt w' T (r.ask key op x Q q) ∧ x.t = r.ct ∧ x.Rows (fun b => W.heap.size ≤ b) w')
theorem rdC_none {key : K8} {op T : Nat} {W w' : World} {b : Bool} (hT : askAt W T (askNew key op)) (hw : w' = W) : RdC (.none b) key op T W (.returned (.bool b)) w' := by
  subst hw
  rw [askNew_eq key op b] at hT
  exact ⟨rfl, Mod.refl _ _, fun _ => ⟨TV.zero, none, 0, hT, rfl, TV.zero_rows _ _⟩⟩
theorem askName_eq (key : K8) (op : Nat) (r : List UInt8) : { askNew key op with name := r } = ({ MRes.none true with nm := r } : MRes).ask key op TV.zero none 0 := by
  rw [askNew_eq key op true]; simp only [MRes.ask, MRes.none]
theorem askVer_eq (key : K8) (op v : Nat) : { askNew key op with ver := v } = ({ MRes.none true with ver := v } : MRes).ask key op TV.zero none 0 := by
  rw [askNew_eq key op true]; simp only [MRes.ask, MRes.none]
theorem askChg_eq (key : K8) (op : Nat) (put : Bool) (name : List UInt8) (t : Ten) (x : TV) : { askNew key op with chg := (cChg put name x).toList } = (⟨true, 0, put, name, t, .zero, []⟩ : MRes).ask key op x none 0 := by
  rw [askNew_eq key op true]; simp only [MRes.ask, MRes.none]
theorem askCon_eq (key : K8) (op : Nat) (cc : Con) (Q : Option Addr) (q : Nat) : { askNew key op with con := (cc.cells (.slice Q 0 q)).toList } = ({ MRes.none true with cc := cc } : MRes).ask key op TV.zero Q q := by
  rw [askNew_eq key op true]; simp only [MRes.ask, MRes.none]
theorem rd_nothing {w : World} {T n c : Nat} {A : Option Addr} :
    Calls Tryz.prog 26 #[.pointer (some ⟨T, 0, none⟩), .slice A n c] w fun e w' => e = .returned (.bool (decide (n = 0))) ∧ w' = w := by
  obtain ⟨b, hb⟩ : ∃ b, b = decide (n = 0) := ⟨_, rfl⟩
  have p : ((n : Int) == 0) = b := by
    rw [hb, Bool.eq_iff_iff]
    simp
  rw [← hb]
  clear hb
  go_enter Tryz.func26, Tryz.ntmps26
  go_wp2
  go_ret
  exact ⟨rfl, rfl⟩
set_option maxRecDepth 100000 in
theorem rd_named {S : Nat → Prop} {w : World} {T c : Nat} {A : Option Addr} {key : K8} {op : Nat} (B : List UInt8) (hT : askAt w T (askNew key op)) (hrow : RowAt S w A (bcells B)) (hc : B.length ≤ c) (h63 : B.length ≤ 100000000) :
    Calls Tryz.prog 28 #[.pointer (some ⟨T, 0, none⟩), .slice A B.length c] w (RdC (mnamed B) key op T w) := by
  match B, hrow, hc, h63 with
  | [], hrow, hc, h63 =>
    have HT := Lib.hid hT
    clear hT hrow
    show Calls _ _ #[_, .slice A 0 c] w _
    go_enter Tryz.func28, Tryz.ntmps28
    go_wp2
    go_ret
    exact rdC_none HT.out rfl
  | x :: r, hrow, hc, h63 =>
    obtain ⟨b, o, rfl, _, _, hcl⟩ := hrow.open (by simp [bcells])
    have c0 := hcl 0 (.int .u8 (x.toNat : Int)) rfl
    rw [Nat.add_zero] at c0
    obtain ⟨A', sl, rl⟩ := own_tail (x :: r).length c 1 (some ⟨b, o, none⟩) (by simp) hc
    have hr1 := rl S w _ hrow
    have hd : ((bcells (x :: r)).drop 1).take ((x :: r).length - 1) = bcells r := by
      show (bcells r).take r.length = _
      rw [List.take_of_length_le (by rw [bcells_length]; exact Nat.le_refl _)]
    rw [hd] at hr1
    have hcv := conv_row (w := w) (c - 1) hr1
    have hl : (x :: r).length - 1 = r.length := by simp
    obtain ⟨n, hn⟩ : ∃ n, n = (x :: r).length := ⟨_, rfl⟩
    rw [← hn] at sl hc h63
    rw [← hn]
    have hrn : r.length = n - 1 := by rw [hn]; simp
    have hn0 : 0 < n := by rw [hn]; simp
    rw [hrn] at hcv
    have p0 : ((n : Int) == 0) = false := by rw [beq_eq_false_iff_ne]; omega
    have p1 : (0 : Int) < n := by omega
    have hx := x.toNat_lt
    have ht74 : w.cell? ⟨T, 74, none⟩ = some (.string (str [])) := (askAt_cell hT 74).trans (AskD.at74 (askNew_ok key op))
    have fr := blk_free hT 74
    have hfin : (w.setCell ⟨T, 74, none⟩ (.string (str r))).heap[T]? = some (.cells ({ askNew key op with name := r } : AskD).cells.toArray 45 (0, 0)) := by
      rw [heap_setCell_row hT, ← AskD.setName (askNew_ok key op) r]
      simp
    have HT := Lib.hid hT
    have HF := Lib.hid (And.intro hfin (And.intro hrn hn))
    have hpos : ∀ W, (Instr.slice 40 (.slice (some ⟨b, o, none⟩) n c) (some (.int .i64 1)) none none).run Tryz.prog W = .ok (.slice A' (n - 1) (c - 1)) W := sl
    clear hT hrow hcl sl rl hr1 hd hfin hl hn
    have p3 : (1:Int) ≤ n := by omega
    by_cases hq : x.toNat = r.length
    · have p2 : ((x.toNat : Int) != (n : Int) - 1) = false := by rw [bne_eq_false_iff_eq]; omega
      have hm : mnamed (x :: r) = { MRes.none true with nm := r } := by simp [mnamed, hq]
      rw [hm]
      have H0 := Lib.hid hrn
      clear hm hrn hq
      go_enter Tryz.func28, Tryz.ntmps28
      go_wp2
      go_ret
      exact ⟨rfl, Mod.setCell (F := fun b => b = T) (p := ⟨T, 74, none⟩) (Mod.refl _ _) (.inr rfl) _, fun _ => ⟨TV.zero, none, 0, by rw [askAt, ← askName_eq]; exact HF.out.1, rfl, TV.zero_rows _ _⟩⟩
    · have p2 : ((x.toNat : Int) != (n : Int) - 1) = true := by rw [bne_iff_ne]; omega
      have hm : mnamed (x :: r) = .none false := by simp [mnamed, hq]
      rw [hm]
      clear hm hrn hq
      go_enter Tryz.func28, Tryz.ntmps28
      go_wp2
      go_ret
      exact rdC_none HT.out rfl
end

section
attribute [local go_sem] stPair gtPair gtK8 gtM6 run_store_func
attribute [local go_sem high] neqPair eqK8 eqM6
attribute [local go_sem ↓] load_fold store_fold alloc_fold slice_op_fold con_load_fold chg_load_fold ten_zero_fold con_alloc_fold con_store_fold con_zero_fold chg_alloc_fold chg_store_fold chg_zero_fold chg_put_fold macLoad_fold macStore_fold keyLoad_fold keyStore_fold chg_make_fold chg_slice_fold askLoad_fold askStore_fold askAlloc_fold askBox_fold askZero_fold reqLoad_fold reqStore_fold reqAlloc_fold reqBox_fold reqZero_fold askPut_fold reqPut_fold
open Go.RowKit
set_option linter.unusedVariables false
/-- A version that is read, byte by byte. -/
def vfold (l : List UInt8) : Nat := l.foldl (fun n x => n % 2 ^ 56 * 256 + x.toNat) 0
theorem vfold_snoc (l : List UInt8) (x : UInt8) : vfold (l ++ [x]) = vfold l % 2 ^ 56 * 256 + x.toNat := by simp [vfold]
theorem vfold_beval : ∀ (l : List UInt8), l.length ≤ 8 → vfold l = beval l := by
  intro l
  have h : ∀ k, k ≤ 8 → k ≤ l.length → vfold (l.take k) = beval (l.take k) := by
    intro k
    induction k with
    | zero => intros; simp [vfold, beval]
    | succ k ih =>
      intro h8 hl
      have h1 := ih (by omega) (by omega)
      rw [List.take_succ_eq_append_getElem (by omega), vfold_snoc, beval_snoc, h1]
      have h2 := beval_lt (l.take k)
      rw [List.length_take, Nat.min_eq_left (by omega)] at h2
      have h3 : (256 : Nat) ^ k ≤ 256 ^ 7 := Nat.pow_le_pow_right (by omega) (by omega)
      rw [Nat.mod_eq_of_lt (by have : (256:Nat) ^ 7 = 2 ^ 56 := rfl; omega)]
  intro hl
  have := h l.length hl (Nat.le_refl _)
  rwa [List.take_length] at this
set_option maxRecDepth 100000 in
theorem rd_begin {w : World} {T c : Nat} {A : Option Addr} {key : K8} {op : Nat} (B : List UInt8) (hT : askAt w T (askNew key op)) (hrow : RowAt (fun b => b ≠ T) w A (bcells B)) (hc : B.length ≤ c) (hB : B.length ≤ 100000000) :
    Calls Tryz.prog 30 #[.pointer (some ⟨T, 0, none⟩), .slice A B.length c] w (RdC (if B.length = 8 then { MRes.none true with ver := beval B } else .none false) key op T w) := by
  obtain ⟨n, hn⟩ : ∃ n, n = B.length := ⟨_, rfl⟩
  rw [← hn] at hc hB
  rw [← hn]
  have H0 := Lib.hid (And.intro hT (And.intro hrow hn))
  obtain ⟨res, hres⟩ : ∃ res : MRes, res = (if n = 8 then { MRes.none true with ver := beval B } else .none false) := ⟨_, rfl⟩
  rw [← hres]
  have HRES := Lib.hid hres
  clear hT hrow hn hres
  go_enter Tryz.func30, Tryz.ntmps30
  go_wp2
  go_loopw [6, 9] (fun x i wr => ∃ (k : Nat), i = .int .i64 k ∧ k ≤ n ∧ askAt wr T { askNew key op with ver := vfold (B.take k) } ∧ Mod (fun b => b = T) w wr) (fun _ i _ => n - (intOf i).toNat)
  case atStart => exact ⟨0, rfl, by omega, H0.out.1, Mod.refl _ _⟩
  case round =>
    obtain ⟨k, rfl, hk, hat, hm⟩ := hrel
    by_cases hlt : k < n
    · obtain ⟨x, hx⟩ : ∃ x, B[k]? = some x := ⟨_, List.getElem?_eq_getElem (by have := H0.out.2.2; omega)⟩
      have hxc : (bcells B)[k]? = some (.int .u8 (x.toNat : Int)) := by simp [bcells, hx]
      have hrow' := H0.out.2.1.keeps (hm.keeps (fun b _ hb f => hb f))
      obtain ⟨b, o, rfl, hbT, _, hcell⟩ := hrow'.open (by intro e; rw [e] at hxc; simp at hxc)
      have hc0 := hcell k _ hxc
      obtain ⟨m, hmv⟩ : ∃ m, m = vfold (B.take k) := ⟨_, rfl⟩
      obtain ⟨m', hm'⟩ : ∃ m', m' = m % 2 ^ 56 := ⟨_, rfl⟩
      have c9 : wr.cell? ⟨T, 9, none⟩ = some (.int .u64 (m : Int)) := by rw [askAt_cell hat, AskD.at9, hmv]
      have f9 := blk_free hat 9
      have hx8 := x.toNat_lt
      have hm6 : m' < 2 ^ 56 := by rw [hm']; exact Nat.mod_lt _ (by decide)
      have e1 : IntKind.u64.wrap ((m : Int) * 256) = (m' : Int) * 256 := by rw [hm']; simp [IntKind.wrap, IntKind.bits, IntKind.signed]; omega
      have e2 : IntKind.u64.wrap (x.toNat : Int) = (x.toNat : Int) := by simp [IntKind.wrap, IntKind.bits, IntKind.signed]; omega
      have e3 := or_low m' x.toNat hm6 hx8
      have e4 : (m' : Int) * 256 + (x.toNat : Int) = ((m' * 256 + x.toNat : Nat) : Int) := by omega
      have e5 : vfold (B.take (k + 1)) = m' * 256 + x.toNat := by
        obtain ⟨hlx, ex⟩ := List.getElem?_eq_some_iff.1 hx
        rw [List.take_succ_eq_append_getElem hlx, ex, vfold_snoc, ← hmv, ← hm']
      have hfin : askAt (wr.setCell ⟨T, 9, none⟩ (.int .u64 ((m' * 256 + x.toNat : Nat) : Int))) T { askNew key op with ver := vfold (B.take (k + 1)) } := by
        have hs := AskD.setVer { askNew key op with ver := vfold (B.take k) } (m' * 256 + x.toNat)
        rw [askAt, heap_setCell_row hat, e5]
        simp only [List.setIfInBounds_toArray]
        rw [hs]
      have hmf : Mod (fun b => b = T) w (wr.setCell ⟨T, 9, none⟩ (.int .u64 ((m' * 256 + x.toNat : Nat) : Int))) := Mod.setCell (p := ⟨T, 9, none⟩) hm (.inr rfl) _
      have HX := Lib.hid (And.intro hfin (And.intro hmf e4))
      have p1 : (0:Int) ≤ k := by omega
      have p2 : (k:Int) < n := by omega
      clear hx hxc hcell hmv hm' hm6 hx8 hat hm hfin hmf e4 e5 hrow' hbT
      go_wp2
      rw [HX.out.2.2]
      exact ⟨⟨k + 1, by go_num, by omega, HX.out.1, HX.out.2.1⟩, by simp [intOf]; omega⟩
    · have hk' : k = n := by omega
      subst hk'
      have HR := Lib.hid (And.intro hat hm)
      clear hat hm
      by_cases h8 : k = 8
      · subst h8
        go_wp2
        go_ret
        rw [HRES.out, if_pos (by trivial)]
        refine ⟨rfl, HR.out.2, fun _ => ⟨TV.zero, none, 0, ?_, rfl, TV.zero_rows _ _⟩⟩
        have := HR.out.1
        rw [H0.out.2.2, List.take_length, vfold_beval _ (by rw [← H0.out.2.2]; exact Nat.le_refl _), askVer_eq] at this
        exact this
      · have p8 : ((k : Int) == 8) = false := by rw [beq_eq_false_iff_ne]; omega
        go_wp2
        go_ret
        rw [HRES.out, if_neg h8]
        exact ⟨rfl, HR.out.2, fun f => by cases f⟩
set_option maxRecDepth 100000 in
theorem rd_stage {w : World} {T c : Nat} {A : Option Addr} {key : K8} {op : Nat} (B : List UInt8) (hT : askAt w T (askNew key op)) (hrow : RowAt (fun b => b < w.heap.size) w A (bcells B)) (hc : B.length ≤ c) (hB : B.length ≤ 100000000) :
    Calls Tryz.prog 32 #[.pointer (some ⟨T, 0, none⟩), .slice A B.length c] w (RdC (mchg B) key op T w) := by
  obtain ⟨put, name, t, ce, hq⟩ : ∃ put name t ce, ocg B = (put, name, t, ce) := ⟨_, _, _, _, rfl⟩
  have HC := Lib.hid (chg_q (openChange_ok B hrow hc hB) hq)
  have hmc : mchg B = if ce = 0 then ⟨true, 0, put, name, t, .zero, []⟩ else .none false := by rw [mchg, hq]
  rw [hmc]
  obtain ⟨n, hn⟩ : ∃ n, n = B.length := ⟨_, rfl⟩
  rw [← hn] at HC
  rw [← hn]
  have H0 := Lib.hid hT
  clear hT hrow hn hmc hq hc hB
  obtain ⟨bb, hbb⟩ : ∃ bb, bb = decide (ce = 0) := ⟨_, rfl⟩
  have p0 : ((ce : Int) == 0) = bb := by rw [hbb, Bool.eq_iff_iff]; simp
  obtain ⟨res, hres⟩ : ∃ res : MRes, res = if ce = 0 then ⟨true, 0, put, name, t, .zero, []⟩ else .none false := ⟨_, rfl⟩
  rw [← hres]
  have HR := Lib.hid (And.intro hbb hres)
  clear hbb hres
  go_enter Tryz.func32, Tryz.ntmps32
  go_wp2_with (first
    | (go_at_call 33; refine HC.out.mono ?_; rintro e w1 ⟨CA, x, rfl, a1, a2, a3, a4, a5, a6⟩
       obtain ⟨W1, hst, hat, hmt⟩ := askAt_chg (a4.obj H0.out id) (askNew_ok key op) CA a5 a6
       have HN := Lib.hid (And.intro a1 (And.intro a2 (And.intro a3 (And.intro a4 (And.intro hat hmt))))); clear a1 a2 a3 a4 a5 a6 hat hmt)
    | fail)
  go_ret
  obtain ⟨a1, a2, a3, a4, hat, hmt⟩ := HN.out
  obtain ⟨hbb, hres⟩ := HR.out
  have hm : Mod (fun b => b = T) w W1 := (a4.mono (fun _ f => f.elim)).trans hmt
  by_cases h0 : ce = 0
  · rw [hres, if_pos h0]
    rw [h0] at hbb
    rw [hbb]
    have hTlt := lt_of_block H0.out
    refine ⟨rfl, hm, fun _ => ⟨x, none, 0, ?_, a2, a3.keeps (hmt.keeps (fun b _ hb f => by subst f; omega))⟩⟩
    rw [a1, askChg_eq key op put name t] at hat
    exact hat
  · rw [hres, if_neg h0]
    rw [hbb, decide_eq_false h0]
    exact ⟨rfl, hm, fun f => by cases f⟩
set_option maxRecDepth 100000 in
theorem rd_gate {w : World} {T c : Nat} {A : Option Addr} {key : K8} {op : Nat} (B : List UInt8) (hT : askAt w T (askNew key op)) (hrow : RowAt (fun b => b < w.heap.size) w A (bcells B)) (hc : B.length ≤ c) (hB : B.length ≤ 100000000) :
    Calls Tryz.prog 36 #[.pointer (some ⟨T, 0, none⟩), .slice A B.length c] w (RdC (mcon B) key op T w) := by
  obtain ⟨cc, lt, ce, hq⟩ : ∃ cc lt ce, ocf B = (cc, lt, ce) := ⟨_, _, _, rfl⟩
  have HC := Lib.hid (con_q (openConfig_ok B hrow hc hB) hq)
  have hmc : mcon B = if ce = 0 ∧ lt = [] then { MRes.none true with cc := cc } else .none false := by rw [mcon, hq]
  rw [hmc]
  obtain ⟨n, hn⟩ : ∃ n, n = B.length := ⟨_, rfl⟩
  rw [← hn] at HC
  rw [← hn]
  have H0 := Lib.hid hT
  clear hT hrow hn hmc hq hc hB
  have hfin : ∀ (W1 w1 : World) (CA : Array Value) (Q : Option Addr) (p : Nat), Mod No w w1 → Mod (fun b => b = T) w1 W1 → askAt W1 T { askNew key op with con := CA.toList } → CA = cc.cells (.slice Q lt.length p) → RdC (if ce = 0 ∧ lt = [] then { MRes.none true with cc := cc } else .none false) key op T w (.returned (.bool (decide (ce = 0 ∧ lt = [])))) W1 := by
    intro W1 w1 CA Q p a4 hmt hat a1
    have hm : Mod (fun b => b = T) w W1 := (a4.mono (fun _ f => f.elim)).trans hmt
    by_cases h0 : ce = 0 ∧ lt = []
    · rw [if_pos h0, decide_eq_true h0]
      refine ⟨rfl, hm, fun _ => ⟨TV.zero, Q, p, ?_, rfl, TV.zero_rows _ _⟩⟩
      rw [a1, h0.2] at hat
      rw [askAt, ← askCon_eq]
      exact hat
    · rw [if_neg h0, decide_eq_false h0]
      exact ⟨rfl, hm, fun f => by cases f⟩
  have HF := Lib.hid hfin
  clear hfin
  by_cases h0 : ce = 0
  · subst h0
    obtain ⟨bb, hbb⟩ : ∃ bb, bb = decide (((0:Nat) = 0 ∧ lt = [])) := ⟨_, rfl⟩
    obtain ⟨m, hml⟩ : ∃ m, m = lt.length := ⟨_, rfl⟩
    have p0 : ((m : Int) == 0) = bb := by
      rw [hbb, Bool.eq_iff_iff, hml]
      simp
    obtain ⟨res, hres⟩ : ∃ res : MRes, res = if 0 = 0 ∧ lt = [] then { MRes.none true with cc := cc } else .none false := ⟨_, rfl⟩
    rw [← hres]
    have HR := Lib.hid (And.intro hbb (And.intro hres hml))
    clear hbb hres hml
    go_enter Tryz.func36, Tryz.ntmps36
    go_wp2_with (first
      | (go_at_call 37; refine HC.out.mono ?_; rintro e w1 ⟨CA, Q, p, l, rfl, a1, a2, a3, a4, a5, a6⟩
         obtain ⟨W1, hst, hat, hmt⟩ := askAt_con (a4.obj H0.out id) (askNew_ok key op) CA a5 a6
         have c73 : W1.cell? ⟨T, 73, none⟩ = some (.slice Q m p) := (askAt_cell hat 73).trans ((AskD.atCon (a := { askNew key op with con := CA.toList }) ⟨(askNew_ok key op).chg, by simpa using a5, (askNew_ok key op).chg1, fun v hv => Array.all_eq_true_iff_forall_mem.1 a6 v (by simpa using hv)⟩ 28 (by decide)).trans (by simp only; rw [a1, HR.out.2.2]; rfl))
         have HN := Lib.hid (And.intro a1 (And.intro a4 (And.intro hat hmt))); clear a1 a2 a3 a4 a5 a6 hat hmt)
      | fail)
    go_ret
    obtain ⟨a1, a4, hat, hmt⟩ := HN.out
    rw [HR.out.1, HR.out.2.1]
    exact HF.out _ _ _ _ _ a4 hmt hat a1
  · have p0 : ((ce : Int) == 0) = false := by rw [beq_eq_false_iff_ne]; omega
    have hbb : decide (ce = 0 ∧ lt = []) = false := by simp [h0]
    obtain ⟨res, hres⟩ : ∃ res : MRes, res = if ce = 0 ∧ lt = [] then { MRes.none true with cc := cc } else .none false := ⟨_, rfl⟩
    rw [← hres]
    have HR := Lib.hid (And.intro hbb hres)
    clear hbb hres
    go_enter Tryz.func36, Tryz.ntmps36
    go_wp2_with (first
      | (go_at_call 37; refine HC.out.mono ?_; rintro e w1 ⟨CA, Q, p, l, rfl, a1, a2, a3, a4, a5, a6⟩
         obtain ⟨W1, hst, hat, hmt⟩ := askAt_con (a4.obj H0.out id) (askNew_ok key op) CA a5 a6
         have HN := Lib.hid (And.intro a1 (And.intro a4 (And.intro hat hmt))); clear a1 a2 a3 a4 a5 a6 hat hmt)
      | fail)
    go_ret
    obtain ⟨a1, a4, hat, hmt⟩ := HN.out
    have := HF.out _ _ _ _ _ a4 hmt hat a1
    rw [HR.out.1] at this
    rw [HR.out.2]
    exact this
end

section
attribute [local go_sem] stPair gtPair gtK8 gtM6 run_store_func
attribute [local go_sem high] neqPair eqK8 eqM6
attribute [local go_sem ↓] load_fold store_fold alloc_fold slice_op_fold con_load_fold chg_load_fold ten_zero_fold con_alloc_fold con_store_fold con_zero_fold chg_alloc_fold chg_store_fold chg_zero_fold chg_put_fold macLoad_fold macStore_fold keyLoad_fold keyStore_fold chg_make_fold chg_slice_fold askLoad_fold askStore_fold askAlloc_fold askBox_fold askZero_fold reqLoad_fold reqStore_fold reqAlloc_fold reqBox_fold reqZero_fold askPut_fold reqPut_fold
open Go.RowKit
set_option linter.unusedVariables false
/-- Two bytes of a number. -/
def eb (e : Int) : List UInt8 := [UInt8.ofNat ((e / 256) % 256).toNat, UInt8.ofNat (e % 256).toNat]
theorem eb_cells (x : Int) : bcells (eb x) = [.int .u8 (x / 256 % 256), .int .u8 (x % 256)] := by
  simp [bcells, eb]
  omega
theorem owns_lit {w : World} {E : TypeId} (cs : Array Value) (n : Nat) (h : cs.size = n) (hn : n ≤ 1000) : (w.alloc (.cells cs E)).ownsRow w.heap.size E 1 (.slice (some ⟨w.heap.size, 0, none⟩) n n) n cs.toList :=
  ⟨by simpa using h, .inr ⟨w.heap.size, n, cs, rfl, Nat.le_refl _, at10 w _, Nat.le_refl _, by unfold maxLen; omega, by simpa using h, by rw [Nat.mul_one, List.take_of_length_le (by simp [h])]⟩⟩
set_option maxRecDepth 100000 in
theorem reply_ok {S : Nat → Prop} {w : World} (x : Int) (B : List UInt8) {A : Option Addr} {c : Nat} (hrow : RowAt S w A (bcells B)) (hB : B.length ≤ 100000) :
    Calls Tryz.prog 14 #[.int .i64 x, .slice A B.length c] w fun e w' => ∃ v, e = .returned v ∧ OwnB w' w.heap.size v (eb x ++ B) ∧ Mod No w w' := by
  obtain ⟨i0, hi, hz0, hz1, hz2⟩ := info_parts infoU8
  have hm1 : Mod No w (w.alloc (.cells #[.int .u8 (x / 256 % 256), .int .u8 (x % 256)] 5)) := (Mod.refl _ _).alloc _
  obtain ⟨v2, w2, hrun, ho2, hg2, hb2⟩ := run_append_row (P := Tryz.prog) (w.alloc (.cells #[.int .u8 (x / 256 % 256), .int .u8 (x % 256)] 5)) w.heap.size 40 40 5 i0 _ 1 1 Tryz.underlying40 hi hz0 hz1 hz2 rfl (by decide) _ _ _ (owns_lit _ 2 rfl (by decide)) A B.length c (bcells B) (hrow.keeps (hm1.keeps (fun _ _ _ f => f))) (by rw [bcells_length, Nat.mul_one]) (bcells_one B) (by unfold maxLen; omega) (by omega) (by simp)
  have hm2 : Mod No w w2 := hm1.trans' (F := No) (G := fun b => b = w.heap.size) (Mod.grown (Mod.refl _ _) hg2 (fun q hq => .inr (by simpa [Value.ownBlock] using hq.symm))) (fun i hi hg => by omega)
  have hfin : OwnB w2 w.heap.size v2 (eb x ++ B) := by
    unfold OwnB
    rw [bcells_append, eb_cells, List.length_append]
    exact ho2
  have HF := Lib.hid (And.intro hfin hm2)
  clear hrow hm1 ho2 hg2 hb2 hm2 hfin hi hz0 hz1 hz2
  go_enter Tryz.func14, Tryz.ntmps14
  go_wp2_with (at_builtin; refine Lib.wpList_append_run _ (by rfl) _ _ _ _ (by rfl) _ _ (by rfl) (by rfl) _ _ hrun ?_)
  go_ret
  exact ⟨_, rfl, HF.out⟩
theorem or_byte (n x : Nat) (hn : n < 256) (hx : x < 256) : bits .or .i64 ((n : Int) * 256) (x : Int) = (n : Int) * 256 + x := by
  have h1 : (BitVec.ofInt 64 ((n : Int) * 256)) = BitVec.ofNat 64 (n <<< 8) := by
    have e : ((n : Int) * (256 : Int)) = ((n <<< 8 : Nat) : Int) := by rw [Nat.shiftLeft_eq]; omega
    rw [e]
    exact BitVec.ofInt_natCast ..
  have h2 : (BitVec.ofInt 64 (x : Int)) = BitVec.ofNat 64 x := BitVec.ofInt_natCast ..
  have h3 : n <<< 8 ||| x = n * 256 + x := by rw [← Nat.shiftLeft_add_eq_or_of_lt (by simpa using hx), Nat.shiftLeft_eq]
  have h4 : (BitVec.ofNat 64 (n <<< 8) ||| BitVec.ofNat 64 x).toNat = n * 256 + x := by
    rw [BitVec.toNat_or, BitVec.toNat_ofNat, BitVec.toNat_ofNat, Nat.mod_eq_of_lt (by rw [Nat.shiftLeft_eq]; omega), Nat.mod_eq_of_lt (by omega), h3]
  have h5 : bits .or .i64 ((n : Int) * 256) (x : Int) = IntKind.i64.wrap ((BitVec.ofInt 64 ((n : Int) * 256) ||| BitVec.ofInt 64 (x : Int)).toNat) := rfl
  rw [h5, h1, h2, h4]
  simp [IntKind.wrap, IntKind.bits, IntKind.signed]
  omega
set_option maxRecDepth 100000 in
theorem openReply_ok {S : Nat → Prop} {w : World} (x y : UInt8) (B : List UInt8) {A : Option Addr} {n c : Nat} (hrow : RowAt S w A (bcells (x :: y :: B))) (hn : n = B.length + 2) (hc : n ≤ c) (hB : B.length ≤ 100000) :
    Calls Tryz.prog 13 #[.slice A n c] w fun e w' => ∃ v, e = .returned (.tuple #[.int .i64 ((x.toNat : Int) * 256 + y.toNat), v, .bool true]) ∧ OwnB w' w.heap.size v B ∧ Mod No w w' := by
  obtain ⟨b, o, rfl, _, _, hcl⟩ := hrow.open (by simp [bcells])
  have c0 := hcl 0 (.int .u8 (x.toNat : Int)) rfl
  have c1 := hcl 1 (.int .u8 (y.toNat : Int)) rfl
  rw [Nat.add_zero] at c0
  obtain ⟨A2, sl2, rl2⟩ := own_tail n c 2 (some ⟨b, o, none⟩) (by omega) hc
  have hr2 := rl2 S w _ hrow
  have hd : ((bcells (x :: y :: B)).drop 2).take (n - 2) = bcells B := by
    show (bcells B).take (n - 2) = _
    rw [List.take_of_length_le (by rw [bcells_length]; omega)]
  rw [hd] at hr2
  have HC : ∀ W, Mod No w W → Calls Tryz.prog 25 #[.slice A2 (n - 2) (c - 2)] W fun e w' => ∃ v, e = .returned v ∧ OwnB w' w.heap.size v B ∧ Mod No w w' ∧ w'.cell? ⟨b, o, none⟩ = some (.int .u8 (x.toNat : Int)) ∧ w'.cell? ⟨b, o + 1, none⟩ = some (.int .u8 (y.toNat : Int)) := fun W hW => by
    refine (clone_okU8 (w := W) (n := n - 2) (bcells B) (hr2.keeps (hW.keeps (fun _ _ _ f => f))) (by rw [bcells_length]; omega) (bcells_one B) (by omega)).mono ?_
    rintro e w' ⟨v, rfl, ho, hm⟩
    have hl : B.length = n - 2 := by omega
    refine ⟨v, rfl, ?_, hW.trans hm, (hW.trans hm).cell c0 id, (hW.trans hm).cell c1 id⟩
    unfold OwnB
    rw [hl]
    exact own_base ho hW.size
  have sl2' : ∀ W, (Instr.slice 40 (.slice (some ⟨b, o, none⟩) n c) (some (.int .i64 2)) none none).run Tryz.prog W = .ok (.slice A2 (n - 2) (c - 2)) W := sl2
  have hx := x.toNat_lt
  have hy := y.toNat_lt
  have hor := or_byte x.toNat y.toNat (by omega) (by omega)
  have e1 : IntKind.i64.wrap (x.toNat : Int) = x.toNat := IntWalk.i64_in _ (by omega)
  have e2 : IntKind.i64.wrap ((x.toNat : Int) * 256) = (x.toNat : Int) * 256 := IntWalk.i64_in _ (by omega)
  have e3 : IntKind.i64.wrap (y.toNat : Int) = y.toNat := IntWalk.i64_in _ (by omega)
  have p1 : ¬ (n : Int) < 2 := by omega
  have p2 : (1 : Int) < n := by omega
  have p3 : (0 : Int) < n := by omega
  have p4 : 0 < n := by omega
  have p5 : 1 < n := by omega
  have HCC := Lib.hid HC
  have C := Lib.hid (And.intro c0 c1)
  clear hrow hcl sl2 rl2 hr2 hd hn hB HC hx hy
  go_enter Tryz.func13, Tryz.ntmps13
  go_upto_region 3 with fail
  go_region_held3 (fun W => W.cell? ⟨b, o, none⟩ = some (.int .u8 (x.toNat : Int)) ∧ W.cell? ⟨b, o + 1, none⟩ = some (.int .u8 (y.toNat : Int)))
    (first | go_keep | (exact H1.out.2.2))
    ((go_at_call 25; refine (HCC.out _ ?_).mono ?_; (repeat (first | with_reducible exact Mod.refl _ _ | refine Mod.drew ?_)); rintro e w1 ⟨v1, rfl, h1, h2, h3⟩; have H1 := Lib.hid (And.intro h1 (And.intro h2 h3)); clear h1 h2 h3))
  go_wp2
  go_ret3
  exact ⟨_, rfl, H1.out.1, H1.out.2.1⟩
end

section
attribute [local go_sem] stPair gtPair gtK8 gtM6 run_store_func
attribute [local go_sem high] neqPair eqK8 eqM6
attribute [local go_sem ↓] load_fold store_fold alloc_fold slice_op_fold con_load_fold chg_load_fold ten_zero_fold con_alloc_fold con_store_fold con_zero_fold chg_alloc_fold chg_store_fold chg_zero_fold chg_put_fold macLoad_fold macStore_fold keyLoad_fold keyStore_fold chg_make_fold chg_slice_fold askLoad_fold askStore_fold askAlloc_fold askBox_fold askZero_fold reqLoad_fold reqStore_fold reqAlloc_fold reqBox_fold reqZero_fold askPut_fold reqPut_fold
open Go.RowKit
set_option linter.unusedVariables false
set_option maxRecDepth 100000 in
theorem get_ok {S : Nat → Prop} {w : World} {A : Option Addr} {c : Nat} (B : List UInt8) (hrow : RowAt S w A (bcells B)) (hB : B.length ≤ 100000000) :
    Calls Tryz.prog 20 #[.slice A B.length c] w fun e w' => e = .returned (.int .u64 (vfold B : Nat)) ∧ w' = w := by
  obtain ⟨n, hn⟩ : ∃ n, n = B.length := ⟨_, rfl⟩
  rw [← hn] at hB
  rw [← hn]
  have H0 := Lib.hid (And.intro hrow hn)
  obtain ⟨R, hR⟩ : ∃ R, R = vfold B := ⟨_, rfl⟩
  rw [← hR]
  have HR := Lib.hid hR
  clear hrow hn hR
  go_enter Tryz.func20, Tryz.ntmps20
  go_wp2
  go_loopw [3, 4] (fun v i wr => ∃ (k m : Nat), i = .int .i64 k ∧ k ≤ n ∧ v = .int .u64 m ∧ m = vfold (B.take k) ∧ w = wr) (fun _ i _ => n - (intOf i).toNat)
  case atStart => exact ⟨0, 0, rfl, by omega, rfl, by simp [vfold], rfl⟩
  case round =>
    obtain ⟨k, m, rfl, hk, rfl, hmv, rfl⟩ := hrel
    by_cases hlt : k < n
    · obtain ⟨x, hx⟩ : ∃ x, B[k]? = some x := ⟨_, List.getElem?_eq_getElem (by have := H0.out.2; omega)⟩
      have hxc : (bcells B)[k]? = some (.int .u8 (x.toNat : Int)) := by simp [bcells, hx]
      obtain ⟨b, o, rfl, hbT, _, hcell⟩ := H0.out.1.open (by intro e; rw [e] at hxc; simp at hxc)
      have hc0 := hcell k _ hxc
      obtain ⟨m', hm'⟩ : ∃ m', m' = m % 2 ^ 56 := ⟨_, rfl⟩
      have hx8 := x.toNat_lt
      have hm6 : m' < 2 ^ 56 := by rw [hm']; exact Nat.mod_lt _ (by decide)
      have e1 : IntKind.u64.wrap ((m : Int) * 256) = (m' : Int) * 256 := by rw [hm']; simp [IntKind.wrap, IntKind.bits, IntKind.signed]; omega
      have e2 : IntKind.u64.wrap (x.toNat : Int) = (x.toNat : Int) := by simp [IntKind.wrap, IntKind.bits, IntKind.signed]; omega
      have e3 := or_low m' x.toNat hm6 hx8
      have e5 : m' * 256 + x.toNat = vfold (B.take (k + 1)) := by
        obtain ⟨hlx, ex⟩ := List.getElem?_eq_some_iff.1 hx
        rw [List.take_succ_eq_append_getElem hlx, ex, vfold_snoc, ← hmv, ← hm']
      have HX := Lib.hid e5
      have p1 : (0:Int) ≤ k := by omega
      have p2 : (k:Int) < n := by omega
      clear hx hxc hcell hmv hm' hm6 hx8 e5 hbT
      go_wp2
      exact ⟨⟨k + 1, m' * 256 + x.toNat, by go_num, by omega, by first | simp | go_num, HX.out, by first | rfl | trivial⟩, by simp [intOf]; omega⟩
    · have hk' : k = n := by omega
      subst hk'
      have hf : m = R := by rw [hmv, HR.out, H0.out.2, List.take_length]
      subst hf
      clear hmv
      go_wp2
      go_ret
      exact ⟨rfl, rfl⟩
theorem take_snoc'' {α : Type} {l : List α} {j : Nat} {z : α} (h : l[j]? = some z) : l.take (j + 1) = l.take j ++ [z] := by
  obtain ⟨hlx, ex⟩ := List.getElem?_eq_some_iff.1 h
  rw [List.take_succ_eq_append_getElem hlx, ex]
theorem be_succ (k n : Nat) : be (k + 1) n = UInt8.ofNat (n / 256 ^ k) :: be k n := rfl
theorem be_take (n : Nat) : ∀ k j, j ≤ k → (be k n).drop (k - j) = be j n := by
  intro k
  induction k with
  | zero =>
    intro j hj
    obtain rfl : j = 0 := by omega
    rfl
  | succ k ih =>
    intro j hj
    by_cases h : j = k + 1
    · subst h; simp
    · rw [show k + 1 - j = (k - j) + 1 by omega, be_succ, List.drop_succ_cons]
      exact ih j (by omega)
/-- The first k - j bytes of k, then one more. -/
theorem be_snoc (n k j : Nat) (hj : j < k) : (be k n).take (k - j) = (be k n).take (k - (j + 1)) ++ [UInt8.ofNat (n / 256 ^ j)] := by
  have h1 := be_take n k (j + 1) (by omega)
  rw [be_succ] at h1
  have hl := be_length k n
  have h2 : (be k n)[k - (j + 1)]? = some (UInt8.ofNat (n / 256 ^ j)) := by
    have := congrArg (fun l => l[0]?) h1
    simpa [List.getElem?_drop] using this
  rw [show k - j = (k - (j + 1)) + 1 by omega]
  exact take_snoc'' h2
set_option maxRecDepth 100000 in
theorem put_ok {w : World} {base : Nat} {v : Value} {L : List UInt8} (h : OwnB w base v L) (hb : base ≤ w.heap.size) (hL : L.length ≤ 90000000) (n k : Nat) (hk : k ≤ 8) :
    Calls Tryz.prog 17 #[v, .int .u64 (n : Int), .int .i64 k] w fun e w' => ∃ v', e = .returned v' ∧ Gr base v w v' w' (L ++ be k n) := by
  have H0 := Lib.hid (And.intro h (And.intro hb hL))
  have p0 : IntKind.i64.wrap ((k : Int) - 1) = (k : Int) - 1 := IntWalk.i64_in _ (by omega)
  clear h hb hL
  go_enter Tryz.func17, Tryz.ntmps17
  go_wp2
  go_loopw [0, 7] (fun b i wr => ∃ (j : Nat) (v' : Value), i = .int .i64 ((j : Int) - 1) ∧ j ≤ k ∧ v' = b ∧ Gr base v w v' wr (L ++ (be k n).take (k - j))) (fun _ i _ => (intOf i + 1).toNat)
  case atStart => exact ⟨k, v, rfl, by omega, rfl, by simpa using Gr.refl H0.out.1⟩
  case round =>
    obtain ⟨j, v', rfl, hj, rfl, hg⟩ := hrel
    by_cases h0 : j = 0
    · subst h0
      have HG := Lib.hid hg
      clear hg
      go_wp2
      go_ret
      have := HG.out
      rw [Nat.sub_zero, List.take_of_length_le (by rw [be_length]; exact Nat.le_refl _)] at this
      exact ⟨_, rfl, this⟩
    · obtain ⟨i, rfl⟩ : ∃ i, j = i + 1 := ⟨j - 1, by omega⟩
      have e0 : (((i + 1 : Nat) : Int) - 1) = i := by omega
      rw [e0]
      clear e0
      obtain ⟨i0, hi, hz0, hz1, hz2⟩ := info_parts infoU8
      have hbc : bcells [UInt8.ofNat (n / 256 ^ i)] = [.int .u8 ((n : Int) / 2 ^ (8 * i) % 256)] := by
        have := wrap_u8_low n i
        have e : IntKind.u8.wrap ((n : Int) / 2 ^ (8 * i)) = (n : Int) / 2 ^ (8 * i) % 256 := by simp [IntKind.wrap, IntKind.bits, IntKind.signed]
        rw [e] at this
        simp only [bcells, List.map_cons, List.map_nil, this]
      obtain ⟨x, hx⟩ : ∃ x : Int, x = (n : Int) / 2 ^ (8 * i) % 256 := ⟨_, rfl⟩
      rw [← hx] at hbc
      have hrow := row_new (fun _ => True) wr [UInt8.ofNat (n / 256 ^ i)]
      rw [hbc] at hrow
      have hm1 : Mod No wr (wr.alloc (.cells #[.int .u8 x] 5)) := (Mod.refl _ _).alloc _
      have hg1 := hg.ext hm1
      have hlen : (L ++ (be k n).take (k - (i + 1))).length ≤ 90000008 := by have := H0.out.2.2; rw [List.length_append, List.length_take, be_length]; omega
      obtain ⟨v2, w2, hrun, ho2, hg2, hb2⟩ := run_append_row (P := Tryz.prog) (wr.alloc (.cells #[.int .u8 x] 5)) base 40 40 5 i0 _ 1 1 Tryz.underlying40 hi hz0 hz1 hz2 rfl (by decide) v' _ _ hg1.own _ 1 1 _ hrow rfl (by intro u hu; simp at hu; subst hu; rfl) (by unfold maxLen; omega) (by omega) (by have := hg1.mod.size; have := H0.out.2.1; omega)
      have hgf : Gr base v w v2 w2 (L ++ (be k n).take (k - i)) := by
        have := hg1.trans (gr_append (L := L ++ (be k n).take (k - (i + 1))) (X := [UInt8.ofNat (n / 256 ^ i)]) (by rw [hbc]; exact ho2) hg2 hb2)
        rw [be_snoc n k i (by omega), ← List.append_assoc]
        exact this
      have HG := Lib.hid hgf
      have p1 : (0 : Int) ≤ i := by omega
      have p2 : (i : Int) < 8 := by omega
      have p3 : IntKind.i64.wrap ((i : Int) - 1) = (i : Int) - 1 := IntWalk.i64_in _ (by omega)
      have HX := Lib.hid hx
      clear hg hi hz0 hz1 hz2 hbc hrow hm1 hg1 ho2 hg2 hb2 hgf hlen
      rw [hx] at hrun
      clear hx
      go_wp2_with (at_builtin; refine Lib.wpList_append_run _ (by rfl) _ _ _ _ (by rfl) _ _ (by rfl) (by rfl) _ _ hrun ?_)
      exact ⟨⟨i, v2, by first | rfl | simp, by omega, by first | rfl | simp, HG.out⟩, by simp [intOf]⟩
end

section
attribute [local go_sem] stPair gtPair gtK8 gtM6 run_store_func
attribute [local go_sem high] neqPair eqK8 eqM6
attribute [local go_sem ↓] load_fold store_fold alloc_fold slice_op_fold con_load_fold chg_load_fold ten_zero_fold con_alloc_fold con_store_fold con_zero_fold chg_alloc_fold chg_store_fold chg_zero_fold chg_put_fold macLoad_fold macStore_fold keyLoad_fold keyStore_fold chg_make_fold chg_slice_fold askLoad_fold askStore_fold askAlloc_fold askBox_fold askZero_fold reqLoad_fold reqStore_fold reqAlloc_fold reqBox_fold reqZero_fold askPut_fold reqPut_fold
open Go.RowKit
set_option linter.unusedVariables false
theorem run_store_nilFunc {P : Program} {w : World} {a : Addr} {m : Mode} : (store a .nilFunc m).run P w = stored P w a .nilFunc m := run_store P w a _ m rfl
attribute [local go_sem] run_store_nilFunc
def fnv (n : Nat) : Value := .func (.func n) #[] #[]
def kindOf (op : Int) : Option (Nat × Nat) :=
  if op = 1 then some (30, 31)
  else if op = 2 then some (32, 34)
  else if op = 3 then some (36, 38)
  else if op = 4 ∨ op = 5 ∨ op = 6 then some (26, 27)
  else if op = 7 ∨ op = 8 then some (28, 29)
  else none
/-- What kinds tells. -/
def kindV (op : Int) : Value :=
  match kindOf op with
  | some (r, wr) => .tuple #[.agg #[fnv r, fnv wr], .bool true]
  | none => .tuple #[.agg #[.nilFunc, .nilFunc], .bool false]
set_option maxRecDepth 100000 in
theorem kinds_lit (w : World) (op : Int) (h : op = 1 ∨ op = 2 ∨ op = 3 ∨ op = 4 ∨ op = 5 ∨ op = 6 ∨ op = 7 ∨ op = 8) :
    Calls Tryz.prog 15 #[.int .i64 op] w fun e w' => e = .returned (kindV op) ∧ Mod No w w' := by
  obtain ⟨kv, hkv⟩ : ∃ kv, kv = kindV op := ⟨_, rfl⟩
  rw [← hkv]
  have HK := Lib.hid hkv
  clear hkv
  rcases h with rfl | rfl | rfl | rfl | rfl | rfl | rfl | rfl
  all_goals
    go_enter Tryz.func15, Tryz.ntmps15
    go_wp2
    refine bodyPost_ret (v := kv) ?_ rfl ⟨rfl, ?_⟩
    · rw [HK.out]
      simp [results, Tryz.results15, go_sem, kindV, kindOf, fnv]
    · repeat (first | with_reducible exact Mod.refl _ _ | refine Mod.alloc ?_ _ | refine Mod.setCell ?_ (.inl (by simp)) _)
set_option maxRecDepth 100000 in
theorem kinds_no (w : World) (op : Int) (h : ¬ (op = 1 ∨ op = 2 ∨ op = 3 ∨ op = 4 ∨ op = 5 ∨ op = 6 ∨ op = 7 ∨ op = 8)) :
    Calls Tryz.prog 15 #[.int .i64 op] w fun e w' => e = .returned (kindV op) ∧ Mod No w w' := by
  have p1 : (op == 1) = false := by rw [beq_eq_false_iff_ne]; omega
  have p2 : (op == 2) = false := by rw [beq_eq_false_iff_ne]; omega
  have p3 : (op == 3) = false := by rw [beq_eq_false_iff_ne]; omega
  have p4 : (op == 4) = false := by rw [beq_eq_false_iff_ne]; omega
  have p5 : (op == 5) = false := by rw [beq_eq_false_iff_ne]; omega
  have p6 : (op == 6) = false := by rw [beq_eq_false_iff_ne]; omega
  have p7 : (op == 7) = false := by rw [beq_eq_false_iff_ne]; omega
  have p8 : (op == 8) = false := by rw [beq_eq_false_iff_ne]; omega
  have hv : kindV op = .tuple #[.agg #[.nilFunc, .nilFunc], .bool false] := by
    have : kindOf op = none := by
      unfold kindOf
      rw [if_neg (by omega), if_neg (by omega), if_neg (by omega), if_neg (by omega), if_neg (by omega)]
    rw [kindV, this]
  rw [hv]
  clear h hv
  go_enter Tryz.func15, Tryz.ntmps15
  go_wp2
  refine bodyPost_ret (v := .tuple #[.agg #[.nilFunc, .nilFunc], .bool false]) ?_ rfl ⟨rfl, ?_⟩
  · simp [results, Tryz.results15, go_sem]
  · repeat (first | with_reducible exact Mod.refl _ _ | refine Mod.alloc ?_ _ | refine Mod.setCell ?_ (.inl (by simp)) _)
theorem kinds_ok (w : World) (op : Int) : Calls Tryz.prog 15 #[.int .i64 op] w fun e w' => e = .returned (kindV op) ∧ Mod No w w' := by
  by_cases h : op = 1 ∨ op = 2 ∨ op = 3 ∨ op = 4 ∨ op = 5 ∨ op = 6 ∨ op = 7 ∨ op = 8
  · exact kinds_lit w op h
  · exact kinds_no w op h
theorem kindOf_some {op : Int} {r wr : Nat} (h : kindOf op = some (r, wr)) : (op = 1 ∧ r = 30 ∧ wr = 31) ∨ (op = 2 ∧ r = 32 ∧ wr = 34) ∨ (op = 3 ∧ r = 36 ∧ wr = 38) ∨
    ((op = 4 ∨ op = 5 ∨ op = 6) ∧ r = 26 ∧ wr = 27) ∨ ((op = 7 ∨ op = 8) ∧ r = 28 ∧ wr = 29) := by
  unfold kindOf at h
  by_cases h1 : op = 1
  · rw [if_pos h1] at h; cases h; exact .inl ⟨h1, rfl, rfl⟩
  rw [if_neg h1] at h
  by_cases h2 : op = 2
  · rw [if_pos h2] at h; cases h; exact .inr (.inl ⟨h2, rfl, rfl⟩)
  rw [if_neg h2] at h
  by_cases h3 : op = 3
  · rw [if_pos h3] at h; cases h; exact .inr (.inr (.inl ⟨h3, rfl, rfl⟩))
  rw [if_neg h3] at h
  by_cases h4 : op = 4 ∨ op = 5 ∨ op = 6
  · rw [if_pos h4] at h; cases h; exact .inr (.inr (.inr (.inl ⟨h4, rfl, rfl⟩)))
  rw [if_neg h4] at h
  by_cases h5 : op = 7 ∨ op = 8
  · rw [if_pos h5] at h; cases h; exact .inr (.inr (.inr (.inr ⟨h5, rfl, rfl⟩)))
  rw [if_neg h5] at h
  cases h
theorem kind_enters {op : Int} {r wr : Nat} (h : kindOf op = some (r, wr)) : (∀ (a : Array Value) (W : World), (callFunc r a).run Tryz.prog W = .ok (.enter r a) W) ∧ (∀ (a : Array Value) (W : World), (callFunc wr a).run Tryz.prog W = .ok (.enter wr a) W) := by
  rcases kindOf_some h with ⟨_, rfl, rfl⟩ | ⟨_, rfl, rfl⟩ | ⟨_, rfl, rfl⟩ | ⟨_, rfl, rfl⟩ | ⟨_, rfl, rfl⟩ <;> exact ⟨fun a W => by go_simp, fun a W => by go_simp⟩
/-- Any closure that reads. -/
theorem read_any {op r wr : Nat} (h : kindOf op = some (r, wr)) {W : World} {T c : Nat} {A : Option Addr} {key : K8} (B : List UInt8) (hT : askAt W T (askNew key op)) (hrow : RowAt (fun b => b < W.heap.size ∧ b ≠ T) W A (bcells B)) (hc : B.length ≤ c) (hB : B.length ≤ 100000000) :
    Calls Tryz.prog r #[.pointer (some ⟨T, 0, none⟩), .slice A B.length c] W (RdC (mrest op B) key op T W) := by
  have h1 := hrow.mono (S' := fun b => b < W.heap.size) (fun b _ hb => hb.1)
  have h2 := hrow.mono (S' := fun b => b ≠ T) (fun b _ hb => hb.2)
  rcases kindOf_some h with ⟨e, rfl, _⟩ | ⟨e, rfl, _⟩ | ⟨e, rfl, _⟩ | ⟨e, rfl, _⟩ | ⟨e, rfl, _⟩
  · obtain rfl : op = 1 := by omega
    exact rd_begin B hT h2 hc hB
  · obtain rfl : op = 2 := by omega
    exact rd_stage B hT h1 hc hB
  · obtain rfl : op = 3 := by omega
    exact rd_gate B hT h1 hc hB
  · have : mrest op B = .none (decide (B = [])) := by
      unfold mrest
      rw [if_neg (by omega), if_neg (by omega), if_neg (by omega), if_pos (by omega)]
    rw [this]
    refine rd_nothing.mono ?_
    rintro e w' ⟨rfl, rfl⟩
    have hd : decide (B.length = 0) = decide (B = []) := by simp
    rw [hd]
    exact rdC_none hT rfl
  · have : mrest op B = mnamed B := by
      unfold mrest
      rw [if_neg (by omega), if_neg (by omega), if_neg (by omega), if_neg (by omega), if_pos (by omega)]
    rw [this]
    exact rd_named B hT h2 hc hB
theorem mrest_none {op : Nat} (h : kindOf op = none) (B : List UInt8) : mrest op B = .none false := by
  unfold kindOf at h
  unfold mrest
  by_cases h1 : (op : Int) = 1
  · rw [if_pos h1] at h; cases h
  rw [if_neg h1] at h
  by_cases h2 : (op : Int) = 2
  · rw [if_pos h2] at h; cases h
  rw [if_neg h2] at h
  by_cases h3 : (op : Int) = 3
  · rw [if_pos h3] at h; cases h
  rw [if_neg h3] at h
  by_cases h4 : (op : Int) = 4 ∨ (op : Int) = 5 ∨ (op : Int) = 6
  · rw [if_pos h4] at h; cases h
  rw [if_neg h4] at h
  by_cases h5 : (op : Int) = 7 ∨ (op : Int) = 8
  · rw [if_pos h5] at h; cases h
  rw [if_neg (by omega), if_neg (by omega), if_neg (by omega), if_neg (by omega), if_neg (by omega)]
end

section
attribute [local go_sem] stPair gtPair gtK8 gtM6 run_store_func run_store_nilFunc
attribute [local go_sem high] neqPair eqK8 eqM6
attribute [local go_sem ↓] load_fold store_fold alloc_fold slice_op_fold con_load_fold chg_load_fold ten_zero_fold con_alloc_fold con_store_fold con_zero_fold chg_alloc_fold chg_store_fold chg_zero_fold chg_put_fold macLoad_fold macStore_fold keyLoad_fold keyStore_fold chg_make_fold chg_slice_fold askLoad_fold askStore_fold askAlloc_fold askBox_fold askZero_fold reqLoad_fold reqStore_fold reqAlloc_fold reqBox_fold reqZero_fold askPut_fold reqPut_fold
open Go.RowKit
set_option linter.unusedVariables false
/-- What a closure that writes tells: bytes, and whether they may be. -/
def WrQ (ok : Bool) (L : List UInt8) (w : World) (e : Ending) (w' : World) : Prop :=
  ∃ v, e = .returned (.tuple #[v, .bool ok]) ∧ OwnB w' w.heap.size v L ∧ Mod No w w'
theorem wr_nothing {w : World} (CA : Array Value) (hs : CA.size = 75) : Calls Tryz.prog 27 #[.agg CA] w (WrQ true [] w) := by
  have hb := askBox_new CA hs
  clear hs
  go_enter Tryz.func27, Tryz.ntmps27
  go_wp2
  go_ret2
  exact ⟨_, rfl, nil_own _ _, (Mod.refl _ _).alloc _⟩
theorem own_one {W : World} {b base : Nat} {x : Int} {l : List UInt8} (hb : W.heap[b]? = some (.cells #[.int .u8 x] 5 (0, 0))) (hl : bcells l = [.int .u8 x]) (hbase : base ≤ b) : OwnB W base (.slice (some ⟨b, 0, none⟩) 1 1) l := by
  have h1 : l.length = 1 := by have := congrArg List.length hl; rwa [bcells_length] at this
  refine ⟨by rw [bcells_length, Nat.mul_one], .inr ⟨b, 1, #[.int .u8 x], by rw [h1], hbase, hb, by omega, by decide, rfl, ?_⟩⟩
  rw [h1, hl]
  rfl
set_option maxRecDepth 100000 in
theorem wr_named {w : World} (a : AskD) (ha : a.ok) (hn : a.name.length ≤ 1000000) : Calls Tryz.prog 29 #[.agg a.cells.toArray] w (WrQ (decide (a.name.length ≤ 255)) (UInt8.ofNat a.name.length :: a.name) w) := by
  have hs := AskD.size ha
  have h74 := AskD.at74 ha
  obtain ⟨CA, hCA⟩ : ∃ CA, CA = a.cells.toArray := ⟨_, rfl⟩
  obtain ⟨nm, hnm⟩ : ∃ nm, nm = a.name := ⟨_, rfl⟩
  rw [← hCA] at hs
  rw [← hCA]
  rw [← hnm] at hn h74
  rw [← hnm]
  have hb := askBox_new CA hs
  have c74 : (w.alloc (.cells CA 45)).cell? ⟨w.heap.size, 74, none⟩ = some (.string (str nm)) := by rw [blk_cell (at10 w _), hCA]; simpa using h74
  obtain ⟨n, hnn⟩ : ∃ n, n = nm.length := ⟨_, rfl⟩
  have hsz : (str nm).size = n := by rw [str_size, hnn]
  have hb1 : bcells [UInt8.ofNat nm.length] = [.int .u8 (IntKind.u8.wrap (n : Int))] := by rw [← hnn]; simp [bcells, IntKind.wrap, IntKind.bits, IntKind.signed]
  obtain ⟨ok, hok⟩ : ∃ ok, ok = decide (nm.length ≤ 255) := ⟨_, rfl⟩
  have p1 : decide ((n : Int) ≤ 255) = ok := by rw [hok, ← hnn, Bool.eq_iff_iff]; simp; omega
  have p2 : (n : Int) ≤ 1000000 := by omega
  obtain ⟨L, hL⟩ : ∃ L, L = UInt8.ofNat nm.length :: nm := ⟨_, rfl⟩
  rw [← hok, ← hL]
  have H := Lib.hid (And.intro hb1 (And.intro hL (And.intro hnn c74)))
  clear hs h74 hCA hnm hb1 hok hL hnn ha
  go_enter Tryz.func29, Tryz.ntmps29
  go_upto_region 1 with fail
  go_region_held3 (fun W => W.cell? ⟨w.heap.size, 74, none⟩ = some (.string (str nm)))
    (first | go_keep | (exact Mod.cell H1.out.2 H1.out.1 (by simp [Value.ownBlock])))
    ((refine step_gr_text (by rfl) _ _ (by rfl) (w0 := ((w.alloc (.cells CA 45)).alloc (.cells #[.int .u8 (IntKind.u8.wrap (n : Int))] 5)).drew) (Gr.refl (base := w.heap.size) (own_one (W := ((w.alloc (.cells CA 45)).alloc (.cells #[.int .u8 (IntKind.u8.wrap (n : Int))] 5)).drew) (at21 w _ _) H.out.1 (by omega))) (by rfl) nm (by rfl) (by have := H.out.2.2.1; simp; omega) (by simp; omega) ?_; intro v' w1 g1 m1; have G1 := Lib.hid g1; have H1 := Lib.hid (And.intro (show (((w.alloc (.cells CA 45)).alloc (.cells #[.int .u8 (IntKind.u8.wrap (n : Int))] 5)).drew).cell? ⟨w.heap.size, 74, none⟩ = some (.string (str nm)) from ((Mod.refl No (w.alloc (.cells CA 45))).alloc _).drew.cell H.out.2.2.2 id) m1); clear g1 m1))
  go_wp2
  go_ret2
  refine ⟨v', rfl, ?_, ?_⟩
  · rw [H.out.2.1]
    exact G1.out.own
  · exact (((Mod.refl No w).alloc _).alloc _).drew.trans' H1.out.2 (fun i hi hg => by simp [Value.ownBlock] at hg; omega)
set_option maxRecDepth 100000 in
theorem wr_stage {w : World} (a : AskD) (ha : a.ok) (put : Bool) (name : List UInt8) (x : TV) (hc : a.chg = (cChg put name x).toList) (hr : x.Rows (· < w.heap.size) w) (hok : x.t.Ok) (hnm : x.t.name.length ≤ 100000000) (hn : name.length ≤ 100000000) :
    Calls Tryz.prog 34 #[.agg a.cells.toArray] w (WrQ true (wchg put name x.t) w) := by
  have hs := AskD.size ha
  obtain ⟨CA, hCA⟩ : ∃ CA, CA = a.cells.toArray := ⟨_, rfl⟩
  rw [← hCA] at hs
  rw [← hCA]
  have hb := askBox_new CA hs
  have hat : askAt (w.alloc (.cells CA 45)) w.heap.size a := by rw [askAt, ← hCA]; exact at10 w _
  have hld := askAt_chgLoad hat ha
  have hm1 : Mod No w (w.alloc (.cells CA 45)) := (Mod.refl _ _).alloc _
  rw [hc] at hld
  obtain ⟨CC, hCC⟩ : ∃ CC, CC = cChg put name x := ⟨_, rfl⟩
  have hCC' : (cChg put name x).toList.toArray = CC := by rw [hCC]
  rw [hCC'] at hld
  have HC := Lib.hid (cfgChange_ok (w := w.alloc (.cells CA 45)) put name x ((hr.keeps (hm1.keeps (fun _ _ _ f => f))).imp (fun b hb => Nat.lt_of_lt_of_le hb hm1.size)) hok hnm hn)
  rw [← hCC] at HC
  obtain ⟨L, hL⟩ : ∃ L, L = wchg put name x.t := ⟨_, rfl⟩
  rw [← hL] at HC
  rw [← hL]
  have HM := Lib.hid hm1
  clear hs hCA hat hc hm1 hCC hCC' hr hok hnm hn hL ha
  go_enter Tryz.func34, Tryz.ntmps34
  go_wp2_with (first | (go_at_call 35; refine HC.out.mono ?_; rintro e w1 ⟨v1, rfl, ho1, hm1⟩; have H1 := Lib.hid (And.intro ho1 hm1); clear ho1 hm1) | fail)
  go_ret2
  exact ⟨v1, rfl, own_base H1.out.1 HM.out.size, HM.out.trans H1.out.2⟩
set_option maxRecDepth 100000 in
theorem wr_gate {w : World} (a : AskD) (ha : a.ok) (c : Con) (l : List TV) (P : Option Addr) (p : Nat) (hc : a.con = (c.cells (.slice P l.length p)).toList) (hip : c.ip < 4294967296) (hdr : c.drain < 4294967296) (hl : l.length ≤ 9223372036854775807) (hrow : RowAt (· < w.heap.size) w P (tvCells l))
    (hok : ∀ x ∈ l, x.t.Ok ∧ x.t.name.length ≤ 100000000 ∧ x.Rows (· < w.heap.size) w) :
    Calls Tryz.prog 38 #[.agg a.cells.toArray] w (WrQ (decide (l = [])) (wcon c l) w) := by
  have hs := AskD.size ha
  obtain ⟨CA, hCA⟩ : ∃ CA, CA = a.cells.toArray := ⟨_, rfl⟩
  rw [← hCA] at hs
  rw [← hCA]
  have hb := askBox_new CA hs
  obtain ⟨W, hW⟩ : ∃ W, W = w.alloc (.cells CA 45) := ⟨_, rfl⟩
  have hat : askAt W w.heap.size a := by rw [askAt, ← hCA, hW]; exact at10 w _
  have hm1 : Mod No w W := by rw [hW]; exact (Mod.refl _ _).alloc _
  obtain ⟨CC, hCC⟩ : ∃ CC, CC = c.cells (.slice P l.length p) := ⟨_, rfl⟩
  obtain ⟨n, hn⟩ : ∃ n, n = l.length := ⟨_, rfl⟩
  have hld : ∀ W', Mod No W W' → (conLoad (.pointer (some ⟨w.heap.size, 45, none⟩))).run Tryz.prog W' = .ok (.agg CC) W' ∧ W'.cell? ⟨w.heap.size, 73, none⟩ = some (.slice P n p) := fun W' hW' => by
    have hat' : askAt W' w.heap.size a := hW'.obj hat id
    refine ⟨?_, ?_⟩
    · rw [askAt_conLoad hat' ha, hc, hCC]
    · rw [askAt_cell hat', hn]
      have := AskD.atCon ha 28 (by decide)
      rw [hc] at this
      exact this
  have HC : ∀ W', Mod No W W' → Calls Tryz.prog 39 #[.agg CC] W' fun e w' => ∃ v, e = .returned v ∧ OwnB w' w.heap.size v (wcon c l) ∧ Mod No W w' := fun W' hW' => by
    have hm := hm1.trans hW'
    have := cfgConfig_ok (w := W') c (.slice P l.length p) l hip hdr ⟨P, p, rfl, (hrow.keeps (hm.keeps (fun _ _ _ f => f))).mono (fun b hb _ => hb)⟩ (fun x hx => ⟨(hok x hx).1, (hok x hx).2.1, ((hok x hx).2.2.keeps (hm.keeps (fun _ _ _ f => f))).imp (fun b hb => Nat.lt_of_lt_of_le hb hm.size)⟩)
    rw [← hCC] at this
    refine this.mono ?_
    rintro e w' ⟨v, rfl, ho, hm2⟩
    exact ⟨v, rfl, own_base ho hm.size, hW'.trans hm2⟩
  obtain ⟨bb, hbb⟩ : ∃ bb, bb = decide (l = []) := ⟨_, rfl⟩
  have p0 : ((n : Int) == 0) = bb := by rw [hbb, hn, Bool.eq_iff_iff]; simp
  obtain ⟨L, hL⟩ : ∃ L, L = wcon c l := ⟨_, rfl⟩
  rw [← hL] at HC
  rw [← hL, ← hbb]
  have HCC := Lib.hid HC
  have HLD := Lib.hid hld
  have HM := Lib.hid hm1
  clear hs hCA hat hc hm1 hCC hip hdr hrow hok hL ha HC hld hbb hn
  have HWW := Lib.hid hW
  go_enter Tryz.func38, Tryz.ntmps38
  go_upto_region 1 with fail
  rw [← HWW.out]
  clear hW HWW
  go_region_held3 (fun W' => (conLoad (.pointer (some ⟨w.heap.size, 45, none⟩))).run Tryz.prog W' = .ok (.agg CC) W' ∧ W'.cell? ⟨w.heap.size, 73, none⟩ = some (.slice P n p))
    (first | (exact HLD.out _ H1.out.2) | (exact HLD.out _ (Mod.refl _ _).drew))
    ((go_at_call 39; refine (HCC.out _ ?_).mono ?_; (exact (Mod.refl _ _).drew); rintro e w1 ⟨v1, rfl, ho1, hm1⟩; have H1 := Lib.hid (And.intro ho1 hm1); clear ho1 hm1))
  go_wp2
  go_ret2
  exact ⟨v1, rfl, H1.out.1, HM.out.trans H1.out.2⟩
end

end Go.Proofs.YtpkieilmlnlpkaaGreat
