/-
  What the laws call besides: tenants, settings, changes held against their likes.
-/
import Derived.Test.YtcnemhhbihhcfaaLawP
namespace Go.Proofs.Ytcnemhhbihhcfaa
open Go.RowKit
set_option linter.unusedVariables false

theorem TV.Rows.size {S : Nat → Prop} {w : World} {x : TV} (h : x.Rows S w) : x.cells.toArray.size = 33 := rfl
/-- Tenants' values: each with rows that are there. -/
def TVl (S : Nat → Prop) (w : World) (A : Option Addr) (l : List TV) : Prop := RowAt S w A (tvCells l) ∧ ∀ x ∈ l, x.Rows S w
theorem TVl.keeps {S : Nat → Prop} {w w' : World} {A : Option Addr} {l : List TV} (h : TVl S w A l) (hk : Keeps S w w') : TVl S w' A l := ⟨h.1.keeps hk, fun x hx => (h.2 x hx).keeps hk⟩
theorem TVl.nil (S : Nat → Prop) (w : World) (A : Option Addr) : TVl S w A [] := ⟨.nil _ _ _, by simp⟩
set_option maxRecDepth 100000 in
theorem tenants_same {S S' : Nat → Prop} {w : World} {A B : Option Addr} {n c d : Nat} {l l' : List TV} (hA : TVl S w A l) (hB : TVl S' w B l') (hn : n = l.length) (he : l.map (·.t) = l'.map (·.t)) (hl : ∀ x ∈ l', x.t.pool.length ≤ 300 ∧ x.t.statics.length ≤ 300 ∧ x.t.twices.length ≤ 300) (h63 : n ≤ 9223372036854775807) :
    Calls Try.prog 48 #[.slice A n c, .slice B n d] w fun e w' => e = .returned (.bool true) ∧ Mod No w w' := by
  have hlen : l'.length = l.length := by have := congrArg List.length he; simpa using this.symm
  have H0 := Lib.hid (And.intro hA (And.intro hB (And.intro hn (And.intro he (And.intro hl hlen)))))
  have hne : ((n : Int) != n) = false := by simp
  clear hA hB hn he hl hlen
  go_enter Try.func48, Try.ntmps48
  go_wp2
  go_loopw [5] (fun i wr => ∃ j : Nat, i = .int .i64 j ∧ j ≤ n ∧ Mod No w wr) (fun i _ => n - (intOf i).toNat)
  case atStart => exact ⟨0, rfl, by omega, Mod.refl _ _⟩
  case round =>
    obtain ⟨j, rfl, hj, hmw⟩ := hrel
    have HM := Lib.hid hmw
    clear hmw
    by_cases hlt : j < n
    · obtain ⟨x, hx⟩ : ∃ x, l[j]? = some x := ⟨_, List.getElem?_eq_getElem (by have := H0.out.2.2.1; omega)⟩
      obtain ⟨y, hy⟩ : ∃ y, l'[j]? = some y := ⟨_, List.getElem?_eq_getElem (by have := H0.out.2.2.1; have := H0.out.2.2.2.2.2; omega)⟩
      have hxy : x.t = y.t := by
        have h1 := congrArg (fun m => m[j]?) H0.out.2.2.2.1
        simpa [hx, hy] using h1
      have kA := H0.out.1.keeps (HM.out.keeps (fun _ _ _ f => f))
      have kB := H0.out.2.1.keeps (HM.out.keeps (fun _ _ _ f => f))
      obtain ⟨b, o, rfl, _, _, hx0⟩ := kA.1.elem TV.cells 33 TV.len (by omega) hx
      obtain ⟨b', o', rfl, _, _, hy0⟩ := kB.1.elem TV.cells 33 TV.len (by omega) hy
      have hkd : ∀ S, Keeps S wr wr.drew := fun S => (Mod.refl No _).drew.keeps (fun _ _ _ f => f)
      have hld1 := tenLoad_mid wr.drew b (o + j * 33) x.cells rfl (fun i v hi => (Mod.refl No wr).drew.cell (hx0 i v hi) id)
      have hld2 := tenLoad_mid wr.drew b' (o' + j * 33) y.cells rfl (fun i v hi => (Mod.refl No wr).drew.cell (hy0 i v hi) id)
      have hly := H0.out.2.2.2.2.1 y (List.mem_of_getElem? hy)
      have hs := (tenant_same (w := wr.drew) ((kA.2 x (List.mem_of_getElem? hx)).keeps (hkd _)) ((kB.2 y (List.mem_of_getElem? hy)).keeps (hkd _)) hxy hly.1 hly.2.1 hly.2.2)
      obtain ⟨TX, hTX⟩ : ∃ TX, TX = x.cells.toArray := ⟨_, rfl⟩
      obtain ⟨TY, hTY⟩ : ∃ TY, TY = y.cells.toArray := ⟨_, rfl⟩
      rw [← hTX] at hld1 hs
      rw [← hTY] at hld2 hs
      have HS := Lib.hid hs
      have p1 : (0:Int) ≤ j := by omega
      have p2 : (j:Int) < n := by omega
      clear hx hy hxy kA kB hx0 hy0 hkd hly hs hTX hTY
      go_wp2_with fail
      go_region_law (first | (go_simp; go_at_call 12; refine HS.out.mono ?_; rintro e w9 ⟨rfl, m9⟩; have H9 := Lib.hid m9; clear m9))
      all_goals
        go_wp2
        exact ⟨⟨j + 1, by go_num, by omega, (HM.out.drew).trans H9.out⟩, by simp [intOf]; omega⟩
    · obtain rfl : n = j := by omega
      go_wp2
      go_ret
      exact ⟨rfl, HM.out⟩

set_option maxRecDepth 100000 in
set_option maxHeartbeats 2000000 in
theorem config_same {S S' : Nat → Prop} {w : World} (c : Con) {A B : Option Addr} {n p q : Nat} {l l' : List TV} (hA : TVl S w A l) (hB : TVl S' w B l') (hn : n = l.length) (he : l.map (·.t) = l'.map (·.t)) (hl : ∀ x ∈ l', x.t.pool.length ≤ 300 ∧ x.t.statics.length ≤ 300 ∧ x.t.twices.length ≤ 300) (h63 : n ≤ 9223372036854775807) :
    Calls Try.prog 29 #[.agg (c.cells (.slice A n p)), .agg (c.cells (.slice B n q))] w fun e w' => e = .returned (.bool true) ∧ Mod No w w' := by
  obtain ⟨CA, hCA⟩ : ∃ CA, CA = c.cells (.slice A n p) := ⟨_, rfl⟩
  obtain ⟨CB, hCB⟩ : ∃ CB, CB = c.cells (.slice B n q) := ⟨_, rfl⟩
  have bA := box_con CA (by rw [hCA]; rfl)
  have bB := box_con CB (by rw [hCB]; rfl)
  rw [← hCA, ← hCB]
  obtain ⟨w0, hw0⟩ : ∃ w0, w0 = (w.alloc (.cells CA 48)).alloc (.cells CB 48) := ⟨_, rfl⟩
  have hm0 : Mod No w w0 := by rw [hw0]; exact ((Mod.refl _ _).alloc _).alloc _
  have h1 : w0.heap[w.heap.size]? = some (.cells CA 48 (0, 0)) := by rw [hw0]; exact at20 w _ _
  have h2 : w0.heap[w.heap.size + 1]? = some (.cells CB 48 (0, 0)) := by rw [hw0]; exact at21 w _ _
  have a0 : w0.cell? ⟨w.heap.size, 0, none⟩ = some (.int .u32 (c.ip : Int)) := by rw [blk_cell h1, hCA]; rfl
  have b0 : w0.cell? ⟨w.heap.size + 1, 0, none⟩ = some (.int .u32 (c.ip : Int)) := by rw [blk_cell h2, hCB]; rfl
  have a1 : w0.cell? ⟨w.heap.size, 1, none⟩ = some (.int .u8 (c.mac.b0.toNat : Int)) := by rw [blk_cell h1, hCA]; rfl
  have b1 : w0.cell? ⟨w.heap.size + 1, 1, none⟩ = some (.int .u8 (c.mac.b0.toNat : Int)) := by rw [blk_cell h2, hCB]; rfl
  have a2 : w0.cell? ⟨w.heap.size, 2, none⟩ = some (.int .u8 (c.mac.b1.toNat : Int)) := by rw [blk_cell h1, hCA]; rfl
  have b2 : w0.cell? ⟨w.heap.size + 1, 2, none⟩ = some (.int .u8 (c.mac.b1.toNat : Int)) := by rw [blk_cell h2, hCB]; rfl
  have a3 : w0.cell? ⟨w.heap.size, 3, none⟩ = some (.int .u8 (c.mac.b2.toNat : Int)) := by rw [blk_cell h1, hCA]; rfl
  have b3 : w0.cell? ⟨w.heap.size + 1, 3, none⟩ = some (.int .u8 (c.mac.b2.toNat : Int)) := by rw [blk_cell h2, hCB]; rfl
  have a4 : w0.cell? ⟨w.heap.size, 4, none⟩ = some (.int .u8 (c.mac.b3.toNat : Int)) := by rw [blk_cell h1, hCA]; rfl
  have b4 : w0.cell? ⟨w.heap.size + 1, 4, none⟩ = some (.int .u8 (c.mac.b3.toNat : Int)) := by rw [blk_cell h2, hCB]; rfl
  have a5 : w0.cell? ⟨w.heap.size, 5, none⟩ = some (.int .u8 (c.mac.b4.toNat : Int)) := by rw [blk_cell h1, hCA]; rfl
  have b5 : w0.cell? ⟨w.heap.size + 1, 5, none⟩ = some (.int .u8 (c.mac.b4.toNat : Int)) := by rw [blk_cell h2, hCB]; rfl
  have a6 : w0.cell? ⟨w.heap.size, 6, none⟩ = some (.int .u8 (c.mac.b5.toNat : Int)) := by rw [blk_cell h1, hCA]; rfl
  have b6 : w0.cell? ⟨w.heap.size + 1, 6, none⟩ = some (.int .u8 (c.mac.b5.toNat : Int)) := by rw [blk_cell h2, hCB]; rfl
  have a7 : w0.cell? ⟨w.heap.size, 7, none⟩ = some (.int .u8 (c.omac.b0.toNat : Int)) := by rw [blk_cell h1, hCA]; rfl
  have b7 : w0.cell? ⟨w.heap.size + 1, 7, none⟩ = some (.int .u8 (c.omac.b0.toNat : Int)) := by rw [blk_cell h2, hCB]; rfl
  have a8 : w0.cell? ⟨w.heap.size, 8, none⟩ = some (.int .u8 (c.omac.b1.toNat : Int)) := by rw [blk_cell h1, hCA]; rfl
  have b8 : w0.cell? ⟨w.heap.size + 1, 8, none⟩ = some (.int .u8 (c.omac.b1.toNat : Int)) := by rw [blk_cell h2, hCB]; rfl
  have a9 : w0.cell? ⟨w.heap.size, 9, none⟩ = some (.int .u8 (c.omac.b2.toNat : Int)) := by rw [blk_cell h1, hCA]; rfl
  have b9 : w0.cell? ⟨w.heap.size + 1, 9, none⟩ = some (.int .u8 (c.omac.b2.toNat : Int)) := by rw [blk_cell h2, hCB]; rfl
  have a10 : w0.cell? ⟨w.heap.size, 10, none⟩ = some (.int .u8 (c.omac.b3.toNat : Int)) := by rw [blk_cell h1, hCA]; rfl
  have b10 : w0.cell? ⟨w.heap.size + 1, 10, none⟩ = some (.int .u8 (c.omac.b3.toNat : Int)) := by rw [blk_cell h2, hCB]; rfl
  have a11 : w0.cell? ⟨w.heap.size, 11, none⟩ = some (.int .u8 (c.omac.b4.toNat : Int)) := by rw [blk_cell h1, hCA]; rfl
  have b11 : w0.cell? ⟨w.heap.size + 1, 11, none⟩ = some (.int .u8 (c.omac.b4.toNat : Int)) := by rw [blk_cell h2, hCB]; rfl
  have a12 : w0.cell? ⟨w.heap.size, 12, none⟩ = some (.int .u8 (c.omac.b5.toNat : Int)) := by rw [blk_cell h1, hCA]; rfl
  have b12 : w0.cell? ⟨w.heap.size + 1, 12, none⟩ = some (.int .u8 (c.omac.b5.toNat : Int)) := by rw [blk_cell h2, hCB]; rfl
  have a13 : w0.cell? ⟨w.heap.size, 13, none⟩ = some (.int .u8 (c.nmac.b0.toNat : Int)) := by rw [blk_cell h1, hCA]; rfl
  have b13 : w0.cell? ⟨w.heap.size + 1, 13, none⟩ = some (.int .u8 (c.nmac.b0.toNat : Int)) := by rw [blk_cell h2, hCB]; rfl
  have a14 : w0.cell? ⟨w.heap.size, 14, none⟩ = some (.int .u8 (c.nmac.b1.toNat : Int)) := by rw [blk_cell h1, hCA]; rfl
  have b14 : w0.cell? ⟨w.heap.size + 1, 14, none⟩ = some (.int .u8 (c.nmac.b1.toNat : Int)) := by rw [blk_cell h2, hCB]; rfl
  have a15 : w0.cell? ⟨w.heap.size, 15, none⟩ = some (.int .u8 (c.nmac.b2.toNat : Int)) := by rw [blk_cell h1, hCA]; rfl
  have b15 : w0.cell? ⟨w.heap.size + 1, 15, none⟩ = some (.int .u8 (c.nmac.b2.toNat : Int)) := by rw [blk_cell h2, hCB]; rfl
  have a16 : w0.cell? ⟨w.heap.size, 16, none⟩ = some (.int .u8 (c.nmac.b3.toNat : Int)) := by rw [blk_cell h1, hCA]; rfl
  have b16 : w0.cell? ⟨w.heap.size + 1, 16, none⟩ = some (.int .u8 (c.nmac.b3.toNat : Int)) := by rw [blk_cell h2, hCB]; rfl
  have a17 : w0.cell? ⟨w.heap.size, 17, none⟩ = some (.int .u8 (c.nmac.b4.toNat : Int)) := by rw [blk_cell h1, hCA]; rfl
  have b17 : w0.cell? ⟨w.heap.size + 1, 17, none⟩ = some (.int .u8 (c.nmac.b4.toNat : Int)) := by rw [blk_cell h2, hCB]; rfl
  have a18 : w0.cell? ⟨w.heap.size, 18, none⟩ = some (.int .u8 (c.nmac.b5.toNat : Int)) := by rw [blk_cell h1, hCA]; rfl
  have b18 : w0.cell? ⟨w.heap.size + 1, 18, none⟩ = some (.int .u8 (c.nmac.b5.toNat : Int)) := by rw [blk_cell h2, hCB]; rfl
  have a19 : w0.cell? ⟨w.heap.size, 19, none⟩ = some (.int .u8 (c.key.b0.toNat : Int)) := by rw [blk_cell h1, hCA]; rfl
  have b19 : w0.cell? ⟨w.heap.size + 1, 19, none⟩ = some (.int .u8 (c.key.b0.toNat : Int)) := by rw [blk_cell h2, hCB]; rfl
  have a20 : w0.cell? ⟨w.heap.size, 20, none⟩ = some (.int .u8 (c.key.b1.toNat : Int)) := by rw [blk_cell h1, hCA]; rfl
  have b20 : w0.cell? ⟨w.heap.size + 1, 20, none⟩ = some (.int .u8 (c.key.b1.toNat : Int)) := by rw [blk_cell h2, hCB]; rfl
  have a21 : w0.cell? ⟨w.heap.size, 21, none⟩ = some (.int .u8 (c.key.b2.toNat : Int)) := by rw [blk_cell h1, hCA]; rfl
  have b21 : w0.cell? ⟨w.heap.size + 1, 21, none⟩ = some (.int .u8 (c.key.b2.toNat : Int)) := by rw [blk_cell h2, hCB]; rfl
  have a22 : w0.cell? ⟨w.heap.size, 22, none⟩ = some (.int .u8 (c.key.b3.toNat : Int)) := by rw [blk_cell h1, hCA]; rfl
  have b22 : w0.cell? ⟨w.heap.size + 1, 22, none⟩ = some (.int .u8 (c.key.b3.toNat : Int)) := by rw [blk_cell h2, hCB]; rfl
  have a23 : w0.cell? ⟨w.heap.size, 23, none⟩ = some (.int .u8 (c.key.b4.toNat : Int)) := by rw [blk_cell h1, hCA]; rfl
  have b23 : w0.cell? ⟨w.heap.size + 1, 23, none⟩ = some (.int .u8 (c.key.b4.toNat : Int)) := by rw [blk_cell h2, hCB]; rfl
  have a24 : w0.cell? ⟨w.heap.size, 24, none⟩ = some (.int .u8 (c.key.b5.toNat : Int)) := by rw [blk_cell h1, hCA]; rfl
  have b24 : w0.cell? ⟨w.heap.size + 1, 24, none⟩ = some (.int .u8 (c.key.b5.toNat : Int)) := by rw [blk_cell h2, hCB]; rfl
  have a25 : w0.cell? ⟨w.heap.size, 25, none⟩ = some (.int .u8 (c.key.b6.toNat : Int)) := by rw [blk_cell h1, hCA]; rfl
  have b25 : w0.cell? ⟨w.heap.size + 1, 25, none⟩ = some (.int .u8 (c.key.b6.toNat : Int)) := by rw [blk_cell h2, hCB]; rfl
  have a26 : w0.cell? ⟨w.heap.size, 26, none⟩ = some (.int .u8 (c.key.b7.toNat : Int)) := by rw [blk_cell h1, hCA]; rfl
  have b26 : w0.cell? ⟨w.heap.size + 1, 26, none⟩ = some (.int .u8 (c.key.b7.toNat : Int)) := by rw [blk_cell h2, hCB]; rfl
  have a27 : w0.cell? ⟨w.heap.size, 27, none⟩ = some (.int .u32 (c.drain : Int)) := by rw [blk_cell h1, hCA]; rfl
  have b27 : w0.cell? ⟨w.heap.size + 1, 27, none⟩ = some (.int .u32 (c.drain : Int)) := by rw [blk_cell h2, hCB]; rfl
  have a28 : w0.cell? ⟨w.heap.size, 28, none⟩ = some (.slice A n p) := by rw [blk_cell h1, hCA]; rfl
  have b28 : w0.cell? ⟨w.heap.size + 1, 28, none⟩ = some (.slice B n q) := by rw [blk_cell h2, hCB]; rfl
  have hT := tenants_same (w := w0) (c := p) (d := q) (hA.keeps (hm0.keeps (fun _ _ _ f => f))) (hB.keeps (hm0.keeps (fun _ _ _ f => f))) hn he hl h63
  have HT := Lib.hid hT
  have HM := Lib.hid hm0
  have HW := Lib.hid hw0
  clear hA hB hn he hl hT hm0 hw0 h1 h2 hCA hCB
  go_enter Try.func29, Try.ntmps29
  go_upto_region 1 with fail
  refine grab_world fun wg hwg => ?_
  rw [← HW.out] at hwg
  subst hwg
  clear HW
  go_wp2_with (first | (go_at_call 48; refine HT.out.mono ?_; rintro e w9 ⟨rfl, m9⟩; have H9 := Lib.hid m9; clear m9) | fail)
  go_ret
  exact ⟨rfl, HM.out.trans H9.out⟩

end Go.Proofs.Ytcnemhhbihhcfaa
