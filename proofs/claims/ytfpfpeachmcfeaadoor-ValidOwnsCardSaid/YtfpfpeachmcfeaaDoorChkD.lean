/-
  valid.Check, walked.
-/
import Derived.Test.YtfpfpeachmcfeaaDoorChkC
namespace Go.Proofs.YtfpfpeachmcfeaaDoor
open Go.RowKit
set_option linter.unusedVariables false
set_option linter.unusedSimpArgs false
attribute [local go_sem ↓] Go.wp_at_zero Go.wp_at_succ
attribute [local go_sem ↓] store_fold alloc_fold load_fold slice_op_fold ten_zero_fold con_load_fold
attribute [local go_sem] run_store_func

def ChkP (B : TV → Bool) (c : Con) (l : List TV) (w : World) : Ending → World → Prop := fun e w' => e = .returned (.int .i64 (vCheck B c l)) ∧ Mod No w w'
set_option maxRecDepth 100000 in
set_option maxHeartbeats 4000000 in
theorem check_ok {w : World} (B : TV → Bool) (c : Con) {A : Option Addr} {cc : Nat} (l : List TV) (hrow : TVl (fun b => b < w.heap.size) w A l) (hcc : l.length ≤ cc) (hl : l.length ≤ 1000) (hok : ∀ x ∈ l, Short x.t ∧ NameSays x.t.name (B x) w) :
    Calls Tryd.prog 16 #[.agg (c.cells (.slice A l.length cc))] w (ChkP B c l w) := by
  obtain ⟨n, hn⟩ : ∃ n, n = l.length := ⟨_, rfl⟩
  obtain ⟨R, hR⟩ : ∃ R, R = vCheck B c l := ⟨_, rfl⟩
  unfold ChkP
  rw [← hR, ← hn]
  obtain ⟨CA, hCA⟩ : ∃ CA, CA = c.cells (.slice A n cc) := ⟨_, rfl⟩
  have hbox := box_con CA (by rw [hCA]; rfl) w
  obtain ⟨W, hW⟩ : ∃ W, W = w.alloc (.cells CA 39) := ⟨_, rfl⟩
  have m1 : Mod No w W := by rw [hW]; exact (Mod.refl _ _).alloc _
  have hbl : W.heap[w.heap.size]? = some (.cells CA 39 (0, 0)) := by rw [hW]; exact at10 w _
  obtain ⟨ip, hip⟩ : ∃ ip, ip = c.ip := ⟨_, rfl⟩
  obtain ⟨dr, hdr⟩ : ∃ dr, dr = c.drain := ⟨_, rfl⟩
  have c0 : W.cell? ⟨w.heap.size, 0, none⟩ = some (.int .u32 (ip : Int)) := (blk_cell hbl 0).trans (by rw [hCA, hip]; rfl)
  have c27 : W.cell? ⟨w.heap.size, 27, none⟩ = some (.int .u32 (dr : Int)) := (blk_cell hbl 27).trans (by rw [hCA, hdr]; rfl)
  have c28 : W.cell? ⟨w.heap.size, 28, none⟩ = some (.slice A n cc) := (blk_cell hbl 28).trans (by rw [hCA]; rfl)
  rw [← hCA]
  obtain ⟨g1, hg1⟩ : ∃ g1, g1 = w.heap.size := ⟨_, rfl⟩
  rw [← hg1] at c0 c27 c28 hbox
  have hRv : R = if ip = 0 ∨ 1000 < dr ∨ 16 < n then 96 else vLoop B ip l 0 l := by rw [hR, hip, hdr, hn]; rfl
  have hg1w : g1 < W.heap.size := by rw [hg1]; exact lt_of_block hbl
  have H := Lib.hid (And.intro hrow (And.intro hok (And.intro hn m1)))
  rw [← hn] at hl hcc
  have HR := Lib.hid hRv
  clear hrow hok hn m1 hR hRv hCA hbl hip hdr
  go_enter Tryd.func16, Tryd.ntmps16
  go_upto_region 1 with fail
  rw [← hW]
  rw [← hg1]
  clear hW hbox hg1
  by_cases hbad : ip = 0 ∨ 1000 < dr ∨ 16 < n
  · as_aux_lemma =>
    have hR96 : R = 96 := by rw [HR.out, if_pos hbad]
    subst hR96
    clear HR
    rcases hbad with h0 | h0 | h0
    · subst h0
      go_wp2
      all_goals
        go_ret
        exact ⟨rfl, H.out.2.2.2⟩
    · have h1 : (1000:Int) < dr := by omega
      go_wp2
      all_goals
        go_ret
        exact ⟨rfl, H.out.2.2.2⟩
    · have h1 : (16:Int) < n := by omega
      go_wp2
      all_goals
        go_ret
        exact ⟨rfl, H.out.2.2.2⟩
  · have q1 : ¬ ip = 0 := fun h => hbad (.inl h)
    have q1' : ¬ (ip : Int) = 0 := by omega
    have q2 : ¬ (1000:Int) < dr := by omega
    have q3 : ¬ (16:Int) < n := by omega
    have hRl : R = vLoop B ip l 0 l := by rw [HR.out, if_neg hbad]
    have hn16 : n ≤ 16 := by omega
    have HRl := Lib.hid hRl
    clear hbad HR hRl
    go_upto_region 4 with fail
    refine grab_w fun V0 hV0 => ?_
    have hgk0 : V0.heap[W.heap.size + 1]? = some (.cells #[.slice (some ⟨W.heap.size, 0, none⟩) 1 1] 26 (0, 0)) := by rw [hV0]; exact at21 W _ _
    have ho0 : OwnN W.heap.size V0 (.slice (some ⟨W.heap.size, 0, none⟩) 1 1) (takenAt ip l 0) := by
      rw [hV0]
      exact ⟨rfl, .inr ⟨W.heap.size, 1, #[.int .u32 (ip : Int)], rfl, Nat.le_refl _, at20 W _ _, Nat.le_refl _, by decide, rfl, rfl⟩⟩
    have mV0 : Mod No W V0 := by rw [hV0]; exact ((Mod.refl _ _).alloc _).alloc _
    have d28 := mV0.cell c28 (fun f => f)
    obtain ⟨gk, hgk⟩ : ∃ gk, gk = W.heap.size + 1 := ⟨_, rfl⟩
    have hgk1 : g1 ≠ gk := by omega
    have hne0 : (Value.slice (some ⟨W.heap.size, 0, none⟩) 1 1).ownBlock ≠ some gk := by simp only [Value.ownBlock, ne_eq, Option.some.injEq]; omega
    have hWs : W.heap.size < gk := by omega
    rw [← hgk] at hgk0 ⊢
    have HO := Lib.hid (And.intro hgk0 (And.intro ho0 (And.intro mV0 (And.intro hne0 hWs))))
    clear hgk0 ho0 mV0 hne0 hWs hgk hV0 c0 c27 c28
    go_wp2_with fail
    go_loopw [28] (fun i wr => ∃ (k : Nat) (v : Value), i = .int .i64 k ∧ k ≤ n ∧ R = vLoop B ip l k (l.drop k) ∧ wr.heap[gk]? = some (.cells #[v] 26 (0, 0)) ∧ OwnN W.heap.size wr v (takenAt ip l k) ∧ v.ownBlock ≠ some gk ∧ wr.cell? ⟨g1, 28, none⟩ = some (.slice A n cc) ∧ Mod No w wr) (fun i _ => n - (intOf i).toNat)
    case atStart => exact ⟨0, _, rfl, by omega, HRl.out, HO.out.1, HO.out.2.1, HO.out.2.2.2.1, d28, H.out.2.2.2.trans HO.out.2.2.1⟩
    case round =>
      obtain ⟨k, v, rfl, hk, hres, hkb, hko, hkne, e28, hmw⟩ := hrel
      clear d28
      by_cases hkn : k < n
      · obtain ⟨x, hx⟩ : ∃ x, l[k]? = some x := ⟨_, List.getElem?_eq_getElem (by have := H.out.2.2.1; omega)⟩
        have hT := (H.out.1.keeps (hmw.keeps (fun _ _ _ f => f)))
        have hxr := hT.2 x (List.mem_of_getElem? hx)
        obtain ⟨b, o, rfl, _, hblt, hld, _⟩ := tenAt hT.1 hx
        obtain ⟨CX, hCX⟩ : ∃ CX, CX = x.cells.toArray := ⟨_, rfl⟩
        rw [← hCX] at hld
        have hone := TV.one hxr
        rw [← hCX] at hone
        have hnew : ∀ (U : World) (a : Obj), (tenStore (.pointer (some ⟨U.heap.size + 1, 0, none⟩)) (.agg CX)).run Tryd.prog ((U.alloc a).alloc (.cells zTen 30)) = .ok () ((U.alloc a).alloc (.cells CX 30)) := fun U a => by
          have h1 := tenStore_new (U.alloc a) CX (by rw [hCX]; rfl) hone
          rwa [show (U.alloc a).heap.size = U.heap.size + 1 from by simp] at h1
        have hal := tenAlloc_run
        have HX := Lib.hid (And.intro hx (And.intro hres (And.intro hkb (And.intro hko (And.intro hkne (And.intro hmw (And.intro hxr hCX)))))))
        have p1 : (0:Int) ≤ k := by omega
        have p2 : (k:Int) < n := by omega
        clear hx hres hkb hko hkne hmw hT hxr hCX hone
        go_upto_region 7 with fail
        refine grab_w fun V6 hV6 => ?_
        have m6 : Mod No wr V6 := by rw [hV6]; exact ((Mod.refl _ _).alloc _).alloc _
        have ci : V6.cell? ⟨wr.heap.size, 0, none⟩ = some (.int .i64 k) := by rw [hV6]; exact (blk_cell (at20 _ _ _) 0).trans rfl
        have hxb : V6.heap[wr.heap.size + 1]? = some (.cells x.cells.toArray 30 (0, 0)) := by rw [hV6, ← HX.out.2.2.2.2.2.2.2]; exact at21 _ _ _
        have hH6 : Held (wr.heap.size + 1) x V6 := ⟨hxb, (HX.out.2.2.2.2.2.2.1.keeps (m6.keeps (fun _ _ _ f => f))).lt (fun b hb _ => hb)⟩
        have f28 := m6.cell e28 (fun f => f)
        have H6 := Lib.hid (And.intro m6 (And.intro ci hH6))
        have HE := Lib.hid e28
        obtain ⟨gi, hgi⟩ : ∃ gi, gi = wr.heap.size := ⟨_, rfl⟩
        obtain ⟨gx, hgx⟩ : ∃ gx, gx = wr.heap.size + 1 := ⟨_, rfl⟩
        rw [← hgi] at ci H6 ⊢
        rw [← hgi] at hgx
        rw [← hgx] at H6 ⊢
        have hgxl : wr.heap.size < gx := by omega
        have q4 : k ≤ cc := by omega
        have q5 : (k : Int) ≤ cc := by omega
        clear m6 hxb hH6 hV6 hal hnew hld hgi hgx e28
        go_upto_region 8 with fail
        refine grab_w fun V7 hV7 => ?_
        have m7 : Mod No V6 V7 := by rw [hV7]; exact (Mod.refl _ _).alloc _
        have ca : V7.cell? ⟨V6.heap.size, 0, none⟩ = some (.slice (some ⟨b, o, none⟩) k cc) := by rw [hV7]; exact (blk_cell (at10 _ _) 0).trans rfl
        have hH7 := H6.out.2.2.keep m7
        have hld7 := tenLoad_run hH7.blk rfl
        rw [← HX.out.2.2.2.2.2.2.2] at hld7
        have mw7 := (HX.out.2.2.2.2.2.1.trans H6.out.1).trans m7
        have hxo := H.out.2.1 x (List.mem_of_getElem? HX.out.1)
        have hten := tenant_ok (B := B x) x hH7.rows hxo.1 (fun U hU => hxo.2 U (mw7.trans hU))
        rw [← HX.out.2.2.2.2.2.2.2] at hten
        have HT := Lib.hid hten
        have H7 := Lib.hid (And.intro m7 (And.intro ca (And.intro hH7 (And.intro mw7 hxo.1))))
        obtain ⟨ga, hga⟩ : ∃ ga, ga = V6.heap.size := ⟨_, rfl⟩
        rw [← hga] at ca H7 ⊢
        clear hV7 m7 ca hH7 mw7 hxo hten ci f28 hga
        go_upto_region 9 with (go_at_call 21; refine HT.out.mono ?_; rintro e w8 ⟨rfl, hm8⟩)
        have mw8 := H7.out.2.2.2.1.trans hm8
        have H8 := Lib.hid (And.intro hm8 mw8)
        clear hm8 mw8 HT hld7
        obtain ⟨E, hE⟩ : ∃ E, E = vTen (B x) x.t := ⟨_, rfl⟩
        rw [← hE]
        have hst := HX.out.2.1
        rw [vLoop_step HX.out.1, vAt, ← hE] at hst
        by_cases hE0 : E = 0
        · subst hE0
          rw [if_pos rfl] at hst
          obtain ⟨K, ck, hv, _, hrK⟩ := HX.out.2.2.2.1.open
          have m18 : Mod No wr w8 := (H6.out.1.trans H7.out.1).trans H8.out.1
          have hTl := takenAt_len (ip := ip) (l := l) (fun y hy => (H.out.2.1 y hy).1) k
          have hck8 : w8.cell? ⟨gk, 0, none⟩ = some (.slice K (takenAt ip l k).length ck) := by rw [← hv]; exact (blk_cell (m18.obj HX.out.2.2.1 (fun f => f)) 0).trans rfl
          have hmore := more_ok (n := n) (H7.out.2.2.1.keep H8.out.1) H7.out.2.2.2.2 l (by have := H.out.2.2.1; omega) (by have := H.out.2.2.1; omega) ((H7.out.1.trans H8.out.1).cell H6.out.2.1 (fun f => f)) (H8.out.1.cell H7.out.2.1 (fun f => f))
            ((H.out.1.1.keeps (H8.out.2.keeps (fun _ _ _ f => f))).mono (fun b hb _ => hb)) hck8 ((hrK.keeps (m18.keeps (fun _ _ _ f => f))).mono (fun b hb _ => hb)) (by omega)
          have HMo := Lib.hid hmore
          have HS := Lib.hid (And.intro hst (And.intro m18 (And.intro hTl hE)))
          clear hst m18 hv hrK hTl hck8 hmore hE
          go_upto_region 11 with (go_at_call 27; refine (HMo.out _ _ (by repeat (first | with_reducible exact Mod.refl _ _ | refine Mod.alloc ?_ _ | refine Mod.drew ?_)) (by first | exact at10 _ _ | exact at10d _ _)).mono ?_; rintro e w9 ⟨rfl, hm9⟩)
          have m89 : Mod No w8 w9 := (Mod.trans (by repeat (first | with_reducible exact Mod.refl _ _ | refine Mod.alloc ?_ _ | refine Mod.drew ?_)) hm9)
          clear hm9 HMo
          obtain ⟨F, hF⟩ : ∃ F, F = vMore ip l k x := ⟨_, rfl⟩
          rw [← hF]
          have hst := HS.out.1
          rw [← hF] at hst
          have mw9 := H8.out.2.trans m89
          by_cases hF0 : F = 0
          · subst hF0
            rw [if_pos rfl] at hst
            have m19 : Mod No wr w9 := HS.out.2.1.trans m89
            have kb9 := m19.obj HX.out.2.2.1 (fun f => f)
            have ko9 : OwnN W.heap.size w9 v (takenAt ip l k) := HX.out.2.2.2.1.mod m19 (fun _ _ f => f)
            have hH9 := H7.out.2.2.1.keep (H8.out.1.trans m89)
            have hnx : ¬ v.ownBlock = some gx := fun f => by have := (HX.out.2.2.2.1.lt _ f).2; omega
            have hkz : gk < w9.heap.size := lt_of_block kb9
            have hold : ∀ w', Mod (fun j => v.ownBlock = some j) w9 w' → w'.cell? ⟨gk, 0, none⟩ = some v ∧ w'.frozen? ⟨gk, 0, none⟩ = false ∧ (tenLoad (.pointer (some ⟨gx, 0, none⟩))).run Tryd.prog w' = .ok (.agg CX) w' := fun w' hw' => by
              have h1 := hw'.obj kb9 HX.out.2.2.2.2.1
              refine ⟨(blk_cell h1 0).trans rfl, blk_free h1 0, ?_⟩
              have h2 := tenLoad_run (hw'.obj hH9.blk hnx) rfl
              rw [← HX.out.2.2.2.2.2.2.2] at h2
              exact h2
            have hlen := HS.out.2.2.1
            have hsh := H7.out.2.2.2.2
            have hown : ∀ U, Mod No w9 U → Calls Tryd.prog 25 #[.agg CX] U fun e w' => ∃ v, e = .returned v ∧ OwnN U.heap.size w' v (ownedN x.t) ∧ Mod No U w' := fun U hU => by
              have h1 := owned_ok x (hH9.keep hU).rows (by have := hsh.1; omega) (by have := hsh.2.1; omega)
              rw [← HX.out.2.2.2.2.2.2.2] at h1
              exact h1
            obtain ⟨i0, hi, hz0, hz1, hz2⟩ := info_parts infoCN32
            have hol : (ownedN x.t).length ≤ 2000 := by
              unfold ownedN
              rw [List.length_append, rights_len]
              have := hsh.1
              have := hsh.2.1
              omega
            have happ : ∀ (U : World) (K2 : Option Addr) (ck2 : Nat), Mod No w9 U → RowAt (fun b => b < U.heap.size) U K2 (numCells (ownedN x.t)) → ∃ v3 w3, (Builtin.append_ #[26, 26] 26 #[v, .slice K2 (ownedN x.t).length ck2]).run Tryd.prog U = .ok v3 w3 ∧ OwnN W.heap.size w3 v3 (takenAt ip l (k + 1)) ∧ Mod (fun j => v.ownBlock = some j) w9 w3 ∧ v3.ownBlock ≠ some gk := fun U K2 ck2 hU hr => by
              have hb : W.heap.size ≤ U.heap.size := by have h1 := hU.size; have h2 := HO.out.2.2.2.2; omega
              obtain ⟨v3, w3, hrun, ho3, hg3, hb3⟩ := run_append_row (P := Tryd.prog) U W.heap.size 26 26 22 i0 _ 1 4 Tryd.underlying26 hi hz0 hz1 hz2 rfl (by decide) v _ _ (ko9.mod hU (fun _ _ f => f)) K2 (ownedN x.t).length ck2 (numCells (ownedN x.t)) hr (by rw [numCells_length, Nat.mul_one]) (numCells_one' _) (by unfold maxLen; omega) (by omega) hb
              refine ⟨v3, w3, hrun, ?_, (hU.mono (fun _ f => f.elim)).trans (Mod.grown (Mod.refl _ _) hg3 (fun q hq => .inr hq)), ?_⟩
              · rw [takenAt_snoc HX.out.1]
                unfold OwnN
                rw [List.length_append, show numCells (takenAt ip l k ++ ownedN x.t) = numCells (takenAt ip l k) ++ numCells (ownedN x.t) from by simp [numCells]]
                exact ho3
              · rcases hb3 with h1 | h1
                · rw [h1]; exact HX.out.2.2.2.2.1
                · rw [h1]
                  intro h2
                  have h3 := hU.size
                  simp only [Option.some.injEq] at h2
                  omega
            have HH := Lib.hid hold
            have HOw := Lib.hid hown
            have HAp := Lib.hid happ
            have HST := Lib.hid (And.intro hst (And.intro mw9 (And.intro ko9 (And.intro kb9 m19))))
            obtain ⟨y1, y2, y3⟩ := hold w9 (Mod.refl _ _)
            obtain ⟨_, _, y3'⟩ := hold w9.drew (Mod.refl _ _).drew
            clear hold hown happ hst mw9 m19 kb9 hH9 hnx hkz hlen hsh hi hz0 hz1 hz2 hol hF HS H8 m89 ko9
            go_upto_region 13 with fail
            go_region_law (first
              | (go_simp; go_at_call 25; refine (HOw.out _ (by repeat (first | with_reducible exact Mod.refl _ _ | refine Mod.alloc ?_ _ | refine Mod.drew ?_))).mono ?_; rintro e w10 ⟨v2, rfl, ho2, hm10⟩; obtain ⟨K2, ck2, rfl, _, hr2⟩ := ho2.open; have zz : Mod No w9 w10 := Mod.trans (by repeat (first | with_reducible exact Mod.refl _ _ | refine Mod.alloc ?_ _ | refine Mod.drew ?_)) hm10; have zb' : Mod (fun j => v.ownBlock = some j) w9 w10 := zz.mono (fun _ f => f.elim); have hh1 := HH.out w10 zb'; obtain ⟨y4, y5, y6⟩ := hh1; have HR2 := Lib.hid (And.intro (hr2.mono (S' := fun b => b < w10.heap.size) (fun b hb _ => hb)) zz); clear ho2 hm10 hr2 zz zb')
              | (obtain ⟨v3, w3, hrun, ho3, za', hne3⟩ := HAp.out _ K2 ck2 HR2.out.2 HR2.out.1; obtain ⟨K3, ck3, hv3, _, _⟩ := ho3.open; subst hv3; refine step_append_run (by rfl) _ _ _ _ (by rfl) _ _ (by rfl) (by rfl) _ _ hrun ?_; obtain ⟨y7, y8, y9⟩ := HH.out w3 za'; have H3 := Lib.hid (And.intro ho3 (And.intro za' hne3)); clear hrun ho3 hne3 za'))
            all_goals
              go_wp2_with fail
              have kb3 := H3.out.2.1.obj HST.out.2.2.2.1 HX.out.2.2.2.2.1
              have mF : Mod (fun j => v.ownBlock = some j ∨ j = gk) w9 (w3.setCell ⟨gk, 0, none⟩ (.slice K3 (takenAt ip l (k + 1)).length ck3)) := (H3.out.2.1.mono (fun _ f => .inl f)).setCell (p := ⟨gk, 0, none⟩) (.inr (.inr rfl)) _
              have hge : ∀ j, (v.ownBlock = some j ∨ j = gk) → W.heap.size ≤ j := fun j hj => by
                rcases hj with h1 | h1
                · exact (World.ownsRow.lt HX.out.2.2.2.1 j h1).1
                · rw [h1]; exact Nat.le_of_lt HO.out.2.2.2.2
              have hwW := H.out.2.2.2.size
              refine ⟨⟨k + 1, _, by go_num, by omega, HST.out.1, (heap_setCell_row kb3 _).trans rfl, ?_, H3.out.2.2, ?_, ?_⟩, by simp [intOf]; omega⟩
              · exact OwnN.mod (F := fun j => j = gk) H3.out.1 (Mod.setCell (F := fun j => j = gk) (p := ⟨gk, 0, none⟩) (Mod.refl _ _) (.inr rfl) _) (fun j hj f => H3.out.2.2 (by rw [hj, f]))
              · exact ((HST.out.2.2.2.2.mono (fun _ f => f.elim)).trans mF).cell HE.out (fun f => by have := hge _ f; simp only at this; omega)
              · exact HST.out.2.1.trans' mF (fun i hi hj => by have := hge i hj; omega)
          · as_aux_lemma =>
            rw [if_neg hF0] at hst
            subst hst
            have HM := Lib.hid mw9
            clear H8 HX H6 H7 HRl HS mw9 m89 hF
            go_wp2
            all_goals
              go_ret
              exact ⟨rfl, HM.out⟩
        · as_aux_lemma =>
          rw [if_neg hE0, if_neg hE0] at hst
          subst hst
          have HM := Lib.hid H8.out.2
          clear H8 hE HX H6 H7 HRl
          go_wp2
          all_goals
            go_ret
            exact ⟨rfl, HM.out⟩
      · as_aux_lemma =>
        have hkn' : k = n := by omega
        subst hkn'
        have hfin : R = 0 := by rw [hres, vLoop_end (by have := H.out.2.2.1; omega)]
        have HF := Lib.hid (And.intro hfin hmw)
        clear hfin hres hkb hko hkne hmw HRl e28
        go_wp2
        go_ret
        exact ⟨by rw [HF.out.1]; rfl, HF.out.2⟩

end Go.Proofs.YtfpfpeachmcfeaaDoor
