/-
  The reference's Config, Change: their bytes are the same.
-/
import Derived.Test.YtcnemhhbihhcfaaRefC
namespace Go.Proofs.Ytcnemhhbihhcfaa
open Go.RowKit
set_option linter.unusedVariables false
set_option linter.unusedSimpArgs false

theorem con_mac_in (c : Con) (vt : Value) (j : Nat) (u : Value) (h : (bcells c.mac.l)[j]? = some u) : (c.cells vt)[1 + j]? = some u := by
  have hj : j < 6 := (List.getElem?_eq_some_iff.1 h).1
  match j, hj, h with
  | 0, _, h => exact h
  | 1, _, h => exact h
  | 2, _, h => exact h
  | 3, _, h => exact h
  | 4, _, h => exact h
  | 5, _, h => exact h
theorem con_omac_in (c : Con) (vt : Value) (j : Nat) (u : Value) (h : (bcells c.omac.l)[j]? = some u) : (c.cells vt)[7 + j]? = some u := by
  have hj : j < 6 := (List.getElem?_eq_some_iff.1 h).1
  match j, hj, h with
  | 0, _, h => exact h
  | 1, _, h => exact h
  | 2, _, h => exact h
  | 3, _, h => exact h
  | 4, _, h => exact h
  | 5, _, h => exact h
theorem con_nmac_in (c : Con) (vt : Value) (j : Nat) (u : Value) (h : (bcells c.nmac.l)[j]? = some u) : (c.cells vt)[13 + j]? = some u := by
  have hj : j < 6 := (List.getElem?_eq_some_iff.1 h).1
  match j, hj, h with
  | 0, _, h => exact h
  | 1, _, h => exact h
  | 2, _, h => exact h
  | 3, _, h => exact h
  | 4, _, h => exact h
  | 5, _, h => exact h
theorem con_key_in (c : Con) (vt : Value) (j : Nat) (u : Value) (h : (bcells c.key.l)[j]? = some u) : (c.cells vt)[19 + j]? = some u := by
  have hj : j < 8 := (List.getElem?_eq_some_iff.1 h).1
  match j, hj, h with
  | 0, _, h => exact h
  | 1, _, h => exact h
  | 2, _, h => exact h
  | 3, _, h => exact h
  | 4, _, h => exact h
  | 5, _, h => exact h
  | 6, _, h => exact h
  | 7, _, h => exact h

set_option maxRecDepth 100000 in
set_option maxHeartbeats 4000000 in
theorem refConfig_ok {w : World} (c : Con) (vt : Value) (l : List TV) (hip : c.ip < 4294967296) (hdr : c.drain < 4294967296) (hrows : ∃ P p, vt = .slice P l.length p ∧ RowAt (· < w.heap.size) w P (tvCells l))
    (hok : ∀ x ∈ l, x.t.Ok ∧ x.t.name.length ≤ 100000000 ∧ x.Rows (· < w.heap.size) w) (hll : ∀ x ∈ l, x.t.pool.length ≤ 100000000 ∧ x.t.statics.length ≤ 100000000 ∧ x.t.twices.length ≤ 100000000) (hl : l.length ≤ 100000000) :
    Calls Try.prog 22 #[.agg (c.cells vt)] w fun e w' => ∃ v, e = .returned v ∧ OwnB w' w.heap.size v (wcon c l) ∧ Mod No w w' := by
  obtain ⟨P, p, e1, r1⟩ := hrows
  subst e1
  obtain ⟨CA, hCA⟩ : ∃ CA, CA = c.cells (.slice P l.length p) := ⟨_, rfl⟩
  rw [← hCA]
  have bA := box_con CA (by rw [hCA]; rfl)
  obtain ⟨w0, hw0⟩ : ∃ w0, w0 = w.alloc (.cells CA 48) := ⟨_, rfl⟩
  have hm0 : Mod No w w0 := by rw [hw0]; exact (Mod.refl _ _).alloc _
  have hb0 : w0.heap[w.heap.size]? = some (.cells CA 48 (0, 0)) := by rw [hw0]; exact at10 w _
  have hcell : ∀ W, Mod No w0 W → ∀ j u, (c.cells (.slice P l.length p))[j]? = some u → W.cell? ⟨w.heap.size, j, none⟩ = some u := fun W hW j u hj => by
    rw [blk_cell (hW.obj hb0 id), hCA]
    exact hj
  have hTmac : ∀ W, Mod No w0 W → ∀ j u, (bcells c.mac.l)[j]? = some u → W.cell? ((⟨w.heap.size, 1, none⟩ : Addr).add j) = some u := fun W hW j u hj => by rw [Addr.add_lit]; exact hcell W hW _ u (con_mac_in c _ j u hj)
  have HTmac := Lib.hid hTmac
  have hTomac : ∀ W, Mod No w0 W → ∀ j u, (bcells c.omac.l)[j]? = some u → W.cell? ((⟨w.heap.size, 7, none⟩ : Addr).add j) = some u := fun W hW j u hj => by rw [Addr.add_lit]; exact hcell W hW _ u (con_omac_in c _ j u hj)
  have HTomac := Lib.hid hTomac
  have hTnmac : ∀ W, Mod No w0 W → ∀ j u, (bcells c.nmac.l)[j]? = some u → W.cell? ((⟨w.heap.size, 13, none⟩ : Addr).add j) = some u := fun W hW j u hj => by rw [Addr.add_lit]; exact hcell W hW _ u (con_nmac_in c _ j u hj)
  have HTnmac := Lib.hid hTnmac
  have hTkey : ∀ W, Mod No w0 W → ∀ j u, (bcells c.key.l)[j]? = some u → W.cell? ((⟨w.heap.size, 19, none⟩ : Addr).add j) = some u := fun W hW j u hj => by rw [Addr.add_lit]; exact hcell W hW _ u (con_key_in c _ j u hj)
  have HTkey := Lib.hid hTkey
  have HC := Lib.hid hcell
  have HB := Lib.hid (show w.heap.size ≤ w0.heap.size from hm0.size)
  obtain ⟨nb, hnb⟩ : ∃ nb, nb = min l.length 255 := ⟨_, rfl⟩
  have mn : min (l.length : Int) 255 = nb := by omega
  have wn : IntKind.u8.wrap (nb : Int) = nb := by simp [IntKind.wrap, IntKind.bits, IntKind.signed]; omega
  have H3 := Lib.hid (be1_cells nb (by omega))
  have HNB := Lib.hid hnb
  have HOK := Lib.hid (And.intro hip (And.intro hdr hl))
  have HTN := Lib.hid (And.intro hok hll)
  have HR := Lib.hid (r1.keeps (hm0.keeps (fun _ _ _ f => f)))
  have HM0 := Lib.hid hm0
  have HW0 := Lib.hid hw0
  have g0 : Gr w.heap.size (.slice none 0 0) w0 (.slice none 0 0) w0 [] := Gr.refl (nil_own _ _)
  clear hip hdr hok hll hl r1 hm0 hw0 hCA hcell hb0 hTmac hTomac hTnmac hTkey hnb
  go_enter Try.func22, Try.ntmps22
  go_wp2_with fail
  rw [← HW0.out]
  go_region_held3 (fun W => W.cell? ⟨w.heap.size, 0, none⟩ = some (.int .u32 (c.ip : Int)))
    (exact HC.out _ (by (repeat (first | with_reducible exact Mod.refl _ _ | with_reducible exact g2.no | with_reducible exact g1.no | with_reducible exact g0.no | refine Mod.alloc ?_ _ | refine Mod.drew ?_))) 0 _ rfl)
    (first
      | (refine step_gr (by rfl) _ _ (by rfl) (Gr.ext g1 ?_) (by rfl) c.mac.l _ _ _ (by rfl) (by rfl) ?_ ?_ (by exact List.cons_ne_nil _ _) ?_ ?_; (repeat (first | with_reducible exact Mod.refl _ _ | refine Mod.alloc ?_ _ | refine Mod.drew ?_)); (exact HTmac.out _ (by (repeat (first | with_reducible exact Mod.refl _ _ | with_reducible exact g1.no | with_reducible exact g0.no | refine Mod.alloc ?_ _ | refine Mod.drew ?_)))); (simp only [List.length_append, be_length, List.length_nil, K8.len, M6.len]; omega); (refine Gr.size g1 ?_ HB.out; (repeat (first | with_reducible exact Mod.refl _ _ | refine Mod.alloc ?_ _ | refine Mod.drew ?_))); intro v2 w2 g2 _)
      | (go_at_call 39; refine (put32_gr g0 ?_ HB.out c.ip HOK.out.1 ?_).mono ?_; (repeat (first | with_reducible exact Mod.refl _ _ | refine Mod.alloc ?_ _ | refine Mod.drew ?_)); (simp only [List.length_append, be_length, List.length_nil, K8.len, M6.len]; omega); rintro e w1 ⟨v1, rfl, g1, m1, r1⟩))
  go_wp2_with fail
  go_region_law (first
    | (refine step_gr (by rfl) _ _ (by rfl) (Gr.ext g3 ?_) (by rfl) c.nmac.l _ _ _ (by rfl) (by rfl) ?_ ?_ (by exact List.cons_ne_nil _ _) ?_ ?_; (repeat (first | with_reducible exact Mod.refl _ _ | refine Mod.alloc ?_ _ | refine Mod.drew ?_)); (exact HTnmac.out _ (by (repeat (first | with_reducible exact Mod.refl _ _ | with_reducible exact g3.no | with_reducible exact g2.no | with_reducible exact g1.no | with_reducible exact g0.no | refine Mod.alloc ?_ _ | refine Mod.drew ?_)))); (simp only [List.length_append, be_length, List.length_nil, K8.len, M6.len]; omega); (refine Gr.size g3 ?_ HB.out; (repeat (first | with_reducible exact Mod.refl _ _ | refine Mod.alloc ?_ _ | refine Mod.drew ?_))); intro v4 w4 g4 _)
    | (refine step_gr (by rfl) _ _ (by rfl) (Gr.ext g2 ?_) (by rfl) c.omac.l _ _ _ (by rfl) (by rfl) ?_ ?_ (by exact List.cons_ne_nil _ _) ?_ ?_; (repeat (first | with_reducible exact Mod.refl _ _ | refine Mod.alloc ?_ _ | refine Mod.drew ?_)); (exact HTomac.out _ (by (repeat (first | with_reducible exact Mod.refl _ _ | with_reducible exact g2.no | with_reducible exact g1.no | with_reducible exact g0.no | refine Mod.alloc ?_ _ | refine Mod.drew ?_)))); (simp only [List.length_append, be_length, List.length_nil, K8.len, M6.len]; omega); (refine Gr.size g2 ?_ HB.out; (repeat (first | with_reducible exact Mod.refl _ _ | refine Mod.alloc ?_ _ | refine Mod.drew ?_))); intro v3 w3 g3 _))
  go_wp2_with fail
  go_region_held3 (fun W => W.cell? ⟨w.heap.size, 27, none⟩ = some (.int .u32 (c.drain : Int)))
    (exact HC.out _ (by (repeat (first | with_reducible exact Mod.refl _ _ | with_reducible exact g6.no | with_reducible exact g5.no | with_reducible exact g4.no | with_reducible exact g3.no | with_reducible exact g2.no | with_reducible exact g1.no | with_reducible exact g0.no | refine Mod.alloc ?_ _ | refine Mod.drew ?_))) 27 _ rfl)
    (first
      | (go_at_call 39; refine (put32_gr g5 ?_ HB.out c.drain HOK.out.2.1 ?_).mono ?_; (repeat (first | with_reducible exact Mod.refl _ _ | refine Mod.alloc ?_ _ | refine Mod.drew ?_)); (simp only [List.length_append, be_length, List.length_nil, K8.len, M6.len]; omega); rintro e w6 ⟨v6, rfl, g6, m6, r6⟩)
      | (refine step_gr (by rfl) _ _ (by rfl) (Gr.ext g4 ?_) (by rfl) c.key.l _ _ _ (by rfl) (by rfl) ?_ ?_ (by exact List.cons_ne_nil _ _) ?_ ?_; (repeat (first | with_reducible exact Mod.refl _ _ | refine Mod.alloc ?_ _ | refine Mod.drew ?_)); (exact HTkey.out _ (by (repeat (first | with_reducible exact Mod.refl _ _ | with_reducible exact g4.no | with_reducible exact g3.no | with_reducible exact g2.no | with_reducible exact g1.no | with_reducible exact g0.no | refine Mod.alloc ?_ _ | refine Mod.drew ?_)))); (simp only [List.length_append, be_length, List.length_nil, K8.len, M6.len]; omega); (refine Gr.size g4 ?_ HB.out; (repeat (first | with_reducible exact Mod.refl _ _ | refine Mod.alloc ?_ _ | refine Mod.drew ?_))); intro v5 w5 g5 _))
  have z28 : w6.cell? ⟨w.heap.size, 28, none⟩ = some (.slice P l.length p) := HC.out _ g6.no 28 _ rfl
  go_wp2_with (first
    | (at_builtin; refine wpList_gr (by rfl) _ _ (by rfl) (Gr.ext g6 ?_) (by rfl) (be 1 nb) _ _ _ (by rfl) (by rfl) ?_ ?_ ?_ ?_; (repeat (first | with_reducible exact Mod.refl _ _ | refine Mod.alloc ?_ _ | refine Mod.drew ?_)); (rw [H3.out]; exact World.news_of_block (at10 _ _)); (simp only [List.length_append, be_length, List.length_nil, K8.len, M6.len]; omega); (refine Gr.size g6 ?_ HB.out; (repeat (first | with_reducible exact Mod.refl _ _ | refine Mod.alloc ?_ _ | refine Mod.drew ?_))); intro v7 w7 g7)
    | fail)
  obtain ⟨LL, hlen, heq, gL⟩ : ∃ LL, LL.length ≤ 1000 ∧ LL ++ wtens (l.take 255) = wcon c l ∧ Gr w.heap.size (.slice none 0 0) w0 v7 w7 LL := by
    refine ⟨_, ?_, ?_, g7⟩
    · simp only [List.length_append, be_length, List.length_nil, K8.len, M6.len]; omega
    · simp only [wcon, cfields, List.flatten_cons, List.flatten_nil, List.append_nil, List.nil_append, List.append_assoc, HNB.out]
  have HE := Lib.hid (And.intro hlen (And.intro heq gL))
  clear hlen heq gL g7 g6 g5 g4 g3 g2 g1 m1 m6 r1 r6 z28 mn wn
  obtain ⟨n, hn⟩ : ∃ n, n = l.length := ⟨_, rfl⟩
  have HN := Lib.hid hn
  clear hn
  go_loopw [4, 3] (fun i b wr => ∃ (j : Nat) (v' : Value), i = .int .i64 j ∧ v' = b ∧ j ≤ n ∧ j ≤ 255 ∧ Gr w.heap.size (.slice none 0 0) w0 v' wr (LL ++ wtens (l.take j))) (fun i _ _ => 255 - (intOf i).toNat)
  case atStart => exact ⟨0, v7, rfl, rfl, by omega, by omega, by simpa [wtens] using HE.out.2.2⟩
  case round =>
    obtain ⟨j, v', rfl, rfl, hj, hj8, hg⟩ := hrel
    have z28 : wr.cell? ⟨w.heap.size, 28, none⟩ = some (.slice P n p) := by rw [HN.out]; exact HC.out _ hg.no _ _ rfl
    have HG := Lib.hid hg
    clear hg
    have hlp : (wtens (l.take j)).length ≤ 255 * 40000 := by
      have h1 := wtens_len (l.take j)
      have h2 : (l.take j).length * 40000 ≤ 255 * 40000 := Nat.mul_le_mul_right _ (by rw [List.length_take]; omega)
      omega
    by_cases hlt : j < n
    · by_cases h255 : j < 255
      · obtain ⟨z, hz⟩ : ∃ z, l[j]? = some z := ⟨_, List.getElem?_eq_getElem (by have := HN.out; omega)⟩
        obtain ⟨z1, z2, z3⟩ := HTN.out.1 z (List.mem_of_getElem? hz)
        have z4 := HTN.out.2 z (List.mem_of_getElem? hz)
        have hmw : Mod No w wr := HM0.out.trans HG.out.no
        have hkp : Keeps (· < w.heap.size) w0 wr := HG.out.no.keeps (fun _ _ _ f => f)
        obtain ⟨b, o', rfl, _, hblt, hx0⟩ := (HR.out.keeps hkp).elem TV.cells 33 TV.len (by omega) hz
        have hld := tenLoad_mid wr b (o' + j * 33) z.cells rfl hx0
        have hT := refTenant_ok (w := wr) z ((z3.keeps (hmw.keeps (fun _ _ _ f => f))).imp (fun b hb => Nat.lt_of_lt_of_le hb hmw.size)) z1 z2 z4
        obtain ⟨TA, hTA⟩ : ∃ TA, TA = z.cells.toArray := ⟨_, rfl⟩
        rw [← hTA] at hT hld
        have HT := Lib.hid hT
        have HZ := Lib.hid (And.intro hz (And.intro hlp hmw))
        obtain ⟨X, hX⟩ : ∃ X, X = wten z.t := ⟨_, rfl⟩
        rw [← hX] at HT
        have HX := Lib.hid (And.intro hX (And.intro (show X.length ≤ 40000 by rw [hX]; exact wten_len _) (show X ≠ [] by rw [hX]; exact wten_ne _)))
        have p1 : (0:Int) ≤ j := by omega
        have p2 : (j:Int) < n := by omega
        have p3 : (j:Int) < 255 := by omega
        clear hz z1 z2 z3 z4 hmw hkp hx0 hT hTA hX hlp
        go_wp2_with (first
          | (go_at_call 24; refine HT.out.mono ?_; rintro e w8 ⟨v8, rfl, o8, m8⟩; obtain ⟨g8, c8, rfl, k8, l8, n8, h8⟩ := OwnB.at o8 HX.out.2.2; have H8 := Lib.hid (And.intro m8 h8); clear o8 m8 h8)
          | (at_builtin; refine wpList_gr (by rfl) _ _ (by rfl) (Gr.ext HG.out H8.out.1) (by rfl) X ⟨g8, 0, none⟩ _ _ (by rfl) (by rfl) ?_ ?_ ?_ ?_; (intro j u hj; rw [Addr.add_lit, Nat.zero_add]; exact H8.out.2 j u hj); (have := HE.out.1; have := HZ.out.2.1; have := HX.out.2.1; rw [List.length_append]; omega); (exact Gr.size HG.out H8.out.1 HB.out); intro v9 w9 g9; have H9 := Lib.hid g9; clear g9)
          | fail)
        refine ⟨⟨j + 1, v9, by go_num, rfl, by omega, by omega, ?_⟩, by simp [intOf]; omega⟩
        have := H9.out
        rw [take_snoc' HZ.out.1, wtens, List.flatMap_append, ← List.append_assoc]
        rw [HX.out.1] at this
        simpa [wtens] using this
      · obtain rfl : j = 255 := by omega
        clear hlp
        go_wp2
        go_ret
        exact ⟨_, rfl, by rw [← HE.out.2.1]; exact HG.out.own, HM0.out.trans HG.out.no⟩
    · obtain rfl : n = j := by omega
      have hf : l.take 255 = l.take n := by rw [List.take_of_length_le (by have := HN.out; omega), List.take_of_length_le (by have := HN.out; omega)]
      have HF := Lib.hid hf
      clear hlp hf
      go_wp2
      go_ret
      exact ⟨_, rfl, by rw [← HE.out.2.1, HF.out]; exact HG.out.own, HM0.out.trans HG.out.no⟩

set_option maxRecDepth 100000 in
theorem refChange_ok {w : World} (put : Bool) (name : List UInt8) (x : TV) (hr : x.Rows (· < w.heap.size) w) (hok : x.t.Ok) (hnm : x.t.name.length ≤ 100000000) (hll : x.t.pool.length ≤ 100000000 ∧ x.t.statics.length ≤ 100000000 ∧ x.t.twices.length ≤ 100000000) (hn : name.length ≤ 100000000) :
    Calls Try.prog 23 #[.agg (cChg put name x)] w fun e w' => ∃ v, e = .returned v ∧ OwnB w' w.heap.size v (wchg put name x.t) ∧ Mod No w w' := by
  obtain ⟨CA, hCA⟩ : ∃ CA, CA = cChg put name x := ⟨_, rfl⟩
  rw [← hCA]
  have bA := box_chg CA (by rw [hCA]; exact cChg_size _ _ _)
  have c0 : ((w.alloc (.cells CA 38))).cell? ⟨w.heap.size, 0, none⟩ = some (.bool put) := (blk_cell (at10 w _) 0).trans (by rw [hCA]; exact cChg0 _ _ _)
  have hown : ∀ b : UInt8, OwnB ((w.alloc (.cells CA 38)).alloc (.cells #[.int .u8 (b.toNat : Int)] 5)) w.heap.size (.slice (some ⟨w.heap.size + 1, 0, none⟩) 1 1) [b] := fun b => ⟨rfl, .inr ⟨w.heap.size + 1, 1, #[.int .u8 (b.toNat : Int)], rfl, by omega, at21 _ _ _, Nat.le_refl _, by decide, rfl, rfl⟩⟩
  have hmW : ∀ o, Mod No w ((w.alloc (.cells CA 38)).alloc o) := fun o => ((Mod.refl _ _).alloc _).alloc _
  cases put with
  | false =>
    have hw : wchg false name x.t = [0] ++ nameB' name := rfl
    rw [hw]
    have c1 : (((w.alloc (.cells CA 38))).alloc (.cells #[.int .u8 0] 5)).cell? ⟨w.heap.size, 1, none⟩ = some (.string (str name)) := (blk_cell (at20 w _ _) 1).trans (by rw [hCA]; exact cChg1 _ _ _)
    have hn := name_gr (Gr.refl (hown 0)) (Mod.refl _ _) (by simp; omega) name hn (by decide)
    have HN := Lib.hid hn
    have HM := Lib.hid (hmW (.cells #[.int .u8 0] 5))
    clear hown hn hmW hCA hw hr
    go_enter Try.func23, Try.ntmps23
    go_wp2_with (first | (go_at_call 40; refine HN.out.mono ?_; rintro e w1 ⟨v1, rfl, g1, _, _⟩; have H1 := Lib.hid g1; clear g1) | fail)
    go_ret
    exact ⟨_, rfl, H1.out.own, HM.out.trans' H1.out.mod (fun i hi hg => by simp [Value.ownBlock] at hg; omega)⟩
  | true =>
    obtain ⟨X, hX⟩ : ∃ X, X = wten x.t := ⟨_, rfl⟩
    have hw : wchg true name x.t = [1] ++ X := by rw [hX]; rfl
    rw [hw]
    have hW := hmW (.cells #[.int .u8 1] 5)
    have hld := tenLoad_mid ((w.alloc (.cells CA 38)).alloc (.cells #[.int .u8 1] 5)) w.heap.size 2 x.cells rfl (fun j v hj => by
      rw [blk_cell (at20 w _ _), hCA, cChg2]
      exact hj)
    have hT := refTenant_ok (w := (w.alloc (.cells CA 38)).alloc (.cells #[.int .u8 1] 5)) x ((hr.keeps (hW.keeps (fun _ _ _ f => f))).imp (fun b hb => Nat.lt_of_lt_of_le hb hW.size)) hok hnm hll
    obtain ⟨TA, hTA⟩ : ∃ TA, TA = x.cells.toArray := ⟨_, rfl⟩
    rw [← hTA] at hT hld
    rw [← hX] at hT
    have HT := Lib.hid hT
    have HX := Lib.hid (And.intro (show X.length ≤ 40000 by rw [hX]; exact wten_len _) (show X ≠ [] by rw [hX]; exact wten_ne _))
    have HO := Lib.hid (hown 1)
    have HM := Lib.hid hW
    clear hr hok hnm hll hn hown hmW hW hT hTA hX hw hCA
    go_enter Try.func23, Try.ntmps23
    go_wp2_with (first
      | (go_at_call 24; refine HT.out.mono ?_; rintro e w8 ⟨v8, rfl, o8, m8⟩; obtain ⟨g8, c8, rfl, k8, l8, n8, h8⟩ := OwnB.at o8 HX.out.2; have H8 := Lib.hid (And.intro m8 h8); clear o8 m8 h8)
      | (at_builtin; refine wpList_gr (by rfl) _ _ (by rfl) (Gr.ext (Gr.refl HO.out) H8.out.1) (by rfl) X ⟨g8, 0, none⟩ _ _ (by rfl) (by rfl) ?_ ?_ ?_ ?_; (intro j u hj; rw [Addr.add_lit, Nat.zero_add]; exact H8.out.2 j u hj); (have := HX.out.1; simp; omega); (have := H8.out.1.size; simp at this; omega); intro v9 w9 g9; have H9 := Lib.hid g9; clear g9)
      | fail)
    go_ret
    exact ⟨_, rfl, H9.out.own, HM.out.trans' H9.out.mod (fun i hi hg => by simp [Value.ownBlock] at hg; omega)⟩

end Go.Proofs.Ytcnemhhbihhcfaa
