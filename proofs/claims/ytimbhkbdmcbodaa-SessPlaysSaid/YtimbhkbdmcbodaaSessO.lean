/-
  Table.All: every session, copied, in the order of the keys.
-/
import Derived.Test.YtimbhkbdmcbodaaSessN
import Derived.Test.YtimbhkbdmcbodaaSessV
import Derived.Deep.RegionLaw
namespace Go.Proofs.Ytimbhkbdmcbodaa
open Go.RowKit Go.MapKept Go.ChangeMaps
set_option linter.unusedVariables false
set_option linter.unusedSimpArgs false

/-! ### the table's map -/
section
variable {S : Nat → Prop} {w w' : World} {tb mb mo : Nat} {L : List Sess}
theorem Tab.gmap (h : Tab w tb mb mo S L) : ∃ D, GMap Try.prog 31 w mb D ∧ D.map (·.1) = (L.map (·.key)).map Key.val := by
  obtain ⟨es, c, hb, hst, hall⟩ := h.byKey
  refine ⟨_, ⟨es, c, hb, hst, keysOk_by hall h.wf, rfl⟩, ?_⟩
  have : ∀ {l : List Sess} {es : List MapEntry}, All2 (fun s e => e.key = s.key.val ∧ SessV S w s e.val) l es → es.map (·.key) = l.map (fun s => s.key.val) := by
    intro l
    induction l with
    | nil => intro es h; cases es <;> simp_all [All2]
    | cons a l ih =>
      intro es h
      cases es with
      | nil => exact absurd h (by simp [All2])
      | cons e es => obtain ⟨⟨h1, _⟩, h2⟩ := h; simp [h1, ih h2]
  have h2 := this hall
  simpa [List.map_map, Function.comp_def] using h2
theorem Tab.look (h : Tab w tb mb mo S L) {s : Sess} (hs : s ∈ L) :
    ∃ A c, (Instr.lookup 61 (.map (some mb)) s.key.val false).run Try.prog w = .ok (s.val A c) w ∧ RowAt S w A (ptCells s.peers) := by
  have hf := h.find_self hs
  obtain ⟨es, c, hb, hst, hall⟩ := h.byKey
  obtain ⟨kl, hkl⟩ := keyOfKey s.key (h.wf s hs).1
  rcases find_all2 hall (·.key) (fun _ _ h => h.1) s.key with ⟨h1, _⟩ | ⟨j, s', e0, h1, h2, h3, ⟨h4, h5⟩, h6, h7⟩
  · rw [h1] at hf; cases hf
  rw [h1] at hf
  cases hf
  obtain ⟨A, cc, hv, hr⟩ := h5.val
  have hlk := lookup_hit (b := mb) keyedKey Try.underlying61 hst (keysOk_by hall h.wf) hkl h3 h6 false w hb
  rw [hv] at hlk
  simp only [Bool.false_eq_true, if_false] at hlk
  exact ⟨A, cc, hlk, hr⟩
end
/-- Every session, in the order of the keys. -/
def byKeys (L : List Sess) (ns : List Key) : List Sess := ns.filterMap fun k => L.find? (fun s => s.key = k)
def allOf (L : List Sess) : List Sess := byKeys L (kSort (L.map (·.key)))
theorem byKeys_step {L : List Sess} {ns : List Key} {k : Nat} {q : Key} {s : Sess} (h : ns[k]? = some q) (hx : L.find? (fun s => s.key = q) = some s) : byKeys L (ns.take (k + 1)) = byKeys L (ns.take k) ++ [s] := by
  obtain ⟨hl, e⟩ := List.getElem?_eq_some_iff.1 h
  unfold byKeys
  rw [List.take_succ_eq_append_getElem hl, e, List.filterMap_append]
  simp [hx]
attribute [local go_sem ↓] Go.wp_at_zero Go.wp_at_succ
attribute [local go_sem ↓] ky_alloc_fold ky_store_fold ky_load_fold ky_slice_fold ss_slice_fold
set_option maxHeartbeats 1600000 in
theorem all_ok {S : Nat → Prop} {w : World} {tb mb mo : Nat} {L : List Sess} (h : Tab w tb mb mo S L) (hl : L.length ≤ 1000000) :
    Calls Try.prog 10 #[.pointer (some ⟨tb, 0, none⟩)] w fun e w' => ∃ v l, e = .returned v ∧ OL shSess 35 w' w.heap.size v l ∧ l.map (·.s) = allOf L ∧ Mod No w w' := by
  obtain ⟨D, hD, hDk⟩ := h.gmap
  have hsk := sortedKeys_ok hD (L.map (·.key)) hDk (by simpa using hl)
  have hkf := keysFn_ok mb w
  obtain ⟨N, hN⟩ : ∃ N, N = kSort (L.map (·.key)) := ⟨_, rfl⟩
  obtain ⟨n, hn⟩ : ∃ n, n = L.length := ⟨_, rfl⟩
  rw [← hN, List.length_map, ← hn] at hsk
  have hNl : N.length = n := by rw [hN, hn, (kSort_perm _).length_eq, List.length_map]
  have hNm : ∀ q ∈ N, q ∈ L.map (·.key) := fun q hq => by rw [hN] at hq; exact (kSort_perm _).mem_iff.1 hq
  have hn1 : n ≤ 1000000 := by omega
  have c0 : w.cell? ⟨tb, 0, none⟩ = some (.map (some mb)) := (blk_cell h.row 0).trans rfl
  have HT := Lib.hid h
  have HNM := Lib.hid hsk
  have HNL := Lib.hid (And.intro hNl (And.intro hNm (And.intro hN hn)))
  clear h hl hsk hNl hNm hN hn hD hDk
  go_enter Try.func10, Try.ntmps10
  go_wp2_with (first
    | (go_at_call 31; refine hkf.mono ?_; rintro e w1 ⟨rfl, rfl⟩)
    | (go_at_call 30; refine HNM.out.mono ?_; rintro e w2 ⟨A, c, rfl, hr, hm⟩; have HR := Lib.hid hr; have HM := Lib.hid hm; clear hr hm))
  have hT2 := HT.out.mod HM.out
  have HT2 := Lib.hid hT2
  clear hT2 hkf c0
  go_loopw [3, 13] (fun v i wr => ∃ (k : Nat) (acc : List SV), i = .int .i64 k ∧ k ≤ n ∧ acc.map (·.s) = byKeys L (N.take k) ∧ acc.length = k ∧ OL shSess 35 wr w2.heap.size v acc ∧ Mod No w2 wr) (fun _ i _ => n - (intOf i).toNat)
  case atStart => exact ⟨0, [], rfl, by omega, by simp [byKeys], rfl, OL.nil _ _ _ _, Mod.refl _ _⟩
  case round =>
    obtain ⟨k, acc, rfl, hk, hacc, hal, hol, hM⟩ := hrel
    by_cases hlt : k < n
    · obtain ⟨q, hq⟩ : ∃ q, N[k]? = some q := ⟨N[k]'(by have := HNL.out.1; omega), List.getElem?_eq_getElem (by have := HNL.out.1; omega)⟩
      obtain ⟨s, hsm, hsk⟩ := List.mem_map.1 (HNL.out.2.1 q (List.mem_of_getElem? hq))
      have hfs := HT.out.find_self hsm
      rw [hsk] at hfs
      have hpl := (HT.out.wf s hsm).2.2
      have hcell : ∃ nb no, A = some ⟨nb, no, none⟩ ∧ (kyLoad (.pointer (some ⟨nb, no + k * 3, none⟩))).run Try.prog wr = .ok q.val wr := by
        rcases HR.out with h0 | ⟨nb, no, e, hs, hc⟩
        · have h1 : N = [] := by
            cases hN0 : N with
            | nil => rfl
            | cons a b => rw [hN0] at h0; simp [Key.cells] at h0
          rw [h1] at hq; simp at hq
        · refine ⟨nb, no, e, kyLoad_run (fun j u hj => ?_)⟩
          have := flat_at Key.cells 3 Key.cells_len N k j q hq (by have := (List.getElem?_eq_some_iff.1 hj).1; simpa [Key.cells] using this)
          rw [Nat.add_assoc]
          exact hM.cell (hc (k * 3 + j) u (this.trans hj)) (fun f => f)
      obtain ⟨nb, no, rfl, hld⟩ := hcell
      have hal1 := kyAlloc_run wr
      have hst1 := kyStore_new wr q
      obtain ⟨W1, hW1⟩ : ∃ W1, W1 = wr.alloc (.cells q.cells.toArray 31) := ⟨_, rfl⟩
      have hm1 : Mod No wr W1 := by rw [hW1]; exact (Mod.refl _ _).alloc _
      have hz1 : W1.heap.size = wr.heap.size + 1 := by rw [hW1]; simp
      have hx1 : W1.heap[wr.heap.size]? = some (.cells q.cells.toArray 31 (0, 0)) := by rw [hW1]; exact at10 _ _
      rw [← hW1] at hst1
      have hT1 := HT2.out.mod (hM.trans hm1)
      have hc1 : W1.cell? ⟨tb, 0, none⟩ = some (.map (some mb)) := (blk_cell hT1.row 0).trans rfl
      have hld1 : (kyLoad (.pointer (some ⟨wr.heap.size, 0, none⟩))).run Try.prog W1.drew = .ok q.val W1.drew := kyLoad_run (fun j u hj => by rw [Nat.zero_add]; exact (blk_cell (w := W1.drew) hx1 j).trans (by simpa using hj))
      obtain ⟨AS, cs, hlk, hrow⟩ := (hT1.mod ((Mod.refl No W1).drew)).look hsm
      rw [hsk] at hlk
      have hcp := copied_own s AS cs W1.drew hrow hpl
      obtain ⟨K, hK⟩ : ∃ K, K = q.val := ⟨_, rfl⟩
      obtain ⟨CX, hCX⟩ : ∃ CX, CX = (SV.mk s AS cs).cells.toArray := ⟨_, rfl⟩
      have hsv : s.val AS cs = .agg CX := by rw [hCX]; rfl
      rw [hsv] at hlk hcp
      rw [← hK] at hld hst1 hld1 hlk
      have hol1 := hol.mod ((hm1.drew)) (fun _ _ _ f => f)
      have HX := Lib.hid (And.intro hq (And.intro hfs (And.intro hacc (And.intro hal (And.intro hol1 (And.intro hM hm1))))))
      have HCP := Lib.hid hcp
      have hw2 := HM.out.size
      have hwr := hM.size
      clear hq hsm hsk hfs hpl hW1 hx1 hT1 hrow hcp hK hCX hsv hol hol1 hM hm1 hacc hal
      go_wp2_with fail
      go_region_law (first
        | (go_simp; go_at_call 29; refine HCP.out.mono ?_; rintro e w3 ⟨A', c', rfl, hr', hm3⟩;
           obtain ⟨v', w', hrun, hol', hmm⟩ := push_sess (HX.out.2.2.2.2.1.mod hm3 (fun _ _ _ f => f)) (x := ⟨s, A', c'⟩) (OL.fresh (H := shSess) (x := ⟨s, A', c'⟩) HX.out.2.2.2.2.1 (B := W1.drew.heap.size) (by show _ ≤ W1.heap.size; omega) (fun q hq => (HX.out.2.2.2.2.1.block hq).2) ⟨hr'.lower (Nat.zero_le _), fun b hb => (hr'.lt b hb).1⟩) 39 (by have := HX.out.2.2.2.1; omega) (by have := hm3.size; have : W1.drew.heap.size = W1.heap.size := rfl; omega);
           have hsl := ssSlice_run ⟨s, A', c'⟩; 
           have hv9 : s.val A' c' = .agg (SV.mk s A' c').cells.toArray := rfl;
           obtain ⟨CY, hCY⟩ : ∃ CY, CY = (SV.mk s A' c').cells.toArray := ⟨_, rfl⟩; rw [hv9, ← hCY]; rw [← hCY] at hrun hsl; have H3 := Lib.hid (And.intro hol' (And.intro hmm hm3)); clear hr' hm3 hol' hmm hCY hv9)
        | (refine step_append_at (by with_reducible rfl) (by rfl) _ _ _ _ (by rfl) _ _ (by rfl) (by rfl) _ _ hrun ?_))
      all_goals
        go_wp2_with fail
        have hM1 : Mod No w2 W1.drew := (HX.out.2.2.2.2.2.1.trans HX.out.2.2.2.2.2.2).drew
        have h9 := (HX.out.2.2.2.2.1.mod H3.out.2.2 (fun _ _ _ f => f)).quiet (hM1.trans H3.out.2.2) H3.out.2.1
        refine ⟨⟨k + 1, acc ++ [⟨s, A', c'⟩], by go_num, by omega, ?_, by have := HX.out.2.2.2.1; simp; omega, H3.out.1, h9⟩, by simp [intOf]; omega⟩
        rw [byKeys_step HX.out.1 HX.out.2.1, List.map_append, HX.out.2.2.1]
        rfl
    · have hkn : k = n := by omega
      have HA := Lib.hid (And.intro hacc (And.intro hol hM))
      clear hacc hol hM hal
      subst hkn
      go_wp2
      go_ret
      refine ⟨_, acc, rfl, HA.out.2.1.lower HM.out.size, ?_, HM.out.trans HA.out.2.2⟩
      rw [HA.out.1, List.take_of_length_le (by have := HNL.out.1; omega), HNL.out.2.2.1]
      rfl

end Go.Proofs.Ytimbhkbdmcbodaa
