/-
  Package wheel, second part: Drop and At as they answer; Set.
-/
import Derived.Test.YtlbdpofgcipjjaaWhA
import Derived.Deep.DeepCutAuto
import Derived.Deep.AppendLies
namespace Go.Proofs.Ytlbdpofgcipjjaa
open Go.RowKit Go.MapKept Go.ChangeMaps
set_option linter.unusedVariables false
abbrev In64 (x : Int) : Prop := -9223372036854775808 ≤ x ∧ x ≤ 9223372036854775807
section
variable {w w' : World} {g bi now n0 : Nat} {bs : Nat → Nat} {M : List Ent} {L : List Due}

theorem drop_ok (h : Whl w g bs bi now M) (hv : WInv n0 M L) {id : Int} (hx : In64 id) : Calls Try.prog 11 #[.pointer (some ⟨g, 0, none⟩), .int .i64 id] w fun e w' => e = .returned (.bool (rhas L id)) ∧ Whl w' g bs bi now (mdrop M id) ∧ Mod (Own g bs bi) w w' ∧ w'.heap.size = w.heap.size := by
  rcases m_cases M id with hm | ⟨i, s, a, hi⟩
  · rw [(hv.miss hm).1, mdrop_miss hm]
    refine (drop_miss h hx hm).mono ?_
    rintro e w' ⟨rfl, rfl⟩
    exact ⟨rfl, h, Mod.refl _ _, rfl⟩
  · rw [mdrop_hit (e := (id, s, a)) hv.ids hi, (hv.hit hi).1]
    exact drop_hit h hi (hv.slots _ (List.mem_of_getElem? hi))
theorem at_ok (h : Whl w g bs bi now M) (hv : WInv n0 M L) {id : Int} (hx : In64 id) : Calls Try.prog 16 #[.pointer (some ⟨g, 0, none⟩), .int .i64 id] w fun e w' => e = .returned (.tuple #[.int .u32 (rat L id), .bool (rhas L id)]) ∧ w' = w := by
  rcases m_cases M id with hm | ⟨i, s, a, hi⟩
  · have hr : rat L id = 0 := by
      have h1 := (hv.miss hm).2
      unfold rat
      rw [List.find?_eq_none.2 ?_]
      · rfl
      · intro p hp
        rw [← h1] at hp
        simpa using (mem_rdrop.1 hp).2
    rw [(hv.miss hm).1, hr]
    exact at_miss h hx hm
  · have h1 := hv.hit hi
    rw [h1.1, h1.2.1]
    exact at_hit h hi (hv.slots _ (List.mem_of_getElem? hi))

/-! ### Set -/
theorem zeroU32 (w : World) : (zeroValue 22).run Try.prog w = .ok (.int .u32 0) w := by kernel_rfl
theorem wh_twice (w : World) (b : Nat) (o o' : Obj) : setBlock (setBlock w b o) b o' = setBlock w b o' := by
  simp [setBlock]
theorem wh_push (es : Array MapEntry) (k v v' : Value) (c : Nat) : (es.push ⟨k, v, c⟩).modify es.size (fun x => { x with val := v' }) = es.push ⟨k, v', c⟩ := by
  apply Array.ext
  · simp
  · intro i h1 h2
    simp only [Array.getElem_modify, Array.getElem_push]
    simp only [Array.size_modify, Array.size_push] at h1
    by_cases hi : es.size = i
    · subst hi; simp
    · have : i < es.size := by omega
      simp [hi, this]
theorem gm_push {P : Program} {k : TypeId} {b clock : Nat} {es : Array MapEntry} {D : List (Value × Value)} {x : Value} {kl : Lit} (hb : w.heap[b]? = some (.map es clock)) (hs : Stamped es clock) (hk : KeysOk P k es) (hD : es.toList.map (fun e => (e.key, e.val)) = D)
    (hx : keyOf P k x = some kl) (hn : ∀ y ∈ es.toList, y.key ≠ x) (v : Value) : GMap P k (setBlock w b (.map (es.push ⟨x, v, clock⟩) (clock + 1))) b (D ++ [(x, v)]) := by
  refine ⟨_, _, heap_setBlock_self _ (lt_of_block hb), stamped_push (val := v) hs hn, ?_, by simp [hD]⟩
  intro y hy
  simp only [Array.toList_push, List.mem_append, List.mem_singleton] at hy
  rcases hy with h2 | rfl
  · exact hk y h2
  · exact ⟨kl, hx⟩
def slotOf (a now : Nat) : Nat := max a ((now + 1) % 4294967296) % 64
theorem set_ok (h : Whl w g bs bi now M) (hv : WInv n0 M L) {id : Int} (hx : In64 id) {a : Nat} (ha : a < 4294967296) (hn : now < 4294967296) : Calls Try.prog 9 #[.pointer (some ⟨g, 0, none⟩), .int .i64 id, .int .u32 a] w fun e w' => e = .returned (.tuple #[]) ∧ Whl w' g bs bi now (mdrop M id ++ [(id, slotOf a now, a)]) ∧ Mod (Own g bs bi) w w' ∧ w'.heap.size = w.heap.size := by
  have hd := drop_ok h hv hx
  go_enter Try.func9, Try.ntmps9
  go_upto_region 1 with (go_at_call 11; refine hd.mono ?_; rintro e w1 ⟨rfl, hW, hM, hz⟩)
  have c0 := hW.c0
  go_upto_region 2 with fail
  have hsl : ((if (a : Int) < ((now : Int) + 1) % 4294967296 then ((now : Int) + 1) % 4294967296 else (a : Int)) % 64) = ((slotOf a now : Nat) : Int) := by
    unfold slotOf
    split <;> omega
  have hs : slotOf a now < 64 := Nat.mod_lt _ (by omega)
  simp only [hsl]
  clear hsl
  obtain ⟨s, hsd⟩ : ∃ s, slotOf a now = s := ⟨_, rfl⟩
  simp only [hsd] at hs ⊢
  have cs := hW.cs hs
  have ci := hW.ci
  have hne := hW.ne s hs
  have hno1 := vSl_no (mdrop_none (M := M) (id := id)) s
  have hno2 := vIn_no (mdrop_none (M := M) (id := id))
  obtain ⟨es, c, hb, hs1, hk1, hD1⟩ := hW.maps s hs
  obtain ⟨es', c', hb', hs2, hk2, hD2⟩ := hW.inm
  rw [← hD1] at hno1
  rw [← hD2] at hno2
  have hn1 := gm_no hno1
  have hn2 := gm_no hno2
  have hme1 := mapEntry_miss (b := bs s) (clock := c) keyedInt Try.underlying51 zeroU32 hk1 (keyOfInt id hx) hn1
  have hme2 : ∀ (w : World) (X : Obj), w.heap[bi]? = some (.map es' c') → (Instr.mapEntry 50 (.map (some bi)) (.int .i64 id)).run Try.prog (setBlock w (bs s) X) = .ok (.tuple #[.int .i64 0, .int .i64 c']) (setBlock (setBlock w (bs s) X) bi (.map (es'.push ⟨.int .i64 id, .int .i64 0, c'⟩) (c' + 1))) :=
    fun w X hw => mapEntry_miss (b := bi) (clock := c') keyedInt Try.underlying50 zeroInt hk2 (keyOfInt id hx) hn2 (setBlock w (bs s) X) (by rw [heap_setBlock_ne _ (fun e => hne.1 e.symm)]; exact hw)
  have hst1 : ∀ (w : World) (v : Value), w.heap[bs s]? = some (.map es c) → (Instr.entryStore 51 (.map (some (bs s))) (.int .i64 c) v).run Try.prog (setBlock w (bs s) (.map (es.push ⟨.int .i64 id, .int .u32 0, c⟩) (c + 1))) = .ok () (setBlock w (bs s) (.map (es.push ⟨.int .i64 id, v, c⟩) (c + 1))) := by
    intro w v hw
    have e := entryStore_run (b := bs s) (t := 51) (P := Try.prog) (stamped_push hs1 (val := .int .u32 0) hn1) (j := es.size) (e0 := ⟨.int .i64 id, .int .u32 0, c⟩) (by simp) v (setBlock w (bs s) (.map (es.push ⟨.int .i64 id, .int .u32 0, c⟩) (c + 1))) (heap_setBlock_self _ (lt_of_block hw))
    rw [e, wh_twice, wh_push]
  have hst2 : ∀ (w : World) (X : Obj) (v : Value), w.heap[bi]? = some (.map es' c') → (Instr.entryStore 50 (.map (some bi)) (.int .i64 c') v).run Try.prog (setBlock (setBlock w (bs s) X) bi (.map (es'.push ⟨.int .i64 id, .int .i64 0, c'⟩) (c' + 1))) = .ok () (setBlock (setBlock w (bs s) X) bi (.map (es'.push ⟨.int .i64 id, v, c'⟩) (c' + 1))) := by
    intro w X v hw
    have e := entryStore_run (b := bi) (t := 50) (P := Try.prog) (stamped_push hs2 (val := .int .i64 0) hn2) (j := es'.size) (e0 := ⟨.int .i64 id, .int .i64 0, c'⟩) (by simp) v (setBlock (setBlock w (bs s) X) bi (.map (es'.push ⟨.int .i64 id, .int .i64 0, c'⟩) (c' + 1))) (heap_setBlock_self _ (by rw [size_setBlock]; exact lt_of_block hw))
    rw [e, wh_twice, wh_push]
  have e1 := hme1 w1.drew hb
  have e2 := hst1 w1.drew (.int .u32 a) hb
  have e3 := hme2 w1.drew (.map (es.push ⟨.int .i64 id, .int .u32 a, c⟩) (c + 1)) hb'
  have e4 := hst2 w1.drew (.map (es.push ⟨.int .i64 id, .int .u32 a, c⟩) (c + 1)) (.int .i64 s) hb'
  have hfin : Whl (setBlock (setBlock w1.drew (bs s) (.map (es.push ⟨.int .i64 id, .int .u32 a, c⟩) (c + 1))) bi (.map (es'.push ⟨.int .i64 id, .int .i64 s, c'⟩) (c' + 1))) g bs bi now (mdrop M id ++ [(id, slotOf a now, a)]) ∧
      Mod (Own g bs bi) w (setBlock (setBlock w1.drew (bs s) (.map (es.push ⟨.int .i64 id, .int .u32 a, c⟩) (c + 1))) bi (.map (es'.push ⟨.int .i64 id, .int .i64 s, c'⟩) (c' + 1))) ∧ (setBlock (setBlock w1.drew (bs s) (.map (es.push ⟨.int .i64 id, .int .u32 a, c⟩) (c + 1))) bi (.map (es'.push ⟨.int .i64 id, .int .i64 s, c'⟩) (c' + 1))).heap.size = w.heap.size := by
    rw [hsd]
    have g1 := gm_push (w := w1.drew) (b := bs s) hb hs1 hk1 hD1 (keyOfInt id hx) hn1 (.int .u32 a)
    have m1 : Mod (fun j => j = bs s) w1 (setBlock w1.drew (bs s) (.map (es.push ⟨.int .i64 id, .int .u32 a, c⟩) (c + 1))) := (Mod.drew (Mod.refl (fun j => j = bs s) w1)).trans (setBlock_mod _ _ _)
    have z1 : (setBlock w1.drew (bs s) (.map (es.push ⟨.int .i64 id, .int .u32 a, c⟩) (c + 1))).heap.size = w1.heap.size := size_setBlock _
    have hb2 := m1.obj hb' (fun f => hne.1 f.symm)
    generalize setBlock w1.drew (bs s) (.map (es.push ⟨.int .i64 id, .int .u32 a, c⟩) (c + 1)) = W at g1 m1 z1 hb2 ⊢
    have g2 := gm_push hb2 hs2 hk2 hD2 (keyOfInt id hx) hn2 (.int .i64 s)
    have m2 : Mod (fun j => j = bi) W (setBlock W bi (.map (es'.push ⟨.int .i64 id, .int .i64 s, c'⟩) (c' + 1))) := setBlock_mod _ _ _
    have z2 : (setBlock W bi (.map (es'.push ⟨.int .i64 id, .int .i64 s, c'⟩) (c' + 1))).heap.size = W.heap.size := size_setBlock _
    generalize setBlock W bi (.map (es'.push ⟨.int .i64 id, .int .i64 s, c'⟩) (c' + 1)) = W' at g2 m2 z2 ⊢
    obtain ⟨C, hC, hr⟩ := hW.row
    refine ⟨⟨⟨C, m2.obj (m1.obj hC (fun f => hne.2 f.symm)) (fun f => hW.nei f.symm), hr⟩, fun k hk => ?_, ?_, hW.sep, hW.ne, hW.nei⟩, hM.trans ((m1.mono (fun x hx => .inr (.inr ⟨s, hs, hx⟩))).trans (m2.mono (fun x hx => .inr (.inl hx)))), z2.trans (z1.trans hz)⟩
    · by_cases hks : k = s
      · subst hks
        rw [vSl, (slotE_push _ _ _ _).1, List.map_append]
        exact g1.mod m2 hne.1
      · rw [vSl, (slotE_push _ _ _ _).2 k hks]
        exact ((hW.maps k hk).mod m1 (fun f => hks (hW.sep _ _ hk hs f))).mod m2 (hW.ne k hk).1
    · rw [vIn, List.map_append]
      exact g2
  have HF := Lib.hid hfin
  have HB := Lib.hid (And.intro hb hb')
  clear hfin hme1 hst1 hme2 hst2 hW hM hz hs1 hs2 hk1 hk2 hD1 hD2 hno1 hno2 hn1 hn2 h hv hd c0 hx
  go_region
  go_end0
  exact ⟨rfl, HF.out⟩
end

end Go.Proofs.Ytlbdpofgcipjjaa
