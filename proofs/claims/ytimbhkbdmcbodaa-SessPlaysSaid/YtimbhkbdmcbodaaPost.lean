/-
  What a law's post asks holds behind a walk that turns nothing of what was there: the kit's 'post_of_same' with our own 'Mod No' in place of the two facts on the frame and the frozen bytes. Ours.
  Conditions: none.
-/
import Derived.Test.YtimbhkbdmcbodaaLib
import Derived.ChangeSame
import Derived.WideShapes
import Derived.Below
import Derived.ReadAgain
import Derived.Handed
import Derived.ProofKit
import Derived.OpenShut
import Derived.Test.YtimbhkbdmcbodaaChecked
namespace Go.Proofs.Ytimbhkbdmcbodaa
open Go.ChangeShapes Go.WideShapes Go.ChangeAt Go.RowKit

theorem Mod.toBelow {w w' : World} (h : Mod No w w') : Below w.heap.size w w' :=
  ⟨h.os, h.tape, h.output, h.size, fun k hk => h.block k hk (fun f => f.elim)⟩

variable {H : Type} {enc : TypeId × Value → H} {P : Program}

theorem post_of_mod {f : Func} {s : ChangeSpec} {apart fresh handsOn again : Bool} {W W' : World} {args : Array Value} {v : Value} {ds gs : List (DataW H)} {before pa pv : List MemPlace}
    (hW : DataW.Whole enc P f.params.toList s.vars apart W args.toList ds gs before)
    (hres : ∀ (b : Nat) (sp : Nat → Bool) (hd : Bool), DataW.TrodAll enc P W' b sp hd f.resultTypes.toList (v.resultList f.resultTypes.size) (s.fn H (ds ++ gs)).results [])
    (hargs : ∀ sp : Nat → Bool, (∀ p ∈ before, sp p.block = true) → DataW.TrodAll enc P W' 0 sp true f.params.toList args.toList (s.fn H (ds ++ gs)).args pa)
    (hvars : ∀ sp : Nat → Bool, (∀ p ∈ before, sp p.block = true) → DataW.TrodVars enc P W' sp s.vars (s.fn H (ds ++ gs)).vars pv)
    (hps : before = pa ++ pv) (hm : Mod No W W')
    (hok : ∀ (j : Nat) (t : TypeId) (r : Value), f.resultTypes[j]? = some t → (v.resultList f.resultTypes.size)[j]? = some r → Value.okWide P W' .any 0 t r) :
    s.post enc P f apart fresh handsOn again W args v W' := by
  have hold : ∀ p ∈ before, (fun b => decide (b < W.heap.size)) p.block = true := fun p hp => by simpa using hW.lt p hp
  have hlt := hW.lt
  refine ⟨ds, gs, before, [], pa, pv, hW, hres _ _ _, hargs _ hold, hvars _ hold, World.keptBut_mono (fun p hp => ⟨hp, ?_⟩) (hm.toBelow.frame _), fun _ => ?_⟩
  · rw [hps, List.mem_append] at hp
    exact Or.inr hp
  · obtain ⟨_, _, _, _, _, hz, hn⟩ := hW
    refine ⟨hok, _, _, ([] ++ pa) ++ pv, ⟨[] ++ pa, pv, trodAll_append (hargs _ (fun _ _ => rfl)) (hres _ _ _), hvars _ (fun _ _ => rfl), rfl, ?_, ?_⟩, ?_⟩
    · intro b off hp
      have hp' : MemPlace.cell b off ∈ before := by rw [hps]; simpa using hp
      rw [hm.toBelow.frozen (by have := hlt _ hp'; simpa [MemPlace.block] using this)]
      exact hz b off hp'
    · intro ha
      have := hn ha
      rw [hps] at this
      simpa using this
    · intro p hp _
      rw [hps]
      simpa using hp

/-- What reads in the old world reads alike behind a call that turned nothing of it. -/
theorem trodAll_mod {W W' : World} (hm : Mod No W W') {base : Nat} {sp : Nat → Bool} {held : Bool} : ∀ {ts : List TypeId} {vs : List Value} {ds : List (DataW H)} {ps : List MemPlace},
    DataW.TrodAll enc P W base sp held ts vs ds ps → DataW.TrodAll enc P W' base sp held ts vs ds ps
  | [], [], [], _, h => h
  | _ :: _, _ :: _, _ :: _, _, ⟨p, q, ⟨n, h⟩, hs, e⟩ => ⟨p, q, ⟨n, DataW.trod_carry n _ _ _ h (fun z hz => hm.toBelow.same (DataW.TrodAll.lt (ts := [_]) (vs := [_]) (ds := [_]) (ps := p) ⟨p, [], ⟨n, h⟩, rfl, by simp⟩ z hz))⟩, trodAll_mod hm hs, e⟩

theorem Try.kids : Kids Try.prog (· < Try.prog.types.size) := kids_rows (by kernel_rfl) (by kernel_rfl)
theorem Try.full : ∀ t e, t < Try.prog.types.size → Try.prog.underlying t = some (.slice e) → 0 < Try.prog.cellsOf e := slices_full_of Try.prog (by kernel_rfl)

set_option maxRecDepth 100000 in
/-- A LAW's END, whatever its arguments: it returned true, and nothing that was there has turned. -/
theorem law_post {f : Func} {s : ChangeSpec} {apart fresh handsOn again : Bool} {W W' : World} {args : Array Value} {ds gs : List (DataW H)} {before : List MemPlace}
    (hW : DataW.Whole enc Try.prog f.params.toList s.vars apart W args.toList ds gs before) (hv : s.vars = [])
    (hts : ∀ t ∈ f.params.toList, t < Try.prog.types.size) (hrt : f.resultTypes = #[4])
    (hfn : s.fn H ds = { results := [.lit (.bool true)], args := ds }) (hm : Mod No W W') :
    s.post enc Try.prog f apart fresh handsOn again W args (.bool true) W' := by
  have hW' := hW
  obtain ⟨p, q, hA, hV, rfl, hfz, hnd⟩ := hW
  rw [hv] at hV
  obtain ⟨rfl, rfl⟩ := trodVars_none hV
  have hfn' : s.fn H (ds ++ []) = { results := [.lit (.bool true)], args := ds } := by rw [List.append_nil]; exact hfn
  refine post_of_mod (pa := p) (pv := []) hW' ?_ ?_ ?_ rfl hm ?_
  · intro b sp hd
    rw [hfn', hrt]
    exact trodAll_cons_mk (shut_bool Try.underlying4 _) trodAll_mk0
  · intro sp hsp
    rw [hfn']
    exact DataW.TrodAll.respare Try.kids Try.full hts (trodAll_mod hm hA) (fun x hx => hsp x (by simpa using hx))
  · intro sp hsp
    rw [hfn', hv]
    rfl
  · intro j t r h1 h2
    rw [hrt] at h1 h2
    obtain rfl : j = 0 := by have := (Array.getElem?_eq_some_iff.1 h1).1; simpa using this
    obtain rfl : 4 = t := by simpa using h1
    obtain rfl : Value.bool true = r := by simpa [Value.resultList] using h2
    exact okWide_bool_mk (t := 4) Try.underlying4 true

end Go.Proofs.Ytimbhkbdmcbodaa
