/-
  Package sess, fifth part: Add.
-/
import Derived.Test.YtimbhkbdmcbodaaSessD
namespace Go.Proofs.Ytimbhkbdmcbodaa
open Go.RowKit Go.MapKept Go.ChangeMaps
set_option linter.unusedVariables false

/-- What 't.by[k]' comes to. -/
theorem by_lookup {S : Nat → Prop} {w : World} {tb mb mo : Nat} {L : List Sess} (h : Tab w tb mb mo S L) (k : Key) (hk : k.wf) {es : Array MapEntry} {c : Nat} (hb : w.heap[mb]? = some (.map es c)) :
    ∃ s A cc, s = (L.find? (fun s => s.key = k)).getD .zero ∧ RowAt S w A (ptCells s.peers) ∧ s.peers.length ≤ 65536 ∧ ∀ w' : World, w'.heap[mb]? = some (.map es c) →
      (Instr.lookup 61 (.map (some mb)) k.val true).run Try.prog w' = .ok (.tuple #[s.val A cc, .bool (L.find? (fun s => s.key = k)).isSome]) w' := by
  obtain ⟨es', c', hb', hst, hall⟩ := h.byKey
  rw [hb] at hb'
  cases hb'
  obtain ⟨kl, hkl⟩ := keyOfKey k hk
  rcases find_all2 hall (·.key) (fun _ _ h => h.1) k with ⟨h1, hn⟩ | ⟨j, s', e0, h1, h2, h3, ⟨h4, h5⟩, h6, h7⟩
  · have hlk := lookup_miss (b := mb) (clock := c) keyedKey Try.underlying61 zeroSess (keysOk_by hall h.wf) hkl hn true
    exact ⟨.zero, none, 0, by rw [h1]; rfl, .nil _ _ _, by decide, by rw [h1]; exact hlk⟩
  · obtain ⟨A, cc, hv, hr⟩ := h5.val
    have hlk := lookup_hit (b := mb) keyedKey Try.underlying61 hst (keysOk_by hall h.wf) hkl h3 h6 true
    rw [hv] at hlk
    exact ⟨s', A, cc, by rw [h1]; rfl, hr, (h.wf _ (List.mem_of_getElem? h2)).2.2, by rw [h1]; exact hlk⟩
/-- What 't.out[o]' comes to. -/
theorem out_lookup {S : Nat → Prop} {w : World} {tb mb mo : Nat} {L : List Sess} (h : Tab w tb mb mo S L) (k : Key) (hk : k.wf) {es : Array MapEntry} {c : Nat} (hb : w.heap[mo]? = some (.map es c)) :
    ∃ k', k' = ((L.find? (fun s => s.of = k)).map (·.key)).getD .zero ∧ ∀ w' : World, w'.heap[mo]? = some (.map es c) →
      (Instr.lookup 62 (.map (some mo)) k.val true).run Try.prog w' = .ok (.tuple #[Key.val k', .bool (L.find? (fun s => s.of = k)).isSome]) w' := by
  obtain ⟨es', c', hb', hst, hall⟩ := h.byOut
  rw [hb] at hb'
  cases hb'
  obtain ⟨kl, hkl⟩ := keyOfOuter k hk
  rcases find_all2 hall Sess.of (fun _ _ h => h.1) k with ⟨h1, hn⟩ | ⟨j, s', e0, h1, h2, h3, ⟨h4, h5⟩, h6, h7⟩
  · have hlk := lookup_miss (b := mo) (clock := c) keyedOuter Try.underlying62 zeroKey (keysOk_out hall h.wf) hkl hn true
    exact ⟨.zero, by rw [h1]; rfl, by rw [h1]; exact hlk⟩
  · have hlk := lookup_hit (b := mo) keyedOuter Try.underlying62 hst (keysOk_out hall h.wf) hkl h3 h6 true
    rw [h5] at hlk
    exact ⟨s'.key, by rw [h1]; rfl, by rw [h1]; exact hlk⟩

theorem lt_ne {a b : Nat} (h : a < b) : a ≠ b := by omega

set_option maxRecDepth 100000 in
theorem add_have_ok {S S0 : Nat → Prop} {w : World} {tb mb mo : Nat} {L : List Sess} (h : Tab w tb mb mo S L) (s : Sess) (A : Option Addr) (cc : Nat) (hk : s.key.wf) (ho : s.out.wf) (most : Int)
    (hin : ((L.find? (fun x => x.key = s.key)).isSome || (L.find? (fun x => x.of = s.of)).isSome) = true) :
    Calls Try.prog 7 #[.pointer (some ⟨tb, 0, none⟩), s.val A cc, .int .i64 most] w fun e w' => e = .returned (.int .i64 131) ∧ Mod No w w' := by
  obtain ⟨es, c, hb, hs1⟩ := h.byKey
  obtain ⟨es', c', hb', hs2⟩ := h.byOut
  clear hs1 hs2
  obtain ⟨x, B, d, hx1, hx2, hx3, hl1⟩ := by_lookup h s.key hk hb
  obtain ⟨y, hy1, hl2⟩ := out_lookup h s.of ⟨hk.proto, ho⟩ hb'
  generalize (L.find? (fun x => x.key = s.key)).isSome = b1 at *
  generalize (L.find? (fun x => x.of = s.of)).isSome = b2 at *
  have hlt := lt_of_block h.row
  have hlt1 := lt_of_block hb
  have hlt2 := lt_of_block hb'
  have c0 : w.cell? ⟨tb, 0, none⟩ = some (.map (some mb)) := (blk_cell h.row 0).trans rfl
  have c1 : w.cell? ⟨tb, 1, none⟩ = some (.map (some mo)) := (blk_cell h.row 1).trans rfl
  have hold : ∀ w', Mod No (w.alloc (.cells #[.int .u8 s.key.proto, .int .u32 s.key.pt.ip, .int .u16 s.key.pt.port, .int .u32 s.out.ip, .int .u16 s.out.port, .int .u32 s.gen, .slice A s.peers.length cc, .int .i64 s.state, .int .u32 s.til] 35)) w' →
      w'.cell? ⟨tb, 0, none⟩ = some (.map (some mb)) ∧ w'.cell? ⟨tb, 1, none⟩ = some (.map (some mo)) ∧ w'.heap[mb]? = some (.map es c) ∧ w'.heap[mo]? = some (.map es' c') ∧
      w'.cell? ⟨w.heap.size, 0, none⟩ = some (.int .u8 s.key.proto) ∧ w'.cell? ⟨w.heap.size, 1, none⟩ = some (.int .u32 s.key.pt.ip) ∧ w'.cell? ⟨w.heap.size, 2, none⟩ = some (.int .u16 s.key.pt.port) ∧
      w'.cell? ⟨w.heap.size, 3, none⟩ = some (.int .u32 s.out.ip) ∧ w'.cell? ⟨w.heap.size, 4, none⟩ = some (.int .u16 s.out.port) ∧ w'.cell? ⟨w.heap.size, 5, none⟩ = some (.int .u32 s.gen) ∧
      w'.cell? ⟨w.heap.size, 6, none⟩ = some (.slice A s.peers.length cc) ∧ w'.cell? ⟨w.heap.size, 7, none⟩ = some (.int .i64 s.state) ∧ w'.cell? ⟨w.heap.size, 8, none⟩ = some (.int .u32 s.til) := by
    intro w' hm
    have B := hm.obj (at10 w _) id
    have hm' := ((Mod.refl No w).alloc _).trans hm
    exact ⟨hm'.cell c0 id, hm'.cell c1 id, hm'.obj hb id, hm'.obj hb' id, (blk_cell B 0).trans rfl, (blk_cell B 1).trans rfl, (blk_cell B 2).trans rfl, (blk_cell B 3).trans rfl, (blk_cell B 4).trans rfl, (blk_cell B 5).trans rfl, (blk_cell B 6).trans rfl, (blk_cell B 7).trans rfl, (blk_cell B 8).trans rfl⟩
  have hof := fun W => of_ok s A cc W
  have HH := Lib.hid h
  have HF := Lib.hid hof
  have HO := Lib.hid hold
  clear h hof hold hk ho hb hb' hx1 hx2 hx3 hy1
  unfold Key.val Sess.val Sess.of at *
  go_enter Try.func7, Try.ntmps7
  go_upto_region 1 with fail
  go_cut [8] (fun s8 wx => s8 = .bool b1 ∧ Mod No (w.alloc (.cells #[.int .u8 s.key.proto, .int .u32 s.key.pt.ip, .int .u16 s.key.pt.port, .int .u32 s.out.ip, .int .u16 s.out.port, .int .u32 s.gen, .slice A s.peers.length cc, .int .i64 s.state, .int .u32 s.til] 35)) wx)
  case first =>
    go_region_held3 (fun w' => w'.cell? ⟨tb, 0, none⟩ = some (.map (some mb)) ∧ w'.cell? ⟨tb, 1, none⟩ = some (.map (some mo)) ∧ w'.heap[mb]? = some (.map es c) ∧ w'.heap[mo]? = some (.map es' c') ∧
      w'.cell? ⟨w.heap.size, 0, none⟩ = some (.int .u8 s.key.proto) ∧ w'.cell? ⟨w.heap.size, 1, none⟩ = some (.int .u32 s.key.pt.ip) ∧ w'.cell? ⟨w.heap.size, 2, none⟩ = some (.int .u16 s.key.pt.port) ∧
      w'.cell? ⟨w.heap.size, 3, none⟩ = some (.int .u32 s.out.ip) ∧ w'.cell? ⟨w.heap.size, 4, none⟩ = some (.int .u16 s.out.port) ∧ w'.cell? ⟨w.heap.size, 5, none⟩ = some (.int .u32 s.gen) ∧
      w'.cell? ⟨w.heap.size, 6, none⟩ = some (.slice A s.peers.length cc) ∧ w'.cell? ⟨w.heap.size, 7, none⟩ = some (.int .i64 s.state) ∧ w'.cell? ⟨w.heap.size, 8, none⟩ = some (.int .u32 s.til))
      ((refine HO.out _ ?_; repeat (first | with_reducible exact Mod.refl _ _ | refine Mod.alloc ?_ _ | refine Mod.drew ?_ | refine Mod.setCell ?_ (.inl (by first | (simp; done) | (simp; omega))) _ | with_reducible refine Mod.trans ?_ hm))) (fail)
    all_goals (go_wp2_with fail; go_meet; refine ⟨rfl, ?_⟩; repeat (first | with_reducible exact Mod.refl _ _ | refine Mod.alloc ?_ _ | refine Mod.drew ?_ | refine Mod.setCell ?_ (.inl (by first | (simp; done) | (simp; omega))) _ | with_reducible refine Mod.trans ?_ hm))
  case rest =>
  obtain ⟨rfl, hm1⟩ := hcut
  obtain ⟨w1, rfl⟩ : ∃ x : World, x = wc := ⟨_, rfl⟩
  have F1 := HO.out _ hm1
  have HM1 := Lib.hid hm1
  have z1 := hm1.size
  simp at z1
  clear hm1
  go_upto_region 2 with fail
  go_cut [10] (fun s10 wx => s10 = .bool b2 ∧ Mod No w1 wx)
  case first =>
    go_region_held3 (fun w' => w'.cell? ⟨tb, 0, none⟩ = some (.map (some mb)) ∧ w'.cell? ⟨tb, 1, none⟩ = some (.map (some mo)) ∧ w'.heap[mb]? = some (.map es c) ∧ w'.heap[mo]? = some (.map es' c') ∧
      w'.cell? ⟨w.heap.size, 0, none⟩ = some (.int .u8 s.key.proto) ∧ w'.cell? ⟨w.heap.size, 1, none⟩ = some (.int .u32 s.key.pt.ip) ∧ w'.cell? ⟨w.heap.size, 2, none⟩ = some (.int .u16 s.key.pt.port) ∧
      w'.cell? ⟨w.heap.size, 3, none⟩ = some (.int .u32 s.out.ip) ∧ w'.cell? ⟨w.heap.size, 4, none⟩ = some (.int .u16 s.out.port) ∧ w'.cell? ⟨w.heap.size, 5, none⟩ = some (.int .u32 s.gen) ∧
      w'.cell? ⟨w.heap.size, 6, none⟩ = some (.slice A s.peers.length cc) ∧ w'.cell? ⟨w.heap.size, 7, none⟩ = some (.int .i64 s.state) ∧ w'.cell? ⟨w.heap.size, 8, none⟩ = some (.int .u32 s.til))
      ((refine HO.out _ ?_; repeat (first | with_reducible exact HM1.out | refine Mod.alloc ?_ _ | refine Mod.drew ?_ | refine Mod.setCell ?_ (.inl (by first | (simp; done) | (simp; omega))) _ | with_reducible refine Mod.trans ?_ hm)))
      (first | (go_at_call 28; refine (HF.out _).mono ?_; rintro e w2 ⟨rfl, hm⟩; have hz := hm.size; simp at hz; try ((with_reducible have B2 := hm.obj (at10d w1 _) id); have k2 := blk_cell B2; have f2 := blk_free B2; clear B2)))
    all_goals (go_wp2_with fail; go_meet; refine ⟨rfl, ?_⟩; repeat (first | with_reducible exact Mod.refl _ _ | refine Mod.alloc ?_ _ | refine Mod.drew ?_ | refine Mod.setCell ?_ (.inl (by first | (simp; done) | (simp; omega))) _ | with_reducible refine Mod.trans ?_ hm))
  case rest =>
  obtain ⟨rfl, hm2⟩ := hcut
  have HM2 := Lib.hid (HM1.out.trans hm2)
  clear hm2 F1
  cases b1 <;> cases b2
  · exact absurd hin (by decide)
  all_goals
    go_wp2
    go_ret
    exact ⟨rfl, ((Mod.refl _ _).alloc _).trans HM2.out⟩

theorem setBlock_twice (w : World) (b : Nat) (o o' : Obj) : setBlock (setBlock w b o) b o' = setBlock w b o' := by
  simp [ChangeMaps.setBlock]
theorem push_modify (es : Array MapEntry) (k v v' : Value) (c : Nat) : (es.push ⟨k, v, c⟩).modify es.size (fun x => { x with val := v' }) = es.push ⟨k, v', c⟩ := by
  apply Array.ext_getElem?
  intro i
  rw [Array.getElem?_modify, Array.getElem?_push, Array.getElem?_push]
  by_cases h : es.size = i
  · subst h; simp
  · have h' : ¬ i = es.size := fun e => h e.symm
    simp [h, h']
theorem tab_push {S : Nat → Prop} {w : World} {tb mb mo : Nat} {L : List Sess} (h : Tab w tb mb mo S L) {es es' : Array MapEntry} {c c' : Nat} (hb : w.heap[mb]? = some (.map es c)) (hb' : w.heap[mo]? = some (.map es' c'))
    (s : Sess) (hk : s.key.wf) (ho : s.out.wf) (hpl : s.peers.length ≤ 65536) (hno1 : ∀ x ∈ es.toList, x.key ≠ s.key.val) (hno2 : ∀ x ∈ es'.toList, x.key ≠ s.of.val) (W : World) (v : Value) (hW : Mod No w W) (hv : SessV (fun b => w.heap.size ≤ b ∧ b < W.heap.size) W s v) :
    Tab (setBlock (setBlock W mb (.map (es.push ⟨s.key.val, v, c⟩) (c + 1))) mo (.map (es'.push ⟨s.of.val, s.key.val, c'⟩) (c' + 1))) tb mb mo (fun b => S b ∨ (w.heap.size ≤ b ∧ b < W.heap.size)) (L ++ [s]) := by
  have hlt := lt_of_block h.row
  have hlt1 := lt_of_block hb
  have hlt2 := lt_of_block hb'
  obtain ⟨n1, n2, n3⟩ := h.ne
  obtain ⟨a1, a2, a3⟩ := h.apart
  have hkeep : Keeps (fun b => S b ∨ (w.heap.size ≤ b ∧ b < W.heap.size)) W (setBlock (setBlock W mb (.map (es.push ⟨s.key.val, v, c⟩) (c + 1))) mo (.map (es'.push ⟨s.of.val, s.key.val, c'⟩) (c' + 1))) := by
    intro b o hs hbo
    have e1 : b ≠ mb := by rintro rfl; rcases hs with hs | hs; exact a2 hs; omega
    have e2 : b ≠ mo := by rintro rfl; rcases hs with hs | hs; exact a3 hs; omega
    rw [heap_setBlock_ne _ e2, heap_setBlock_ne _ e1]
    exact hbo
  obtain ⟨e1, c1, g1, st1, al1⟩ := h.byKey
  obtain ⟨e2, c2, g2, st2, al2⟩ := h.byOut
  rw [hb] at g1
  rw [hb'] at g2
  cases g1
  cases g2
  refine ⟨?_, ⟨_, _, ?_, stamped_push (val := v) st1 hno1, ?_⟩, ⟨_, _, heap_setBlock_self _ (by rw [size_setBlock]; exact Nat.lt_of_lt_of_le hlt2 hW.size), stamped_push (val := s.key.val) st2 hno2, ?_⟩, h.ne, ⟨fun hh => ?_, fun hh => ?_, fun hh => ?_⟩, ?_⟩
  · rw [heap_setBlock_ne _ n2, heap_setBlock_ne _ n1]
    exact hW.obj h.row id
  · rw [heap_setBlock_ne _ n3]
    exact heap_setBlock_self _ (Nat.lt_of_lt_of_le hlt1 hW.size)
  · rw [Array.toList_push]
    refine All2.append (All2.imp (fun x y ⟨q1, q2⟩ => ⟨q1, ((q2.keeps (hW.keeps (fun _ _ _ => id))).mono (fun b _ hs => .inl hs)).keeps hkeep⟩) al1) ⟨⟨rfl, ?_⟩, trivial⟩
    · exact (hv.mono (fun b _ hs => .inr hs)).keeps hkeep
  · rw [Array.toList_push]
    exact All2.append al2 ⟨⟨rfl, rfl⟩, trivial⟩
  · rcases hh with hh | hh; exact a1 hh; omega
  · rcases hh with hh | hh; exact a2 hh; omega
  · rcases hh with hh | hh; exact a3 hh; omega
  · intro x hx
    rcases List.mem_append.1 hx with hx | hx
    · exact h.wf x hx
    · simp at hx; subst hx; exact ⟨hk, ho, hpl⟩
set_option maxRecDepth 100000 in
theorem add_full_ok {S S0 : Nat → Prop} {w : World} {tb mb mo : Nat} {L : List Sess} (h : Tab w tb mb mo S L) (s : Sess) (A : Option Addr) (cc : Nat) (hk : s.key.wf) (ho : s.out.wf) (most : Int)
    (hx : RowAt S0 w A (ptCells s.peers)) (hpl : s.peers.length ≤ 65536) (hfull : most ≤ L.length) (hn1 : L.find? (fun x => x.key = s.key) = none) (hn2 : L.find? (fun x => x.of = s.of) = none) :
    Calls Try.prog 7 #[.pointer (some ⟨tb, 0, none⟩), s.val A cc, .int .i64 most] w fun e w' => e = .returned (.int .i64 130) ∧ Mod No w w' := by
  obtain ⟨es, c, hb, hs1⟩ := h.byKey
  obtain ⟨es', c', hb', hs2⟩ := h.byOut
  obtain ⟨x, B, d, hx1, hx2, hx3, hl1⟩ := by_lookup h s.key hk hb
  obtain ⟨y, hy1, hl2⟩ := out_lookup h s.of ⟨hk.proto, ho⟩ hb'
  rw [hn1] at hl1
  rw [hn2] at hl2
  simp only [Option.isSome_none] at hl1 hl2
  have hlt := lt_of_block h.row
  have hlt1 := lt_of_block hb
  have hlt2 := lt_of_block hb'
  have c0 : w.cell? ⟨tb, 0, none⟩ = some (.map (some mb)) := (blk_cell h.row 0).trans rfl
  have c1 : w.cell? ⟨tb, 1, none⟩ = some (.map (some mo)) := (blk_cell h.row 1).trans rfl
  have hold : ∀ w', Mod No (w.alloc (.cells #[.int .u8 s.key.proto, .int .u32 s.key.pt.ip, .int .u16 s.key.pt.port, .int .u32 s.out.ip, .int .u16 s.out.port, .int .u32 s.gen, .slice A s.peers.length cc, .int .i64 s.state, .int .u32 s.til] 35)) w' →
      w'.cell? ⟨tb, 0, none⟩ = some (.map (some mb)) ∧ w'.cell? ⟨tb, 1, none⟩ = some (.map (some mo)) ∧ w'.heap[mb]? = some (.map es c) ∧ w'.heap[mo]? = some (.map es' c') ∧
      w'.cell? ⟨w.heap.size, 0, none⟩ = some (.int .u8 s.key.proto) ∧ w'.cell? ⟨w.heap.size, 1, none⟩ = some (.int .u32 s.key.pt.ip) ∧ w'.cell? ⟨w.heap.size, 2, none⟩ = some (.int .u16 s.key.pt.port) ∧
      w'.cell? ⟨w.heap.size, 3, none⟩ = some (.int .u32 s.out.ip) ∧ w'.cell? ⟨w.heap.size, 4, none⟩ = some (.int .u16 s.out.port) ∧ w'.cell? ⟨w.heap.size, 5, none⟩ = some (.int .u32 s.gen) ∧
      w'.cell? ⟨w.heap.size, 6, none⟩ = some (.slice A s.peers.length cc) ∧ w'.cell? ⟨w.heap.size, 7, none⟩ = some (.int .i64 s.state) ∧ w'.cell? ⟨w.heap.size, 8, none⟩ = some (.int .u32 s.til) := by
    intro w' hm
    have B := hm.obj (at10 w _) id
    have hm' := ((Mod.refl No w).alloc _).trans hm
    exact ⟨hm'.cell c0 id, hm'.cell c1 id, hm'.obj hb id, hm'.obj hb' id, (blk_cell B 0).trans rfl, (blk_cell B 1).trans rfl, (blk_cell B 2).trans rfl, (blk_cell B 3).trans rfl, (blk_cell B 4).trans rfl, (blk_cell B 5).trans rfl, (blk_cell B 6).trans rfl, (blk_cell B 7).trans rfl, (blk_cell B 8).trans rfl⟩
  obtain ⟨kl, hkl⟩ := keyOfKey s.key hk
  obtain ⟨kl', hkl'⟩ := keyOfOuter s.of ⟨hk.proto, ho⟩
  have hlen : es.size = L.length := by have := hs1.2.length; simpa using this.symm
  have hno1 : ∀ x ∈ es.toList, x.key ≠ s.key.val := by
    rcases find_all2 hs1.2 (·.key) (fun _ _ h => h.1) s.key with ⟨_, h2⟩ | ⟨_, _, _, h1, _⟩
    · exact h2
    · rw [h1] at hn1; cases hn1
  have hno2 : ∀ x ∈ es'.toList, x.key ≠ s.of.val := by
    rcases find_all2 hs2.2 Sess.of (fun _ _ h => h.1) s.of with ⟨_, h2⟩ | ⟨_, _, _, h1, _⟩
    · exact h2
    · rw [h1] at hn2; cases hn2
  have hme1 := mapEntry_miss (b := mb) (clock := c) keyedKey Try.underlying61 zeroSess (keysOk_by hs1.2 h.wf) hkl hno1
  have hme2 : ∀ (w : World) (X : Obj), w.heap[mo]? = some (.map es' c') → (Instr.mapEntry 62 (.map (some mo)) s.of.val).run Try.prog (setBlock w mb X) = .ok (.tuple #[Key.zero.val, .int .i64 c']) (setBlock (setBlock w mb X) mo (.map (es'.push ⟨s.of.val, Key.zero.val, c'⟩) (c' + 1))) :=
    fun w X hw => mapEntry_miss (b := mo) (clock := c') keyedOuter Try.underlying62 zeroKey (keysOk_out hs2.2 h.wf) hkl' hno2 (setBlock w mb X) (by rw [heap_setBlock_ne _ (fun e => h.ne.2.2 e.symm)]; exact hw)
  have hst1 : ∀ (w : World) (v : Value), w.heap[mb]? = some (.map es c) → (Instr.entryStore 61 (.map (some mb)) (.int .i64 c) v).run Try.prog (setBlock w mb (.map (es.push ⟨s.key.val, Sess.zero.val none 0, c⟩) (c + 1))) = .ok () (setBlock w mb (.map (es.push ⟨s.key.val, v, c⟩) (c + 1))) := by
    intro w v hw
    have e := entryStore_run (b := mb) (t := 61) (P := Try.prog) (stamped_push hs1.1 (val := Sess.zero.val none 0) hno1) (j := es.size) (e0 := ⟨s.key.val, Sess.zero.val none 0, c⟩) (by simp) v (setBlock w mb (.map (es.push ⟨s.key.val, Sess.zero.val none 0, c⟩) (c + 1))) (heap_setBlock_self _ (lt_of_block hw))
    rw [e, setBlock_twice, push_modify]
  have hst2 : ∀ (w : World) (X : Obj) (v : Value), w.heap[mo]? = some (.map es' c') → (Instr.entryStore 62 (.map (some mo)) (.int .i64 c') v).run Try.prog (setBlock (setBlock w mb X) mo (.map (es'.push ⟨s.of.val, Key.zero.val, c'⟩) (c' + 1))) = .ok () (setBlock (setBlock w mb X) mo (.map (es'.push ⟨s.of.val, v, c'⟩) (c' + 1))) := by
    intro w X v hw
    have e := entryStore_run (b := mo) (t := 62) (P := Try.prog) (stamped_push hs2.1 (val := Key.zero.val) hno2) (j := es'.size) (e0 := ⟨s.of.val, Key.zero.val, c'⟩) (by simp) v (setBlock (setBlock w mb X) mo (.map (es'.push ⟨s.of.val, Key.zero.val, c'⟩) (c' + 1))) (heap_setBlock_self _ (by rw [size_setBlock]; exact lt_of_block hw))
    rw [e, setBlock_twice, push_modify]
  have hln := fun ty => len_map (b := mb) (ty := ty) Try.underlying61 es c
  rw [hlen] at hln
  have hcp := fun W hW => copied_ok (S := fun b => S0 b ∧ b < w.heap.size) s A cc W hW hpl
  have hrow : ∀ W, Mod No w W → RowAt (fun b => S0 b ∧ b < w.heap.size) W A (ptCells s.peers) := fun W hW => (hx.mono (fun b hb hs => ⟨hs, hb⟩)).keeps (hW.keeps (fun _ _ _ => id))
  have htab : ∀ (W : World) (v : Value), Mod No w W → SessV (fun b => w.heap.size ≤ b ∧ b < W.heap.size) W s v → Tab (setBlock (setBlock W mb (.map (es.push ⟨s.key.val, v, c⟩) (c + 1))) mo (.map (es'.push ⟨s.of.val, s.key.val, c'⟩) (c' + 1))) tb mb mo (fun b => S b ∨ (w.heap.size ≤ b ∧ b < W.heap.size)) (L ++ [s]) :=
    fun W v hW hv => tab_push h hb hb' s hk ho hpl hno1 hno2 W v hW hv
  have hof := fun W => of_ok s A cc W
  have HH := Lib.hid h
  have HF := Lib.hid hof
  have HC := Lib.hid hcp
  have HR := Lib.hid hrow
  have HT := Lib.hid htab
  have HB := Lib.hid (And.intro hb hb')
  have HO := Lib.hid hold
  clear h hof hold hk ho hb hb' hx1 hx2 hx3 hy1 hcp hrow htab hs1 hs2 hno1 hno2 hkl hkl' hlen hn1 hn2 hx hpl
  unfold Key.val Sess.val Sess.of at *
  go_enter Try.func7, Try.ntmps7
  go_upto_region 1 with fail
  go_cut [8] (fun s8 wx => s8 = .bool false ∧ Mod No (w.alloc (.cells #[.int .u8 s.key.proto, .int .u32 s.key.pt.ip, .int .u16 s.key.pt.port, .int .u32 s.out.ip, .int .u16 s.out.port, .int .u32 s.gen, .slice A s.peers.length cc, .int .i64 s.state, .int .u32 s.til] 35)) wx)
  case first =>
    go_region_held3 (fun w' => w'.cell? ⟨tb, 0, none⟩ = some (.map (some mb)) ∧ w'.cell? ⟨tb, 1, none⟩ = some (.map (some mo)) ∧ w'.heap[mb]? = some (.map es c) ∧ w'.heap[mo]? = some (.map es' c') ∧
      w'.cell? ⟨w.heap.size, 0, none⟩ = some (.int .u8 s.key.proto) ∧ w'.cell? ⟨w.heap.size, 1, none⟩ = some (.int .u32 s.key.pt.ip) ∧ w'.cell? ⟨w.heap.size, 2, none⟩ = some (.int .u16 s.key.pt.port) ∧
      w'.cell? ⟨w.heap.size, 3, none⟩ = some (.int .u32 s.out.ip) ∧ w'.cell? ⟨w.heap.size, 4, none⟩ = some (.int .u16 s.out.port) ∧ w'.cell? ⟨w.heap.size, 5, none⟩ = some (.int .u32 s.gen) ∧
      w'.cell? ⟨w.heap.size, 6, none⟩ = some (.slice A s.peers.length cc) ∧ w'.cell? ⟨w.heap.size, 7, none⟩ = some (.int .i64 s.state) ∧ w'.cell? ⟨w.heap.size, 8, none⟩ = some (.int .u32 s.til))
      ((refine HO.out _ ?_; repeat (first | with_reducible exact Mod.refl _ _ | refine Mod.alloc ?_ _ | refine Mod.drew ?_ | refine Mod.setCell ?_ (.inl (by first | (simp; done) | (simp; omega))) _ | with_reducible refine Mod.trans ?_ hm))) (fail)
    all_goals (go_wp2_with fail; go_meet; refine ⟨rfl, ?_⟩; repeat (first | with_reducible exact Mod.refl _ _ | refine Mod.alloc ?_ _ | refine Mod.drew ?_ | refine Mod.setCell ?_ (.inl (by first | (simp; done) | (simp; omega))) _ | with_reducible refine Mod.trans ?_ hm))
  case rest =>
  obtain ⟨rfl, hm1⟩ := hcut
  obtain ⟨w1, rfl⟩ : ∃ x : World, x = wc := ⟨_, rfl⟩
  have F1 := HO.out _ hm1
  have HM1 := Lib.hid hm1
  have z1 := hm1.size
  simp at z1
  clear hm1
  go_upto_region 2 with fail
  go_cut [10] (fun s10 wx => s10 = .bool false ∧ Mod No w1 wx)
  case first =>
    go_region_held3 (fun w' => w'.cell? ⟨tb, 0, none⟩ = some (.map (some mb)) ∧ w'.cell? ⟨tb, 1, none⟩ = some (.map (some mo)) ∧ w'.heap[mb]? = some (.map es c) ∧ w'.heap[mo]? = some (.map es' c') ∧
      w'.cell? ⟨w.heap.size, 0, none⟩ = some (.int .u8 s.key.proto) ∧ w'.cell? ⟨w.heap.size, 1, none⟩ = some (.int .u32 s.key.pt.ip) ∧ w'.cell? ⟨w.heap.size, 2, none⟩ = some (.int .u16 s.key.pt.port) ∧
      w'.cell? ⟨w.heap.size, 3, none⟩ = some (.int .u32 s.out.ip) ∧ w'.cell? ⟨w.heap.size, 4, none⟩ = some (.int .u16 s.out.port) ∧ w'.cell? ⟨w.heap.size, 5, none⟩ = some (.int .u32 s.gen) ∧
      w'.cell? ⟨w.heap.size, 6, none⟩ = some (.slice A s.peers.length cc) ∧ w'.cell? ⟨w.heap.size, 7, none⟩ = some (.int .i64 s.state) ∧ w'.cell? ⟨w.heap.size, 8, none⟩ = some (.int .u32 s.til))
      ((refine HO.out _ ?_; repeat (first | with_reducible exact HM1.out | refine Mod.alloc ?_ _ | refine Mod.drew ?_ | refine Mod.setCell ?_ (.inl (by first | (simp; done) | (simp; omega))) _ | with_reducible refine Mod.trans ?_ hm)))
      (first | (go_at_call 28; refine (HF.out _).mono ?_; rintro e w2 ⟨rfl, hm⟩; have hz := hm.size; simp at hz; try ((with_reducible have B2 := hm.obj (at10d w1 _) id); have k2 := blk_cell B2; have f2 := blk_free B2; clear B2)))
    all_goals (go_wp2_with fail; go_meet; refine ⟨rfl, ?_⟩; repeat (first | with_reducible exact Mod.refl _ _ | refine Mod.alloc ?_ _ | refine Mod.drew ?_ | refine Mod.setCell ?_ (.inl (by first | (simp; done) | (simp; omega))) _ | with_reducible refine Mod.trans ?_ hm))
  case rest =>
  obtain ⟨rfl, hm2⟩ := hcut
  have hm12 := HM1.out.trans hm2
  have F2 := HO.out _ hm12
  have hold2 : ∀ w', Mod (fun b => b = mb ∨ b = mo) wc w' → w'.cell? ⟨tb, 0, none⟩ = some (.map (some mb)) ∧ w'.cell? ⟨tb, 1, none⟩ = some (.map (some mo)) ∧
      w'.cell? ⟨w.heap.size, 0, none⟩ = some (.int .u8 s.key.proto) ∧ w'.cell? ⟨w.heap.size, 1, none⟩ = some (.int .u32 s.key.pt.ip) ∧ w'.cell? ⟨w.heap.size, 2, none⟩ = some (.int .u16 s.key.pt.port) ∧
      w'.cell? ⟨w.heap.size, 3, none⟩ = some (.int .u32 s.out.ip) ∧ w'.cell? ⟨w.heap.size, 4, none⟩ = some (.int .u16 s.out.port) ∧ w'.cell? ⟨w.heap.size, 5, none⟩ = some (.int .u32 s.gen) ∧
      w'.cell? ⟨w.heap.size, 6, none⟩ = some (.slice A s.peers.length cc) ∧ w'.cell? ⟨w.heap.size, 7, none⟩ = some (.int .i64 s.state) ∧ w'.cell? ⟨w.heap.size, 8, none⟩ = some (.int .u32 s.til) := by
    obtain ⟨f0, f1, _, _, f4, f5, f6, f7, f8, f9, f10, f11, f12⟩ := F2
    have n1 : ¬ (tb = mb ∨ tb = mo) := by have := HH.out.ne; omega
    have n2 : ¬ (w.heap.size = mb ∨ w.heap.size = mo) := by omega
    exact fun w' hm => ⟨hm.cell f0 n1, hm.cell f1 n1, hm.cell f4 n2, hm.cell f5 n2, hm.cell f6 n2, hm.cell f7 n2, hm.cell f8 n2, hm.cell f9 n2, hm.cell f10 n2, hm.cell f11 n2, hm.cell f12 n2⟩
  have HO2 := Lib.hid hold2
  have HM2 := Lib.hid hm12
  clear hm2 hm12 hold2
  go_wp2
  go_ret
  exact ⟨rfl, ((Mod.refl _ _).alloc _).trans HM2.out⟩
set_option maxHeartbeats 1600000 in
set_option maxRecDepth 100000 in
theorem add_new_ok {S S0 : Nat → Prop} {w : World} {tb mb mo : Nat} {L : List Sess} (h : Tab w tb mb mo S L) (s : Sess) (A : Option Addr) (cc : Nat) (hk : s.key.wf) (ho : s.out.wf) (most : Int)
    (hx : RowAt S0 w A (ptCells s.peers)) (hpl : s.peers.length ≤ 65536) (hfull : ¬ most ≤ L.length) (hn1 : L.find? (fun x => x.key = s.key) = none) (hn2 : L.find? (fun x => x.of = s.of) = none) :
    Calls Try.prog 7 #[.pointer (some ⟨tb, 0, none⟩), s.val A cc, .int .i64 most] w fun e w' => e = .returned (.int .i64 0) ∧ Mod (fun b => b = mb ∨ b = mo) w w' ∧ ∃ S', (∀ b, S' b → S b ∨ (w.heap.size ≤ b ∧ b < w'.heap.size)) ∧ Tab w' tb mb mo S' (L ++ [s]) := by
  obtain ⟨es, c, hb, hs1⟩ := h.byKey
  obtain ⟨es', c', hb', hs2⟩ := h.byOut
  obtain ⟨x, B, d, hx1, hx2, hx3, hl1⟩ := by_lookup h s.key hk hb
  obtain ⟨y, hy1, hl2⟩ := out_lookup h s.of ⟨hk.proto, ho⟩ hb'
  rw [hn1] at hl1
  rw [hn2] at hl2
  simp only [Option.isSome_none] at hl1 hl2
  have hlt := lt_of_block h.row
  have hlt1 := lt_of_block hb
  have hlt2 := lt_of_block hb'
  have c0 : w.cell? ⟨tb, 0, none⟩ = some (.map (some mb)) := (blk_cell h.row 0).trans rfl
  have c1 : w.cell? ⟨tb, 1, none⟩ = some (.map (some mo)) := (blk_cell h.row 1).trans rfl
  have hold : ∀ w', Mod No (w.alloc (.cells #[.int .u8 s.key.proto, .int .u32 s.key.pt.ip, .int .u16 s.key.pt.port, .int .u32 s.out.ip, .int .u16 s.out.port, .int .u32 s.gen, .slice A s.peers.length cc, .int .i64 s.state, .int .u32 s.til] 35)) w' →
      w'.cell? ⟨tb, 0, none⟩ = some (.map (some mb)) ∧ w'.cell? ⟨tb, 1, none⟩ = some (.map (some mo)) ∧ w'.heap[mb]? = some (.map es c) ∧ w'.heap[mo]? = some (.map es' c') ∧
      w'.cell? ⟨w.heap.size, 0, none⟩ = some (.int .u8 s.key.proto) ∧ w'.cell? ⟨w.heap.size, 1, none⟩ = some (.int .u32 s.key.pt.ip) ∧ w'.cell? ⟨w.heap.size, 2, none⟩ = some (.int .u16 s.key.pt.port) ∧
      w'.cell? ⟨w.heap.size, 3, none⟩ = some (.int .u32 s.out.ip) ∧ w'.cell? ⟨w.heap.size, 4, none⟩ = some (.int .u16 s.out.port) ∧ w'.cell? ⟨w.heap.size, 5, none⟩ = some (.int .u32 s.gen) ∧
      w'.cell? ⟨w.heap.size, 6, none⟩ = some (.slice A s.peers.length cc) ∧ w'.cell? ⟨w.heap.size, 7, none⟩ = some (.int .i64 s.state) ∧ w'.cell? ⟨w.heap.size, 8, none⟩ = some (.int .u32 s.til) := by
    intro w' hm
    have B := hm.obj (at10 w _) id
    have hm' := ((Mod.refl No w).alloc _).trans hm
    exact ⟨hm'.cell c0 id, hm'.cell c1 id, hm'.obj hb id, hm'.obj hb' id, (blk_cell B 0).trans rfl, (blk_cell B 1).trans rfl, (blk_cell B 2).trans rfl, (blk_cell B 3).trans rfl, (blk_cell B 4).trans rfl, (blk_cell B 5).trans rfl, (blk_cell B 6).trans rfl, (blk_cell B 7).trans rfl, (blk_cell B 8).trans rfl⟩
  obtain ⟨kl, hkl⟩ := keyOfKey s.key hk
  obtain ⟨kl', hkl'⟩ := keyOfOuter s.of ⟨hk.proto, ho⟩
  have hlen : es.size = L.length := by have := hs1.2.length; simpa using this.symm
  have hno1 : ∀ x ∈ es.toList, x.key ≠ s.key.val := by
    rcases find_all2 hs1.2 (·.key) (fun _ _ h => h.1) s.key with ⟨_, h2⟩ | ⟨_, _, _, h1, _⟩
    · exact h2
    · rw [h1] at hn1; cases hn1
  have hno2 : ∀ x ∈ es'.toList, x.key ≠ s.of.val := by
    rcases find_all2 hs2.2 Sess.of (fun _ _ h => h.1) s.of with ⟨_, h2⟩ | ⟨_, _, _, h1, _⟩
    · exact h2
    · rw [h1] at hn2; cases hn2
  have hme1 := mapEntry_miss (b := mb) (clock := c) keyedKey Try.underlying61 zeroSess (keysOk_by hs1.2 h.wf) hkl hno1
  have hme2 : ∀ (w : World) (X : Obj), w.heap[mo]? = some (.map es' c') → (Instr.mapEntry 62 (.map (some mo)) s.of.val).run Try.prog (setBlock w mb X) = .ok (.tuple #[Key.zero.val, .int .i64 c']) (setBlock (setBlock w mb X) mo (.map (es'.push ⟨s.of.val, Key.zero.val, c'⟩) (c' + 1))) :=
    fun w X hw => mapEntry_miss (b := mo) (clock := c') keyedOuter Try.underlying62 zeroKey (keysOk_out hs2.2 h.wf) hkl' hno2 (setBlock w mb X) (by rw [heap_setBlock_ne _ (fun e => h.ne.2.2 e.symm)]; exact hw)
  have hst1 : ∀ (w : World) (v : Value), w.heap[mb]? = some (.map es c) → (Instr.entryStore 61 (.map (some mb)) (.int .i64 c) v).run Try.prog (setBlock w mb (.map (es.push ⟨s.key.val, Sess.zero.val none 0, c⟩) (c + 1))) = .ok () (setBlock w mb (.map (es.push ⟨s.key.val, v, c⟩) (c + 1))) := by
    intro w v hw
    have e := entryStore_run (b := mb) (t := 61) (P := Try.prog) (stamped_push hs1.1 (val := Sess.zero.val none 0) hno1) (j := es.size) (e0 := ⟨s.key.val, Sess.zero.val none 0, c⟩) (by simp) v (setBlock w mb (.map (es.push ⟨s.key.val, Sess.zero.val none 0, c⟩) (c + 1))) (heap_setBlock_self _ (lt_of_block hw))
    rw [e, setBlock_twice, push_modify]
  have hst2 : ∀ (w : World) (X : Obj) (v : Value), w.heap[mo]? = some (.map es' c') → (Instr.entryStore 62 (.map (some mo)) (.int .i64 c') v).run Try.prog (setBlock (setBlock w mb X) mo (.map (es'.push ⟨s.of.val, Key.zero.val, c'⟩) (c' + 1))) = .ok () (setBlock (setBlock w mb X) mo (.map (es'.push ⟨s.of.val, v, c'⟩) (c' + 1))) := by
    intro w X v hw
    have e := entryStore_run (b := mo) (t := 62) (P := Try.prog) (stamped_push hs2.1 (val := Key.zero.val) hno2) (j := es'.size) (e0 := ⟨s.of.val, Key.zero.val, c'⟩) (by simp) v (setBlock (setBlock w mb X) mo (.map (es'.push ⟨s.of.val, Key.zero.val, c'⟩) (c' + 1))) (heap_setBlock_self _ (by rw [size_setBlock]; exact lt_of_block hw))
    rw [e, setBlock_twice, push_modify]
  have hln := fun ty => len_map (b := mb) (ty := ty) Try.underlying61 es c
  rw [hlen] at hln
  have hcp := fun W hW => copied_ok (S := fun b => S0 b ∧ b < w.heap.size) s A cc W hW hpl
  have hrow : ∀ W, Mod No w W → RowAt (fun b => S0 b ∧ b < w.heap.size) W A (ptCells s.peers) := fun W hW => (hx.mono (fun b hb hs => ⟨hs, hb⟩)).keeps (hW.keeps (fun _ _ _ => id))
  have htab : ∀ (W : World) (v : Value), Mod No w W → SessV (fun b => w.heap.size ≤ b ∧ b < W.heap.size) W s v → Tab (setBlock (setBlock W mb (.map (es.push ⟨s.key.val, v, c⟩) (c + 1))) mo (.map (es'.push ⟨s.of.val, s.key.val, c'⟩) (c' + 1))) tb mb mo (fun b => S b ∨ (w.heap.size ≤ b ∧ b < W.heap.size)) (L ++ [s]) :=
    fun W v hW hv => tab_push h hb hb' s hk ho hpl hno1 hno2 W v hW hv
  have hof := fun W => of_ok s A cc W
  have HH := Lib.hid h
  have HF := Lib.hid hof
  have HC := Lib.hid hcp
  have HR := Lib.hid hrow
  have HT := Lib.hid htab
  have HB := Lib.hid (And.intro hb hb')
  have HO := Lib.hid hold
  clear h hof hold hk ho hb hb' hx1 hx2 hx3 hy1 hcp hrow htab hs1 hs2 hno1 hno2 hkl hkl' hlen hn1 hn2 hx hpl
  unfold Key.val Sess.val Sess.of at *
  go_enter Try.func7, Try.ntmps7
  go_upto_region 1 with fail
  go_cut [8] (fun s8 wx => s8 = .bool false ∧ Mod No (w.alloc (.cells #[.int .u8 s.key.proto, .int .u32 s.key.pt.ip, .int .u16 s.key.pt.port, .int .u32 s.out.ip, .int .u16 s.out.port, .int .u32 s.gen, .slice A s.peers.length cc, .int .i64 s.state, .int .u32 s.til] 35)) wx)
  case first =>
    go_region_held3 (fun w' => w'.cell? ⟨tb, 0, none⟩ = some (.map (some mb)) ∧ w'.cell? ⟨tb, 1, none⟩ = some (.map (some mo)) ∧ w'.heap[mb]? = some (.map es c) ∧ w'.heap[mo]? = some (.map es' c') ∧
      w'.cell? ⟨w.heap.size, 0, none⟩ = some (.int .u8 s.key.proto) ∧ w'.cell? ⟨w.heap.size, 1, none⟩ = some (.int .u32 s.key.pt.ip) ∧ w'.cell? ⟨w.heap.size, 2, none⟩ = some (.int .u16 s.key.pt.port) ∧
      w'.cell? ⟨w.heap.size, 3, none⟩ = some (.int .u32 s.out.ip) ∧ w'.cell? ⟨w.heap.size, 4, none⟩ = some (.int .u16 s.out.port) ∧ w'.cell? ⟨w.heap.size, 5, none⟩ = some (.int .u32 s.gen) ∧
      w'.cell? ⟨w.heap.size, 6, none⟩ = some (.slice A s.peers.length cc) ∧ w'.cell? ⟨w.heap.size, 7, none⟩ = some (.int .i64 s.state) ∧ w'.cell? ⟨w.heap.size, 8, none⟩ = some (.int .u32 s.til))
      ((refine HO.out _ ?_; repeat (first | with_reducible exact Mod.refl _ _ | refine Mod.alloc ?_ _ | refine Mod.drew ?_ | refine Mod.setCell ?_ (.inl (by first | (simp; done) | (simp; omega))) _ | with_reducible refine Mod.trans ?_ hm))) (fail)
    all_goals (go_wp2_with fail; go_meet; refine ⟨rfl, ?_⟩; repeat (first | with_reducible exact Mod.refl _ _ | refine Mod.alloc ?_ _ | refine Mod.drew ?_ | refine Mod.setCell ?_ (.inl (by first | (simp; done) | (simp; omega))) _ | with_reducible refine Mod.trans ?_ hm))
  case rest =>
  obtain ⟨rfl, hm1⟩ := hcut
  obtain ⟨w1, rfl⟩ : ∃ x : World, x = wc := ⟨_, rfl⟩
  have F1 := HO.out _ hm1
  have HM1 := Lib.hid hm1
  have z1 := hm1.size
  simp at z1
  clear hm1
  go_upto_region 2 with fail
  go_cut [10] (fun s10 wx => s10 = .bool false ∧ Mod No w1 wx)
  case first =>
    go_region_held3 (fun w' => w'.cell? ⟨tb, 0, none⟩ = some (.map (some mb)) ∧ w'.cell? ⟨tb, 1, none⟩ = some (.map (some mo)) ∧ w'.heap[mb]? = some (.map es c) ∧ w'.heap[mo]? = some (.map es' c') ∧
      w'.cell? ⟨w.heap.size, 0, none⟩ = some (.int .u8 s.key.proto) ∧ w'.cell? ⟨w.heap.size, 1, none⟩ = some (.int .u32 s.key.pt.ip) ∧ w'.cell? ⟨w.heap.size, 2, none⟩ = some (.int .u16 s.key.pt.port) ∧
      w'.cell? ⟨w.heap.size, 3, none⟩ = some (.int .u32 s.out.ip) ∧ w'.cell? ⟨w.heap.size, 4, none⟩ = some (.int .u16 s.out.port) ∧ w'.cell? ⟨w.heap.size, 5, none⟩ = some (.int .u32 s.gen) ∧
      w'.cell? ⟨w.heap.size, 6, none⟩ = some (.slice A s.peers.length cc) ∧ w'.cell? ⟨w.heap.size, 7, none⟩ = some (.int .i64 s.state) ∧ w'.cell? ⟨w.heap.size, 8, none⟩ = some (.int .u32 s.til))
      ((refine HO.out _ ?_; repeat (first | with_reducible exact HM1.out | refine Mod.alloc ?_ _ | refine Mod.drew ?_ | refine Mod.setCell ?_ (.inl (by first | (simp; done) | (simp; omega))) _ | with_reducible refine Mod.trans ?_ hm)))
      (first | (go_at_call 28; refine (HF.out _).mono ?_; rintro e w2 ⟨rfl, hm⟩; have hz := hm.size; simp at hz; try ((with_reducible have B2 := hm.obj (at10d w1 _) id); have k2 := blk_cell B2; have f2 := blk_free B2; clear B2)))
    all_goals (go_wp2_with fail; go_meet; refine ⟨rfl, ?_⟩; repeat (first | with_reducible exact Mod.refl _ _ | refine Mod.alloc ?_ _ | refine Mod.drew ?_ | refine Mod.setCell ?_ (.inl (by first | (simp; done) | (simp; omega))) _ | with_reducible refine Mod.trans ?_ hm))
  case rest =>
  obtain ⟨rfl, hm2⟩ := hcut
  have hm12 := HM1.out.trans hm2
  have F2 := HO.out _ hm12
  have hold2 : ∀ w', Mod (fun b => b = mb ∨ b = mo) wc w' → w'.cell? ⟨tb, 0, none⟩ = some (.map (some mb)) ∧ w'.cell? ⟨tb, 1, none⟩ = some (.map (some mo)) ∧
      w'.cell? ⟨w.heap.size, 0, none⟩ = some (.int .u8 s.key.proto) ∧ w'.cell? ⟨w.heap.size, 1, none⟩ = some (.int .u32 s.key.pt.ip) ∧ w'.cell? ⟨w.heap.size, 2, none⟩ = some (.int .u16 s.key.pt.port) ∧
      w'.cell? ⟨w.heap.size, 3, none⟩ = some (.int .u32 s.out.ip) ∧ w'.cell? ⟨w.heap.size, 4, none⟩ = some (.int .u16 s.out.port) ∧ w'.cell? ⟨w.heap.size, 5, none⟩ = some (.int .u32 s.gen) ∧
      w'.cell? ⟨w.heap.size, 6, none⟩ = some (.slice A s.peers.length cc) ∧ w'.cell? ⟨w.heap.size, 7, none⟩ = some (.int .i64 s.state) ∧ w'.cell? ⟨w.heap.size, 8, none⟩ = some (.int .u32 s.til) := by
    obtain ⟨f0, f1, _, _, f4, f5, f6, f7, f8, f9, f10, f11, f12⟩ := F2
    have n1 : ¬ (tb = mb ∨ tb = mo) := by have := HH.out.ne; omega
    have n2 : ¬ (w.heap.size = mb ∨ w.heap.size = mo) := by omega
    exact fun w' hm => ⟨hm.cell f0 n1, hm.cell f1 n1, hm.cell f4 n2, hm.cell f5 n2, hm.cell f6 n2, hm.cell f7 n2, hm.cell f8 n2, hm.cell f9 n2, hm.cell f10 n2, hm.cell f11 n2, hm.cell f12 n2⟩
  have HO2 := Lib.hid hold2
  have HM2 := Lib.hid hm12
  clear hm2 hm12 hold2
  go_wp2_with fail
  go_region_held3 (fun w' => w'.cell? ⟨tb, 0, none⟩ = some (.map (some mb)) ∧ w'.cell? ⟨tb, 1, none⟩ = some (.map (some mo)) ∧
      w'.cell? ⟨w.heap.size, 0, none⟩ = some (.int .u8 s.key.proto) ∧ w'.cell? ⟨w.heap.size, 1, none⟩ = some (.int .u32 s.key.pt.ip) ∧ w'.cell? ⟨w.heap.size, 2, none⟩ = some (.int .u16 s.key.pt.port) ∧
      w'.cell? ⟨w.heap.size, 3, none⟩ = some (.int .u32 s.out.ip) ∧ w'.cell? ⟨w.heap.size, 4, none⟩ = some (.int .u16 s.out.port) ∧ w'.cell? ⟨w.heap.size, 5, none⟩ = some (.int .u32 s.gen) ∧
      w'.cell? ⟨w.heap.size, 6, none⟩ = some (.slice A s.peers.length cc) ∧ w'.cell? ⟨w.heap.size, 7, none⟩ = some (.int .i64 s.state) ∧ w'.cell? ⟨w.heap.size, 8, none⟩ = some (.int .u32 s.til))
    ((refine HO2.out _ ?_; repeat (first | with_reducible exact Mod.refl _ _ | refine Mod.alloc ?_ _ | refine Mod.drew ?_ | refine Mod.setBlock ?_ (.inr (by simp)) _ | refine Mod.setCell ?_ (.inl (by first | (simp; done) | (simp; omega))) _ | with_reducible refine Mod.trans ?_ hmg2 | with_reducible refine Mod.trans ?_ hmg)))
    (first | (go_at_call 28; refine (HF.out _).mono ?_; rintro e w2 ⟨rfl, hm⟩; have hmg := Mod.mono (G := fun b => b = mb ∨ b = mo) hm (fun _ h => h.elim)) | (go_at_call 29; refine (HC.out _ (HR.out _ (((((Mod.refl _ _).alloc _).trans HM2.out).drew).trans hm))).mono ?_; rintro e w3 ⟨v, rfl, hv, hm3⟩; have hmg2 := Mod.mono (G := fun b => b = mb ∨ b = mo) hm3 (fun _ h => h.elim); have hb3 := (((((((Mod.refl No w).alloc _).trans HM2.out).drew).trans hm).trans hm3).obj HB.out.1 id); have hb4 := (((((((Mod.refl No w).alloc _).trans HM2.out).drew).trans hm).trans hm3).obj HB.out.2 id)))
  have HV := Lib.hid hv
  have HW := Lib.hid ((((((Mod.refl No w).alloc _).trans HM2.out).drew).trans hm).trans hm3)
  have z2 := ((((((Mod.refl No w).alloc _).trans HM2.out).drew).trans hm).size)
  clear hmg hmg2 hv hm hm3
  go_wp2
  go_ret
  refine ⟨rfl, ?_, _, ?_, HT.out w3 v HW.out (HV.out.mono ?_)⟩
  · exact Mod.setBlock (Mod.setBlock (HW.out.mono (fun _ h => h.elim)) (.inr (.inl rfl)) _) (.inr (.inr rfl)) _
  · intro b hb
    rw [size_setBlock, size_setBlock]
    exact hb
  · intro b hb hs
    exact ⟨Nat.le_trans z2 hs, hb⟩
end Go.Proofs.Ytimbhkbdmcbodaa
