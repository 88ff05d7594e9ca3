/-
  Package cfg, first part: the coder's block; a number written.
-/
import Derived.Test.YtcnemhhbihhcfaaRows
import Derived.Test.YtcnemhhbihhcfaaLib
import Derived.Test.YtcnemhhbihhcfaaChecked
import Derived.Deep.LoopGhost
import Derived.Deep.QuietTactic
import Derived.Deep.RegionHeld3
import Derived.Deep.AppendLies
import Derived.Deep.RegionLaw
import Derived.Laws.CopyOwn
import Derived.Laws.IdiomStrings
import Derived.Lib.SlBytesRow
import Derived.BigQuiet
import Derived.WalkSpells
import Derived.Lib.Hide
import Derived.Outline
namespace Go.Proofs.Ytcnemhhbihhcfaa
open Go.RowKit
set_option linter.unusedVariables false

/-- Bytes as cells. -/
def bcells (l : List UInt8) : List Value := l.map fun b => .int .u8 (b.toNat : Int)
theorem bcells_length (l : List UInt8) : (bcells l).length = l.length := by simp [bcells]
theorem bcells_append (l m : List UInt8) : bcells (l ++ m) = bcells l ++ bcells m := by simp [bcells]
theorem bcells_one (l : List UInt8) : ∀ u ∈ bcells l, u.oneCell' = true := by
  intro u hu
  simp only [bcells, List.mem_map] at hu
  obtain ⟨b, _, rfl⟩ := hu
  rfl
/-- A number's bytes, the highest first. -/
def be : Nat → Nat → List UInt8
  | 0, _ => []
  | k + 1, n => UInt8.ofNat (n / 256 ^ k) :: be k n
theorem be_length : ∀ k n, (be k n).length = k
  | 0, _ => rfl
  | k + 1, n => by simp [be, be_length k n]

/-- A coder that writes: its row is its own, and holds L. -/
structure Wr (w : World) (C base : Nat) (L : List UInt8) (v : Value) : Prop where
  blk : w.heap[C]? = some (.cells #[v, .bool false, .int .i64 0, .bool false] 73 (0, 0))
  own : w.ownsRow base 5 1 v L.length (bcells L)
/-- What a step of writing turns: the coder's block, its row; the row behind it is that row, or a new one. -/
structure WMod (C : Nat) (v : Value) (w : World) (v' : Value) (w' : World) : Prop where
  mod : Mod (fun b => b = C ∨ v.ownBlock = some b) w w'
  row : ∀ g, v'.ownBlock = some g → v.ownBlock = some g ∨ w.heap.size ≤ g
theorem WMod.refl (C : Nat) (v : Value) (w : World) : WMod C v w v w := ⟨Mod.refl _ _, fun _ h => .inl h⟩
theorem WMod.trans {C : Nat} {v v1 v2 : Value} {w w1 w2 : World} (h : WMod C v w v1 w1) (k : WMod C v1 w1 v2 w2) : WMod C v w v2 w2 :=
  ⟨h.mod.trans' k.mod (fun i hi hg => by
    rcases hg with hg | hg
    · exact .inl hg
    · rcases h.row i hg with h1 | h1
      · exact .inr h1
      · omega), fun g hg => by
    rcases k.row g hg with h1 | h1
    · exact h.row g h1
    · exact .inr (Nat.le_trans h.mod.size h1)⟩
theorem Wr.ne {w : World} {C base : Nat} {L : List UInt8} {v : Value} (h : Wr w C base L v) {b : Nat} {cs : Array Value} {t : TypeId} {fr : Nat × Nat} (hb : w.heap[b]? = some (.cells cs t fr)) (ht : t ≠ 5) : v.ownBlock ≠ some b := by
  intro e
  rcases h.own.2 with ⟨rfl, _⟩ | ⟨g, cap, cur, rfl, _, hg, _⟩
  · simp [Value.ownBlock] at e
  · obtain rfl : g = b := by simpa [Value.ownBlock] using e
    rw [hb] at hg
    simp at hg
    exact ht hg.2.1
theorem Wr.lt {w : World} {C base : Nat} {L : List UInt8} {v : Value} (h : Wr w C base L v) {g : Nat} (hg : v.ownBlock = some g) : base ≤ g ∧ g < w.heap.size := by
  rcases h.own.2 with ⟨rfl, _⟩ | ⟨g', cap, cur, rfl, hb, hh, _⟩
  · simp [Value.ownBlock] at hg
  · obtain rfl : g' = g := by simpa [Value.ownBlock] using hg
    exact ⟨hb, lt_of_block hh⟩
/-- What is neither the coder's block nor its row is as it was. -/
theorem WMod.obj {C : Nat} {v v' : Value} {w w' : World} (h : WMod C v w v' w') {b : Nat} {o : Obj} (hb : w.heap[b]? = some o) (h1 : b ≠ C) (h2 : v.ownBlock ≠ some b) : w'.heap[b]? = some o :=
  h.mod.obj hb (fun f => f.elim h1 h2)

/-- What a closure does that tells a number: it writes nothing that is there. -/
structure Gets (F : Nat → Prop) (fn : Nat) (cp : Value) (n : Nat) (w : World) : Prop where
  enters : ∀ (a : Array Value) (W : World), (callFunc fn a).run Try.prog W = .ok (.enter fn a) W
  says : ∀ (W : World), Mod F w W → Calls Try.prog fn #[cp] W fun e W' => e = .returned (.int .u64 n) ∧ Mod No W W'

theorem infoU8 : (Try.prog.info? 5).map (fun i => (i.zero, i.size, i.bytes)) = some (some (.int .u8 0), 1, 1) := by kernel_rfl

theorem own_mod {w w' : World} {base : Nat} {e : TypeId} {size : Nat} {v : Value} {n : Nat} {xs : List Value} {F : Nat → Prop} (h : w.ownsRow base e size v n xs) (hm : Mod F w w') (hF : ∀ k, v.ownBlock = some k → ¬ F k) : w'.ownsRow base e size v n xs := by
  refine ⟨h.1, ?_⟩
  rcases h.2 with hn | ⟨g, cap, cur, rfl, hb, hgg, rest⟩
  · exact .inl hn
  · exact .inr ⟨g, cap, cur, rfl, hb, hm.obj hgg (hF g rfl), rest⟩
/-- Bytes more on a row that the call owns: at a step of a region that draws. -/
theorem step_append_bytes {w : World} {ops : Array Oper} {o : Oper} {a : Act} {K : Act → World → Prop} {Q : Exit → Act → World → Prop} {E : Prop} (hgd : o.guard = none) (s x : Operand)
    (ho : o.op = .call { callee := .builtin .append, args := #[s, x], argTypes := #[34, 34] }) (v : Value) (l : List UInt8) (base : Nat) (hs : a.eval s = v) (hown : w.ownsRow base 5 1 v l.length (bcells l))
    (ad : Addr) (c : Nat) (m : List UInt8) (hx : a.eval x = .slice (some ad) m.length c) (hc : ∀ j u, (bcells m)[j]? = some u → w.cell? (ad.add j) = some u) (hl : l.length + m.length ≤ 100000000) (hm : 0 < m.length) (hbase : base ≤ w.heap.size)
    (h : ∀ g cap w', w'.ownsRow base 5 1 (.slice (some ⟨g, 0, none⟩) (l ++ m).length cap) (l ++ m).length (bcells (l ++ m)) → w.grownBy w' v.ownBlock → (v.ownBlock = some g ∨ g = w.heap.size) → K (a.put o.dst (.slice (some ⟨g, 0, none⟩) (l ++ m).length cap)) w') :
    if Region.wanted o (yielded ops a.tmps) = true then Oper.wp Try.prog o a w K Q else E := by
  obtain ⟨i0, hi, hz0, hz1, hz2⟩ := info_parts infoU8
  refine step_append_lies w hgd s x _ ho base 5 i0 _ 1 1 Try.underlying34 hi hz0 hz1 hz2 rfl (by decide) v l.length (bcells l) hs hown ad m.length c (bcells m) hx (by rw [bcells_length]; omega) hc (bcells_one m) hm ?_ ?_ hbase _ rfl ?_
  · unfold maxLen; omega
  · omega
  · intro g cap w' h1 h2 h3 _
    rw [← bcells_append, ← List.length_append] at h1
    have := h g cap w' h1 h2 h3
    rwa [List.length_append] at this

theorem heap_setCell_row {w : World} {g i : Nat} {cur : Array Value} {t : TypeId} (hg : w.heap[g]? = some (.cells cur t (0, 0))) (v : Value) : (w.setCell ⟨g, i, none⟩ v).heap[g]? = some (.cells (cur.setIfInBounds i v) t (0, 0)) := by
  have hlt := lt_of_block hg
  have h' : w.heap[g] = .cells cur t (0, 0) := by simpa [Array.getElem?_eq_getElem hlt] using hg
  show (w.heap.modify g _)[g]? = _
  rw [Array.getElem?_eq_getElem (by simpa using hlt), Array.getElem_modify_self, h']
  rfl
/-- The row behind an append, stored into the coder: whatever the new value looks like. -/
theorem wr_step_any {w w2 : World} {C base : Nat} {L L2 : List UInt8} {v v' : Value} {n : Nat} (h : Wr w C base L v) (hm : Mod (fun b => v.ownBlock = some b) w w2)
    (own : w2.ownsRow base 5 1 v' n (bcells L2)) (hrow : v'.ownBlock = v.ownBlock ∨ v'.ownBlock = some w.heap.size) (hn : n = L2.length) :
    Wr (w2.setCell ⟨C, 0, none⟩ v') C base L2 v' ∧ WMod C v w v' (w2.setCell ⟨C, 0, none⟩ v') := by
  subst hn
  have hne := h.ne h.blk (by decide)
  have hb := hm.obj h.blk hne
  have hlt := lt_of_block h.blk
  refine ⟨⟨by rw [heap_setCell_row hb]; simp, own_mod own (Mod.setCell (p := ⟨C, 0, none⟩) (Mod.refl (fun b => b = C) w2) (.inr rfl) _) ?_⟩, ⟨Mod.setCell (hm.mono (fun _ h => .inr h)) (.inr (.inl rfl)) _, ?_⟩⟩
  · intro k hk e
    subst e
    rcases hrow with e | e
    · exact hne (by rw [← e]; exact hk)
    · rw [hk] at e; simp at e; omega
  · intro k hk
    rcases hrow with e | e
    · exact .inl (by rw [← e]; exact hk)
    · rw [hk] at e; simp at e; exact .inr (by omega)
/-- The row behind an append, stored into the coder. -/
theorem wr_step {w w2 : World} {C base : Nat} {L L2 : List UInt8} {v : Value} {g n cap : Nat} (h : Wr w C base L v) (hm : Mod (fun b => v.ownBlock = some b) w w2)
    (own : w2.ownsRow base 5 1 (.slice (some ⟨g, 0, none⟩) L2.length cap) L2.length (bcells L2)) (hrow : v.ownBlock = some g ∨ w.heap.size ≤ g) (hn : n = L2.length) :
    Wr (w2.setCell ⟨C, 0, none⟩ (.slice (some ⟨g, 0, none⟩) n cap)) C base L2 (.slice (some ⟨g, 0, none⟩) n cap) ∧ WMod C v w (.slice (some ⟨g, 0, none⟩) n cap) (w2.setCell ⟨C, 0, none⟩ (.slice (some ⟨g, 0, none⟩) n cap)) := by
  subst hn
  have hne := h.ne h.blk (by decide)
  have hb := hm.obj h.blk hne
  have hlt := lt_of_block h.blk
  have hCg : g ≠ C := by
    rcases hrow with e | e
    · intro e'; subst e'; exact hne e
    · omega
  refine ⟨⟨by rw [heap_setCell_row hb]; simp, own_mod own (Mod.setCell (p := ⟨C, 0, none⟩) (Mod.refl (fun b => b = C) w2) (.inr rfl) _) ?_⟩, ⟨Mod.setCell (hm.mono (fun _ h => .inr h)) (.inr (.inl rfl)) _, ?_⟩⟩
  · intro k hk
    obtain rfl : g = k := by simpa [Value.ownBlock] using hk
    exact hCg
  · intro k hk
    obtain rfl : g = k := by simpa [Value.ownBlock] using hk
    exact hrow
theorem u8_shift (n j : Nat) : ((n / 2 ^ (8 * j) : Nat) : Int) % 256 = ((UInt8.ofNat (n / 256 ^ j)).toNat : Int) := by
  have : (2:Nat) ^ (8 * j) = 256 ^ j := by rw [show (256:Nat) = 2 ^ 8 from rfl, ← Nat.pow_mul]
  rw [this]
  simp

theorem num_byte (n j : Nat) (hj : j < 8) : IntKind.u8.wrap ((n:Int) / 2 ^ min (IntKind.u64.wrap (IntKind.i64.wrap (8 * (j:Int)))).toNat 64) = ((UInt8.ofNat (n / 256 ^ j)).toNat : Int) := by
  have h1 : IntKind.i64.wrap (8 * (j:Int)) = 8 * j := by simp [IntKind.wrap, IntKind.bits, IntKind.signed]; omega
  have h2 : IntKind.u64.wrap (8 * (j:Int)) = 8 * j := by simp [IntKind.wrap, IntKind.bits, IntKind.signed]; omega
  rw [h1, h2, show (8 * (j:Int)).toNat = 8 * j by omega, Nat.min_eq_left (by omega), ← u8_shift n j]
  simp [IntKind.wrap, IntKind.bits, IntKind.signed]

set_option maxRecDepth 100000 in
set_option maxHeartbeats 1600000 in
theorem number_wr {w : World} {C base : Nat} {L : List UInt8} {v : Value} (h : Wr w C base L v) (hb : base ≤ w.heap.size) (size n : Nat) (hs : size ≤ 8) (hL : L.length ≤ 90000000) (fn : Nat) (cp sv : Value)
    (hg : Gets (fun b => b = C ∨ v.ownBlock = some b ∨ w.heap.size ≤ b) fn cp n w) :
    Calls Try.prog 88 #[.pointer (some ⟨C, 0, none⟩), .int .i64 size, .func (.func fn) #[] #[cp], sv] w fun e w' => e = .returned (.tuple #[]) ∧ ∃ v', Wr w' C base (L ++ be size n) v' ∧ WMod C v w v' w' := by
  have HG := Lib.hid hg.says
  have hen := hg.enters
  have c1 := blk_cell h.blk 1
  have f1 := blk_free h.blk 1
  simp at c1
  have H0 := Lib.hid h
  have HL := Lib.hid hL
  have HB := Lib.hid hb
  clear h hg hL hb
  go_enter Try.func88, Try.ntmps88
  go_wp2
  go_loopw [8] (fun i wr => ∃ (k : Nat) (L' : List UInt8) (v' : Value), i = .int .i64 ((k : Int) - 1) ∧ k ≤ size ∧ L' ++ be k n = L ++ be size n ∧ Wr wr C base L' v' ∧ WMod C v w v' wr) (fun i _ => ((intOf i) + 1).toNat)
  case atStart => exact ⟨size, L, v, rfl, by omega, rfl, H0.out, .refl _ _ _⟩
  case round =>
    obtain ⟨k, L', v', rfl, hk, hLL, hw, hm⟩ := hrel
    cases k with
    | zero =>
      have HR := Lib.hid (And.intro hLL (And.intro hw hm))
      clear hLL hw hm
      have p1 : ¬ (0 : Int) ≤ 0 - 1 := by omega
      go_wp2
      (first | go_end0 | (simp only [Exit.inBlock, Exit.then]; refine bodyPost_ret (results_none rfl _ _ _) rfl ?_) | refine bodyPost_ret (results_none rfl _ _ _) rfl ?_)
      obtain ⟨h1, h2, h3⟩ := HR.out
      simp only [be, List.append_nil] at h1
      subst h1
      exact ⟨rfl, v', h2, h3⟩
    | succ j =>
      have HR := Lib.hid (And.intro hLL (And.intro hw hm))
      have c0 := blk_cell hw.blk 0
      have f0 := blk_free hw.blk 0
      simp at c0
      clear hLL hw hm
      have p1 : (0 : Int) ≤ j := by omega
      have hu := u8_shift n j
      have hG : ∀ W, Mod No wr W → Calls Try.prog fn #[cp] W fun e W' => e = .returned (.int .u64 n) ∧ Mod No W W' := fun W hW => HG.out W ((HR.out.2.2.mod.mono (fun i hi => by rcases hi with h | h; exact .inl h; exact .inr (.inl h))).trans (hW.mono (fun _ f => f.elim)))
      have hne := HR.out.2.1.ne HR.out.2.1.blk (by decide)
      have hold : ∀ w', Mod (fun b => v'.ownBlock = some b) wr w' → w'.frozen? ⟨C, 0, none⟩ = false := fun w' hm => blk_free (hm.obj HR.out.2.1.blk hne) 0
      have hold0 : ∀ w', Mod No wr w' → w'.cell? ⟨C, 0, none⟩ = some v' ∧ C < w'.heap.size := fun w' hm => ⟨hm.cell c0 id, Nat.lt_of_lt_of_le (lt_of_block HR.out.2.1.blk) hm.size⟩
      have hF : ∀ w', Mod No wr w' → Mod (fun b => v'.ownBlock = some b) wr w' := fun w' hm => hm.mono (fun _ f => f.elim)
      have hG2 : ∀ (w1 w2 : World) (o : Obj), Mod No wr w1 → (w1.alloc o).grownBy w2 v'.ownBlock → Mod (fun b => v'.ownBlock = some b) wr w2 := fun w1 w2 o hm hg => Mod.grown ((hF _ hm).alloc o) hg (fun k hk => .inr hk)
      have hown : ∀ w', Mod No wr w' → w'.ownsRow base 5 1 v' L'.length (bcells L') := fun w' hm => own_mod HR.out.2.1.own hm (fun _ _ f => f)
      have hnb := num_byte n j (by omega)
      have hnew : ∀ W : World, ∀ (i : Nat) (u : Value), (bcells [UInt8.ofNat (n / 256 ^ j)])[i]? = some u → (W.alloc (.cells #[.int .u8 (IntKind.u8.wrap ((n:Int) / 2 ^ min (IntKind.u64.wrap (IntKind.i64.wrap (8 * (j:Int)))).toNat 64))] 5)).cell? ((⟨W.heap.size, 0, none⟩ : Addr).add i) = some u := by
        intro W i u hu
        rw [hnb]
        exact World.news_of_block (at10 W _) i u hu
      have hle : L'.length + [UInt8.ofNat (n / 256 ^ j)].length ≤ 100000000 := by
        have h1 := congrArg List.length HR.out.1
        simp only [List.length_append, be_length] at h1
        have := HL.out
        simp
        omega
      have HN := Lib.hid hnew
      have HLE := Lib.hid hle
      clear hnb hnew hle hu
      have HW := Lib.hid hG
      have hold3 : ∀ w', Mod (fun b => v'.ownBlock = some b) wr w' → w'.cell? ⟨C, 0, none⟩ = some v' := fun w' hm => by simpa using blk_cell (hm.obj HR.out.2.1.blk hne) 0
      have HO3 := Lib.hid hold3
      have HO := Lib.hid hold
      have HF := Lib.hid hF
      have HC := Lib.hid hold0
      have HG2 := Lib.hid hG2
      have HB2 := Lib.hid hown
      clear hG hold hown hF hold0 hG2 hold3
      go_wp2_with fail
      go_region_law (first
        | (have gd := hz1; clear gd; refine step_append_bytes (by rfl) _ _ (by rfl) v' L' base (by rfl) (HB2.out _ ?_) _ _ [UInt8.ofNat (n / 256 ^ j)] (by rfl) ?_ ?_ (Nat.zero_lt_succ _) ?_ ?_; (repeat (first | with_reducible exact Mod.refl _ _ | with_reducible exact hz1 | refine Mod.alloc ?_ _ | refine Mod.drew ?_)); (exact HN.out _); (exact HLE.out); (have := hz1.size; have := HB.out; have := HR.out.2.2.mod.size; simp; omega); intro g cap w2 own2 hgrow hrow; have hz2 := HG2.out _ _ _ hz1 hgrow; have f2 := HO.out _ hz2; have b2 := HO3.out _ hz2)
        | (go_simp; guard_target = Calls _ _ _ _ _; refine (HW.out _ ?_).mono ?_; (repeat (first | with_reducible exact Mod.refl _ _ | refine Mod.alloc ?_ _ | refine Mod.drew ?_)); rintro e w1 ⟨rfl, hm1⟩; have hz1 : Mod No wr w1 := Mod.trans (by repeat (first | with_reducible exact Mod.refl _ _ | refine Mod.alloc ?_ _ | refine Mod.drew ?_)) hm1; have hz1' := HF.out _ hz1; obtain ⟨c0', hC1⟩ := HC.out _ hz1; have f1' := HO.out _ hz1'))
      all_goals
        have hst := wr_step (n := L'.length + 1) HR.out.2.1 hz2 own2 (by have := hz1.size; rcases hrow with e | e; exact .inl e; right; first | omega | (simp at e; omega)) (by simp)
        have HS := Lib.hid hst
        clear hst
        go_wp2
        refine ⟨⟨j, L' ++ [UInt8.ofNat (n / 256 ^ j)], _, rfl, by omega, ?_, HS.out.1, HR.out.2.2.trans HS.out.2⟩, by simp [intOf]⟩
        · have := HR.out.1
          simp only [be] at this
          rw [List.append_assoc]
          exact this

end Go.Proofs.Ytcnemhhbihhcfaa
