/-
  Package cfg: a list of numbers, of pairs, writing.
-/
import Derived.Test.YtcnemhhbihhcfaaCfgO
namespace Go.Proofs.Ytcnemhhbihhcfaa
open Go.RowKit
set_option linter.unusedVariables false

def nums4 (l : List Nat) : List UInt8 := l.flatMap (be 4)
set_option maxRecDepth 100000 in
theorem list_u32_wr {w : World} {C base : Nat} {L : List UInt8} {v : Value} (h : Wr w C base L v) (hb : base ≤ w.heap.size) (hL : L.length ≤ 80000000) {T o k p : Nat} {P : Option Addr} (l : List Nat) (hk : k ≤ l.length) (hk8 : k ≤ 1000)
    (hrow : RowAt (fun b => b ≠ C ∧ v.ownBlock ≠ some b ∧ b < w.heap.size) w P (numCells l)) (hT : w.cell? ⟨T, o, none⟩ = some (.slice P l.length p)) (h1 : T ≠ C) (h2 : v.ownBlock ≠ some T) (fn : Nat) (cp : Value)
    (hen : ∀ (a : Array Value) (W : World), (callFunc fn a).run Try.prog W = .ok (.enter fn a) W)
    (he : ∀ (W : World) (L' : List UInt8) (v' : Value) (X z : Nat), Wr W C base L' v' → WMod C v w v' W → L'.length ≤ 89000000 → W.heap[X]? = some (.cells #[.int .u32 (z : Int)] 22 (0, 0)) → w.heap.size ≤ X → v'.ownBlock ≠ some X → z ∈ l →
      Calls Try.prog fn #[.pointer (some ⟨X, 0, none⟩), cp] W fun e W' => e = .returned (.tuple #[]) ∧ ∃ v'', Wr W' C base (L' ++ be 4 z) v'' ∧ WMod C v' W v'' W') :
    Calls Try.prog 72 #[.pointer (some ⟨C, 0, none⟩), .int .i64 k, .pointer (some ⟨T, o, none⟩), .func (.func fn) #[] #[cp]] w fun e w' => e = .returned (.tuple #[]) ∧ ∃ v', Wr w' C base (L ++ nums4 (l.take k)) v' ∧ WMod C v w v' w' := by
  have c1 := blk_cell h.blk 1
  simp at c1
  have hfl : ∀ j, (nums4 (l.take j)).length ≤ 4 * j := by
    intro j
    have : ∀ m : List Nat, (nums4 m).length = 4 * m.length := by
      intro m
      induction m with
      | nil => rfl
      | cons x m ih => simp only [nums4, List.flatMap_cons, List.length_append, be_length, List.length_cons] at ih ⊢; omega
    rw [this, List.length_take]
    omega
  obtain ⟨n, hn⟩ : ∃ n, n = l.length := ⟨_, rfl⟩
  rw [← hn] at hT
  have H0 := Lib.hid (And.intro h (And.intro hrow (And.intro hT (And.intro hL hfl))))
  have HE := Lib.hid he
  have HN := Lib.hid hn
  have hkn : k ≤ n := by omega
  clear h hrow hT he hb hL hfl hn hk
  go_enter Try.func72, Try.ntmps72
  go_wp2
  go_loopw [41] (fun i wr => ∃ (j : Nat) (v' : Value), i = .int .i64 j ∧ j ≤ k ∧ Wr wr C base (L ++ nums4 (l.take j)) v' ∧ WMod C v w v' wr) (fun i _ => k - (intOf i).toNat)
  case atStart => exact ⟨0, v, rfl, by omega, by simpa [nums4] using H0.out.1, .refl _ _ _⟩
  case round =>
    obtain ⟨j, v', rfl, hj, hw, hm⟩ := hrel
    have HR := Lib.hid (And.intro hw hm)
    by_cases hlt : j < k
    · obtain ⟨z, hz⟩ : ∃ z, l[j]? = some z := ⟨_, List.getElem?_eq_getElem (by have := HN.out; omega)⟩
      have hT' : wr.cell? ⟨T, o, none⟩ = some (.slice P n p) := hm.mod.cell H0.out.2.2.1 (by rintro (f | f); exact h1 f; exact h2 f)
      obtain ⟨b, o', rfl, _, hblt, hx0⟩ := nums_at (H0.out.2.1.keeps (hm.mod.keeps (fun b hb hs f => by rcases f with f | f; exact hs.1 f; exact hs.2.1 f))) hz
      have HZ := Lib.hid hz
      have p1 : (0:Int) ≤ j := by omega
      have p2 : (j:Int) < n := by omega
      have p3 : (j:Int) < k := by omega
      have hmA : Mod No wr (wr.alloc (.cells #[.int .u32 (z : Int)] 22)) := (Mod.refl _ _).alloc _
      have hc := HE.out (wr.alloc (.cells #[.int .u32 (z : Int)] 22)) _ v' wr.heap.size z (hw.ext hmA) (hm.trans ⟨(hmA.mono (fun _ f => f.elim)), fun g hg => .inl hg⟩) (by have := H0.out.2.2.2.1; have := H0.out.2.2.2.2 j; rw [List.length_append]; omega) (at10 wr _) hm.mod.size (fun e => Nat.lt_irrefl _ (hw.lt e).2) (List.mem_of_getElem? hz)
      have HC := Lib.hid hc
      clear hw hm hz hmA hc
      go_wp2_with fail
      refine HC.out.mono ?_
      rintro e w5 ⟨rfl, v5, hw5, hm5⟩
      have H5 := Lib.hid (And.intro hw5 hm5)
      clear hw5 hm5
      go_wp2
      refine ⟨⟨j + 1, v5, by go_num, by omega, ?_, HR.out.2.trans (WMod.ext ((Mod.refl _ _).alloc _) H5.out.2)⟩, by simp [intOf]; omega⟩
      obtain ⟨hlx, ex⟩ := List.getElem?_eq_some_iff.1 HZ.out
      rw [List.take_succ_eq_append_getElem hlx, ex, nums4, List.flatMap_append, ← List.append_assoc]
      simpa [nums4] using H5.out.1
    · have hk' : j = k := by omega
      subst hk'
      clear hw hm
      go_wp2
      first | go_end0 | (simp only [Exit.inBlock, Exit.then]; refine bodyPost_ret (results_none rfl _ _ _) rfl ?_) | refine bodyPost_ret (results_none rfl _ _ _) rfl ?_
      exact ⟨rfl, v', HR.out.1, HR.out.2⟩

def prs8 (l : List Pr) : List UInt8 := l.flatMap fun p => be 4 p.a ++ be 4 p.b
set_option maxRecDepth 100000 in
theorem list_pr_wr {w : World} {C base : Nat} {L : List UInt8} {v : Value} (h : Wr w C base L v) (hb : base ≤ w.heap.size) (hL : L.length ≤ 80000000) {T o k p : Nat} {P : Option Addr} (l : List Pr) (hk : k ≤ l.length) (hk8 : k ≤ 1000)
    (hrow : RowAt (fun b => b ≠ C ∧ v.ownBlock ≠ some b ∧ b < w.heap.size) w P (prCells l)) (hT : w.cell? ⟨T, o, none⟩ = some (.slice P l.length p)) (h1 : T ≠ C) (h2 : v.ownBlock ≠ some T) (fn : Nat) (cp : Value)
    (hen : ∀ (a : Array Value) (W : World), (callFunc fn a).run Try.prog W = .ok (.enter fn a) W)
    (he : ∀ (W : World) (L' : List UInt8) (v' : Value) (X : Nat) (z : Pr), Wr W C base L' v' → WMod C v w v' W → L'.length ≤ 89000000 → W.heap[X]? = some (.cells #[.int .u32 (z.a : Int), .int .u32 (z.b : Int)] 70 (0, 0)) → w.heap.size ≤ X → v'.ownBlock ≠ some X → z ∈ l →
      Calls Try.prog fn #[.pointer (some ⟨X, 0, none⟩), cp] W fun e W' => e = .returned (.tuple #[]) ∧ ∃ v'', Wr W' C base (L' ++ (be 4 z.a ++ be 4 z.b)) v'' ∧ WMod C v' W v'' W') :
    Calls Try.prog 75 #[.pointer (some ⟨C, 0, none⟩), .int .i64 k, .pointer (some ⟨T, o, none⟩), .func (.func fn) #[] #[cp]] w fun e w' => e = .returned (.tuple #[]) ∧ ∃ v', Wr w' C base (L ++ prs8 (l.take k)) v' ∧ WMod C v w v' w' := by
  have c1 := blk_cell h.blk 1
  simp at c1
  have hfl : ∀ j, (prs8 (l.take j)).length ≤ 8 * j := by
    intro j
    have : ∀ m : List Pr, (prs8 m).length = 8 * m.length := by
      intro m
      induction m with
      | nil => rfl
      | cons x m ih => simp only [prs8, List.flatMap_cons, List.length_append, be_length, List.length_cons] at ih ⊢; omega
    rw [this, List.length_take]
    omega
  obtain ⟨n, hn⟩ : ∃ n, n = l.length := ⟨_, rfl⟩
  rw [← hn] at hT
  have H0 := Lib.hid (And.intro h (And.intro hrow (And.intro hT (And.intro hL hfl))))
  have HE := Lib.hid he
  have HN := Lib.hid hn
  have hkn : k ≤ n := by omega
  clear h hrow hT he hb hL hfl hn hk
  go_enter Try.func75, Try.ntmps75
  go_wp2
  go_loopw [41] (fun i wr => ∃ (j : Nat) (v' : Value), i = .int .i64 j ∧ j ≤ k ∧ Wr wr C base (L ++ prs8 (l.take j)) v' ∧ WMod C v w v' wr) (fun i _ => k - (intOf i).toNat)
  case atStart => exact ⟨0, v, rfl, by omega, by simpa [prs8] using H0.out.1, .refl _ _ _⟩
  case round =>
    obtain ⟨j, v', rfl, hj, hw, hm⟩ := hrel
    have HR := Lib.hid (And.intro hw hm)
    by_cases hlt : j < k
    · obtain ⟨z, hz⟩ : ∃ z, l[j]? = some z := ⟨_, List.getElem?_eq_getElem (by have := HN.out; omega)⟩
      have hT' : wr.cell? ⟨T, o, none⟩ = some (.slice P n p) := hm.mod.cell H0.out.2.2.1 (by rintro (f | f); exact h1 f; exact h2 f)
      obtain ⟨b, o', rfl, _, hblt, hx0, hx1⟩ := prs_at (H0.out.2.1.keeps (hm.mod.keeps (fun b hb hs f => by rcases f with f | f; exact hs.1 f; exact hs.2.1 f))) hz
      have HZ := Lib.hid hz
      have p1 : (0:Int) ≤ j := by omega
      have p2 : (j:Int) < n := by omega
      have p3 : (j:Int) < k := by omega
      have hmA : Mod No wr (wr.alloc (.cells #[.int .u32 (z.a : Int), .int .u32 (z.b : Int)] 70)) := (Mod.refl _ _).alloc _
      have hc := HE.out (wr.alloc (.cells #[.int .u32 (z.a : Int), .int .u32 (z.b : Int)] 70)) _ v' wr.heap.size z (hw.ext hmA) (hm.trans ⟨(hmA.mono (fun _ f => f.elim)), fun g hg => .inl hg⟩) (by have := H0.out.2.2.2.1; have := H0.out.2.2.2.2 j; rw [List.length_append]; omega) (at10 wr _) hm.mod.size (fun e => Nat.lt_irrefl _ (hw.lt e).2) (List.mem_of_getElem? hz)
      have HC := Lib.hid hc
      clear hw hm hz hmA hc
      go_wp2_with fail
      refine HC.out.mono ?_
      rintro e w5 ⟨rfl, v5, hw5, hm5⟩
      have H5 := Lib.hid (And.intro hw5 hm5)
      clear hw5 hm5
      go_wp2
      refine ⟨⟨j + 1, v5, by go_num, by omega, ?_, HR.out.2.trans (WMod.ext ((Mod.refl _ _).alloc _) H5.out.2)⟩, by simp [intOf]; omega⟩
      obtain ⟨hlx, ex⟩ := List.getElem?_eq_some_iff.1 HZ.out
      rw [List.take_succ_eq_append_getElem hlx, ex, prs8, List.flatMap_append, ← List.append_assoc]
      simpa [prs8] using H5.out.1
    · have hk' : j = k := by omega
      subst hk'
      clear hw hm
      go_wp2
      first | go_end0 | (simp only [Exit.inBlock, Exit.then]; refine bodyPost_ret (results_none rfl _ _ _) rfl ?_) | refine bodyPost_ret (results_none rfl _ _ _) rfl ?_
      exact ⟨rfl, v', HR.out.1, HR.out.2⟩

end Go.Proofs.Ytcnemhhbihhcfaa
