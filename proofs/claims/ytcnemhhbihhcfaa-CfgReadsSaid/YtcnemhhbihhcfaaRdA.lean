/-
  Package cfg: a list of numbers, of pairs, read.
-/
import Derived.Test.YtcnemhhbihhcfaaCfgU
namespace Go.Proofs.Ytcnemhhbihhcfaa
open Go.RowKit
set_option linter.unusedVariables false

abbrev St := Nat × Bool
/-- So many are read, till the bytes end. -/
def rmany {α : Type} (rd : St → α × St) : Nat → St → List α × St
  | 0, s => ([], s)
  | n + 1, s => if s.2 = true then ([], s) else ((rd s).1 :: (rmany rd n (rd s).2).1, (rmany rd n (rd s).2).2)
theorem rmany_short {α : Type} (rd : St → α × St) (n : Nat) {s : St} (h : s.2 = true) : rmany rd n s = ([], s) := by
  cases n with
  | zero => rfl
  | succ n => simp [rmany, h]
theorem rmany_step {α : Type} (rd : St → α × St) (n : Nat) {s : St} (h : s.2 = false) : rmany rd (n + 1) s = ((rd s).1 :: (rmany rd n (rd s).2).1, (rmany rd n (rd s).2).2) := by simp [rmany, h]
theorem rmany_le {α : Type} {rd : St → α × St} {m : Nat} (h : ∀ s, s.1 ≤ m → (rd s).2.1 ≤ m) : ∀ n s, s.1 ≤ m → (rmany rd n s).2.1 ≤ m
  | 0, s, hs => hs
  | n + 1, s, hs => by
    unfold rmany
    split
    · exact hs
    · exact rmany_le h n _ (h s hs)
theorem rmany_len {α : Type} (rd : St → α × St) : ∀ n s, (rmany rd n s).1.length ≤ n
  | 0, s => by simp [rmany]
  | n + 1, s => by
    unfold rmany
    split
    · simp
    · have := rmany_len rd n (rd s).2
      simp; omega
def rnum (B : List UInt8) (k : Nat) (s : St) : Nat × St := (beval (rtake B s k).1, (rtake B s k).2)
def rpr (B : List UInt8) (s : St) : Pr × St := (⟨(rnum B 4 s).1, (rnum B 4 (rnum B 4 s).2).1⟩, (rnum B 4 (rnum B 4 s).2).2)
theorem rnum_le (B : List UInt8) (k : Nat) (s : St) (h : s.1 ≤ B.length) : (rnum B k s).2.1 ≤ B.length := rtake_le B s k h
theorem rpr_le (B : List UInt8) (s : St) (h : s.1 ≤ B.length) : (rpr B s).2.1 ≤ B.length := rtake_le B _ 4 (rtake_le B s 4 h)
theorem rnum_lt (B : List UInt8) (k : Nat) (s : St) : (rnum B k s).1 < 256 ^ k := by
  have := beval_lt (rtake B s k).1
  rwa [rtake_length] at this


theorem infou32 : (Try.prog.info? 22).map (fun i => (i.zero, i.size, i.bytes)) = some (some (.int .u32 0), 1, 4) := by kernel_rfl
set_option maxRecDepth 100000 in
set_option maxHeartbeats 2000000 in
theorem list_u32_rd {S : Nat → Prop} {w : World} {C : Nat} {A : Option Addr} {c : Nat} {s0 : St} (B : List UInt8) (hb : w.heap[C]? = some (rdObj A B.length c s0.1 s0.2)) (hrow : RowAt S w A (bcells B)) (hat : s0.1 ≤ B.length) (hS : ¬ S C) {T o : Nat} (hST : ¬ S T)
    {cs : Array Value} {t : TypeId} (hT : w.heap[T]? = some (.cells cs t (0, 0))) (ho : o < cs.size) (h1 : T ≠ C) (n : Nat) (hn : n ≤ 1000) (fn : Nat) (cp : Value)
    (hen : ∀ (a : Array Value) (W : World), (callFunc fn a).run Try.prog W = .ok (.enter fn a) W)
    (he : ∀ (W : World) (s : St) (X : Nat), Mod (fun b => b = C ∨ b = T) w W → W.heap[C]? = some (rdObj A B.length c s.1 s.2) → s.1 ≤ B.length → RowAt S W A (bcells B) → W.heap[X]? = some (.cells #[.int .u32 0] 22 (0, 0)) → w.heap.size ≤ X →
      Calls Try.prog fn #[.pointer (some ⟨X, 0, none⟩), cp] W fun e W' => e = .returned (.tuple #[]) ∧ W'.heap[C]? = some (rdObj A B.length c (rnum B 4 s).2.1 (rnum B 4 s).2.2) ∧ W'.heap[X]? = some (.cells ([.int .u32 ((rnum B 4 s).1 : Int)]).toArray 22 (0, 0)) ∧ Mod (fun b => b = C ∨ b = X) W W') :
    Calls Try.prog 72 #[.pointer (some ⟨C, 0, none⟩), .int .i64 n, .pointer (some ⟨T, o, none⟩), .func (.func fn) #[] #[cp]] w fun e w' => e = .returned (.tuple #[]) ∧ w'.heap[C]? = some (rdObj A B.length c (rmany (rnum B 4) n s0).2.1 (rmany (rnum B 4) n s0).2.2) ∧
      (∃ v, w'.heap[T]? = some (.cells (cs.setIfInBounds o v) t (0, 0)) ∧ w'.ownsRow w.heap.size 22 1 v (rmany (rnum B 4) n s0).1.length (numCells (rmany (rnum B 4) n s0).1)) ∧ Mod (fun b => b = C ∨ b = T) w w' := by
  obtain ⟨i0, hi, hz0, hz1, hz2⟩ := info_parts infou32
  have c1 := blk_cell hb 1
  simp at c1
  have c2 := blk_cell hT o
  have f2 := blk_free hT o
  rw [Array.getElem?_eq_getElem ho] at c2
  obtain ⟨v0, hv0⟩ : ∃ v0, v0 = cs[o] := ⟨_, rfl⟩
  rw [← hv0] at c2
  have hlC := lt_of_block hb
  have hlT := lt_of_block hT
  have hrow' := hrow.mono (S' := fun b => S b ∧ b < w.heap.size) (fun b hb hs => ⟨hs, hb⟩)
  have hkp : ∀ W, Mod (fun b => b = C ∨ b = T) w W → RowAt S W A (bcells B) := fun W hW => hrow.keeps (hW.keeps (fun b _ hs f => by rcases f with f | f; exact hS (by subst f; exact hs); exact hST (by subst f; exact hs)))
  have H0 := Lib.hid (And.intro hb (And.intro hT (And.intro ho (And.intro hat hkp))))
  have HE := Lib.hid he
  clear hb hrow hrow' hat hT ho he hkp hv0
  go_enter Try.func72, Try.ntmps72
  go_wp2
  go_loopw [8] (fun i wr => ∃ (j : Nat) (acc : List Nat) (s : St) (v : Value), i = .int .i64 j ∧ j ≤ n ∧ acc.length ≤ j ∧ rmany (rnum B 4) n s0 = (acc ++ (rmany (rnum B 4) (n - j) s).1, (rmany (rnum B 4) (n - j) s).2) ∧ s.1 ≤ B.length ∧
    wr.heap[C]? = some (rdObj A B.length c s.1 s.2) ∧ wr.heap[T]? = some (.cells (cs.setIfInBounds o v) t (0, 0)) ∧ wr.ownsRow w.heap.size 22 1 v acc.length (numCells acc) ∧ Mod (fun b => b = C ∨ b = T) w wr) (fun i _ => n - (intOf i).toNat)
  case atStart =>
    refine ⟨0, [], s0, .slice none 0 0, rfl, by omega, by simp, by simp, H0.out.2.2.2.1, ?_, ?_, ⟨rfl, .inl ⟨rfl, rfl⟩⟩, ?_⟩
    · rw [heap_setCell_ne _ _ (fun e => h1 e.symm)]; exact H0.out.1
    · exact heap_setCell_row H0.out.2.1 _
    · exact Mod.setCell (Mod.refl _ _) (.inr (.inr rfl)) _
  case round =>
    obtain ⟨j, acc, s, v, rfl, hj, hacc, hsp, hs8, hbC, hbT, hown, hmw⟩ := hrel
    obtain ⟨at_, sh⟩ := s
    have d3 := blk_cell hbC 3
    simp at d3
    have dT : wr.cell? ⟨T, o, none⟩ = some v := (blk_cell hbT o).trans (by simp [H0.out.2.2.1])
    by_cases hlt : j < n
    · have p1 : (0:Int) ≤ j := by omega
      have p2 : (j:Int) < n := by omega
      cases sh
      · have hmA : Mod No wr (wr.alloc (.cells #[.int .u32 0] 22)) := (Mod.refl _ _).alloc _
        have hmwA : Mod (fun b => b = C ∨ b = T) w (wr.alloc (.cells #[.int .u32 0] 22)) := hmw.alloc _
        have hc := HE.out (wr.alloc (.cells #[.int .u32 0] 22)) (at_, false) wr.heap.size hmwA (hmA.obj hbC id) hs8 (H0.out.2.2.2.2 _ hmwA) (at10 wr _) hmw.size
        have hnx : n - j = (n - (j + 1)) + 1 := by omega
        rw [hnx, rmany_step _ _ rfl] at hsp
        have hwl := hmw.size
        obtain ⟨y, hy⟩ : ∃ y, y = (rnum B 4 (at_, false)).1 := ⟨_, rfl⟩
        obtain ⟨s2, hs2⟩ : ∃ s2, s2 = (rnum B 4 (at_, false)).2 := ⟨_, rfl⟩
        have hs28 : s2.1 ≤ B.length := by rw [hs2]; exact rnum_le B 4 (at_, false) hs8
        rw [← hy, ← hs2] at hc hsp
        have hlb : v.ownBlock ≠ some T := by
          intro e
          rcases hown.2 with ⟨rfl, _⟩ | ⟨g, cap, cur, rfl, hg, _⟩
          · simp [Value.ownBlock] at e
          · obtain rfl : g = T := by simpa [Value.ownBlock] using e
            omega
        have hlC' : v.ownBlock ≠ some C := by
          intro e
          rcases hown.2 with ⟨rfl, _⟩ | ⟨g, cap, cur, rfl, hg, _⟩
          · simp [Value.ownBlock] at e
          · obtain rfl : g = C := by simpa [Value.ownBlock] using e
            omega
        have hlX : v.ownBlock ≠ some wr.heap.size := by
          intro e
          rcases hown.2 with ⟨rfl, _⟩ | ⟨g, cap, cur, rfl, hg, hgg, _⟩
          · simp [Value.ownBlock] at e
          · obtain rfl : g = wr.heap.size := by simpa [Value.ownBlock] using e
            exact Nat.lt_irrefl _ (lt_of_block hgg)
        have HC := Lib.hid hc
        have HR := Lib.hid (And.intro hsp (And.intro hbT (And.intro hown (And.intro hmw (And.intro hs28 hbC)))))
        clear hc hsp hbC hbT hmA hmwA hs8 hy hs2 hown hs28
        go_wp2_with fail
        refine HC.out.mono ?_
        rintro e w5 ⟨rfl, k1, k2, k3⟩
        have g3 := k3.obj ((((Mod.refl No wr).alloc (.cells #[.int .u32 0] 22))).obj HR.out.2.1 id) (by rintro (f | f); exact h1 f; omega)
        have dT5 : w5.cell? ⟨T, o, none⟩ = some v := (blk_cell g3 o).trans (by simp [H0.out.2.2.1])
        have fT5 := blk_free g3 o
        have lT5 : T < w5.heap.size := lt_of_block g3
        have lX5 : wr.heap.size < w5.heap.size := lt_of_block k2
        have lC5 : C < w5.heap.size := lt_of_block k1
        have dX5 : w5.cell? ⟨wr.heap.size, 0, none⟩ = some (.int .u32 (y : Int)) := (blk_cell k2 0).trans rfl
        have hown5 : w5.ownsRow w.heap.size 22 1 v acc.length (numCells acc) := own_mod (own_mod HR.out.2.2.1 ((Mod.refl No wr).alloc (.cells #[.int .u32 0] 22)) (fun _ _ f => f)) k3 (fun k hk f => by rcases f with f | f; exact hlC' (by rw [← f]; exact hk); exact hlX (by rw [← f]; exact hk))
        have hsz5 := k3.size
        have hacc8 : acc.length ≤ 1000 := by omega
        have H5 := Lib.hid (And.intro k1 (And.intro k3 (And.intro g3 (And.intro hown5 (And.intro hsz5 hacc8)))))
        clear k1 k2 k3 g3 hown5 hsz5 hacc8 d3 dT
        go_wp2_with fail
        go_region_law (first
          | (refine step_append_lies _ (by rfl) _ _ 26 (by rfl) w.heap.size 22 i0 _ 1 4 Try.underlying26 hi hz0 hz1 hz2 (by rfl) (by decide) v acc.length (numCells acc) (by rfl) ?_ _ _ _ ((fun (n : Nat) => [Value.int .u32 (n : Int)]) y) (by rfl) (by rfl) ?_ (by simp [Value.oneCell']) (by decide) ?_ ?_ ?_ _ (by rfl) ?_;
             (exact own_mod H5.out.2.2.2.1 (by repeat (first | with_reducible exact Mod.refl _ _ | refine Mod.alloc ?_ _ | refine Mod.drew ?_)) (fun _ _ f => f));
             (exact World.news_of_block (at10 _ _));
             (have := H5.out.2.2.2.2.2; unfold maxLen; omega);
             (have := H5.out.2.2.2.2.2; omega);
             (have := H5.out.2.2.2.2.1; simp at this; simp; omega);
             intro g cap w6 own6 gr6 hat6 hlt6;
             have m6 : Mod (fun b => v.ownBlock = some b) w5 w6 := Mod.grown (((Mod.refl _ w5)).mono (fun _ f => f) |> (fun h => by repeat (first | with_reducible exact h | refine Mod.alloc ?_ _ | refine Mod.drew ?_))) gr6 (fun k hk => .inr hk);
             have fT6 := blk_free (m6.obj H5.out.2.2.1 hlb) o; have dT6 : w6.cell? ⟨T, o, none⟩ = some v := (blk_cell (m6.obj H5.out.2.2.1 hlb) o).trans (by simp [H0.out.2.2.1]); have H6 := Lib.hid (And.intro own6 (And.intro m6 hat6)); clear own6 m6 hat6 gr6))
        all_goals
          go_wp2
          have hT6 := H6.out.2.1.obj H5.out.2.2.1 hlb
          refine ⟨⟨j + 1, acc ++ [y], s2, .slice (some ⟨g, 0, none⟩) (acc.length + 1) cap, by go_num, by omega, ?_, ?_, HR.out.2.2.2.2.1, ?_, ?_, ?_, ?_⟩, by simp [intOf]; omega⟩
          · simp; omega
          · rw [HR.out.1]; simp
          · rw [heap_setCell_ne _ _ (fun e => h1 e.symm)]; exact H6.out.2.1.obj H5.out.1 hlC'
          · rw [heap_setCell_row hT6]; simp
          · refine own_mod (F := fun b => b = T) ?_ (Mod.setCell (p := ⟨T, o, none⟩) (Mod.refl (fun b => b = T) w6) (.inr rfl) _) (fun k hk f => ?_)
            · have := H6.out.1
              simpa [numCells] using this
            · subst f
              obtain rfl : g = k := by simpa [Value.ownBlock] using hk
              rcases H6.out.2.2 with f | f
              · exact hlb f
              · have := H5.out.2.2.2.2.1; simp at f this; omega
          · refine Mod.setCell ?_ (.inr (.inr rfl)) _
            have m5 : Mod (fun b => b = C ∨ b = T) w w5 := (HR.out.2.2.2.1.alloc (.cells #[.int .u32 0] 22)).trans' H5.out.2.1 (fun i hi f => by rcases f with f | f; exact .inl f; omega)
            refine m5.trans' H6.out.2.1 (fun i hi f => ?_)
            rcases HR.out.2.2.1.2 with ⟨rfl, _⟩ | ⟨g', cap', cur', rfl, hg', _⟩
            · simp [Value.ownBlock] at f
            · obtain rfl : g' = i := by simpa [Value.ownBlock] using f
              omega
      · have HR := Lib.hid (And.intro hsp (And.intro hbC (And.intro hbT (And.intro hown hmw))))
        clear hsp hbC hbT hown hmw
        go_wp2
        first | go_end0 | (simp only [Exit.inBlock, Exit.then]; refine bodyPost_ret (results_none rfl _ _ _) rfl ?_) | refine bodyPost_ret (results_none rfl _ _ _) rfl ?_
        obtain ⟨h5, h6, h7, h8, h9⟩ := HR.out
        rw [rmany_short (rnum B 4) (n - j) (s := (at_, true)) rfl] at h5
        rw [h5]
        exact ⟨rfl, h6, ⟨v, h7, by simpa using h8⟩, h9⟩
    · obtain rfl : n = j := by omega
      have HR := Lib.hid (And.intro hsp (And.intro hbC (And.intro hbT (And.intro hown hmw))))
      clear hsp hbC hbT hown hmw
      go_wp2
      first | go_end0 | (simp only [Exit.inBlock, Exit.then]; refine bodyPost_ret (results_none rfl _ _ _) rfl ?_) | refine bodyPost_ret (results_none rfl _ _ _) rfl ?_
      obtain ⟨h5, h6, h7, h8, h9⟩ := HR.out
      rw [Nat.sub_self] at h5
      rw [h5]
      exact ⟨rfl, h6, ⟨v, h7, by simpa [rmany] using h8⟩, h9⟩

theorem infopr : (Try.prog.info? 70).map (fun i => (i.zero, i.size, i.bytes)) = some (some (.agg #[.int .u32 0, .int .u32 0]), 2, 8) := by kernel_rfl
set_option maxRecDepth 100000 in
set_option maxHeartbeats 2000000 in
theorem list_pr_rd {S : Nat → Prop} {w : World} {C : Nat} {A : Option Addr} {c : Nat} {s0 : St} (B : List UInt8) (hb : w.heap[C]? = some (rdObj A B.length c s0.1 s0.2)) (hrow : RowAt S w A (bcells B)) (hat : s0.1 ≤ B.length) (hS : ¬ S C) {T o : Nat} (hST : ¬ S T)
    {cs : Array Value} {t : TypeId} (hT : w.heap[T]? = some (.cells cs t (0, 0))) (ho : o < cs.size) (h1 : T ≠ C) (n : Nat) (hn : n ≤ 1000) (fn : Nat) (cp : Value)
    (hen : ∀ (a : Array Value) (W : World), (callFunc fn a).run Try.prog W = .ok (.enter fn a) W)
    (he : ∀ (W : World) (s : St) (X : Nat), Mod (fun b => b = C ∨ b = T) w W → W.heap[C]? = some (rdObj A B.length c s.1 s.2) → s.1 ≤ B.length → RowAt S W A (bcells B) → W.heap[X]? = some (.cells #[.int .u32 0, .int .u32 0] 70 (0, 0)) → w.heap.size ≤ X →
      Calls Try.prog fn #[.pointer (some ⟨X, 0, none⟩), cp] W fun e W' => e = .returned (.tuple #[]) ∧ W'.heap[C]? = some (rdObj A B.length c (rpr B s).2.1 (rpr B s).2.2) ∧ W'.heap[X]? = some (.cells ((rpr B s).1.cells).toArray 70 (0, 0)) ∧ Mod (fun b => b = C ∨ b = X) W W') :
    Calls Try.prog 75 #[.pointer (some ⟨C, 0, none⟩), .int .i64 n, .pointer (some ⟨T, o, none⟩), .func (.func fn) #[] #[cp]] w fun e w' => e = .returned (.tuple #[]) ∧ w'.heap[C]? = some (rdObj A B.length c (rmany (rpr B) n s0).2.1 (rmany (rpr B) n s0).2.2) ∧
      (∃ v, w'.heap[T]? = some (.cells (cs.setIfInBounds o v) t (0, 0)) ∧ w'.ownsRow w.heap.size 70 2 v (rmany (rpr B) n s0).1.length (prCells (rmany (rpr B) n s0).1)) ∧ Mod (fun b => b = C ∨ b = T) w w' := by
  obtain ⟨i0, hi, hz0, hz1, hz2⟩ := info_parts infopr
  have c1 := blk_cell hb 1
  simp at c1
  have c2 := blk_cell hT o
  have f2 := blk_free hT o
  rw [Array.getElem?_eq_getElem ho] at c2
  obtain ⟨v0, hv0⟩ : ∃ v0, v0 = cs[o] := ⟨_, rfl⟩
  rw [← hv0] at c2
  have hlC := lt_of_block hb
  have hlT := lt_of_block hT
  have hrow' := hrow.mono (S' := fun b => S b ∧ b < w.heap.size) (fun b hb hs => ⟨hs, hb⟩)
  have hkp : ∀ W, Mod (fun b => b = C ∨ b = T) w W → RowAt S W A (bcells B) := fun W hW => hrow.keeps (hW.keeps (fun b _ hs f => by rcases f with f | f; exact hS (by subst f; exact hs); exact hST (by subst f; exact hs)))
  have H0 := Lib.hid (And.intro hb (And.intro hT (And.intro ho (And.intro hat hkp))))
  have HE := Lib.hid he
  clear hb hrow hrow' hat hT ho he hkp hv0
  go_enter Try.func75, Try.ntmps75
  go_wp2
  go_loopw [8] (fun i wr => ∃ (j : Nat) (acc : List Pr) (s : St) (v : Value), i = .int .i64 j ∧ j ≤ n ∧ acc.length ≤ j ∧ rmany (rpr B) n s0 = (acc ++ (rmany (rpr B) (n - j) s).1, (rmany (rpr B) (n - j) s).2) ∧ s.1 ≤ B.length ∧
    wr.heap[C]? = some (rdObj A B.length c s.1 s.2) ∧ wr.heap[T]? = some (.cells (cs.setIfInBounds o v) t (0, 0)) ∧ wr.ownsRow w.heap.size 70 2 v acc.length (prCells acc) ∧ Mod (fun b => b = C ∨ b = T) w wr) (fun i _ => n - (intOf i).toNat)
  case atStart =>
    refine ⟨0, [], s0, .slice none 0 0, rfl, by omega, by simp, by simp, H0.out.2.2.2.1, ?_, ?_, ⟨rfl, .inl ⟨rfl, rfl⟩⟩, ?_⟩
    · rw [heap_setCell_ne _ _ (fun e => h1 e.symm)]; exact H0.out.1
    · exact heap_setCell_row H0.out.2.1 _
    · exact Mod.setCell (Mod.refl _ _) (.inr (.inr rfl)) _
  case round =>
    obtain ⟨j, acc, s, v, rfl, hj, hacc, hsp, hs8, hbC, hbT, hown, hmw⟩ := hrel
    obtain ⟨at_, sh⟩ := s
    have d3 := blk_cell hbC 3
    simp at d3
    have dT : wr.cell? ⟨T, o, none⟩ = some v := (blk_cell hbT o).trans (by simp [H0.out.2.2.1])
    by_cases hlt : j < n
    · have p1 : (0:Int) ≤ j := by omega
      have p2 : (j:Int) < n := by omega
      cases sh
      · have hmA : Mod No wr (wr.alloc (.cells #[.int .u32 0, .int .u32 0] 70)) := (Mod.refl _ _).alloc _
        have hmwA : Mod (fun b => b = C ∨ b = T) w (wr.alloc (.cells #[.int .u32 0, .int .u32 0] 70)) := hmw.alloc _
        have hc := HE.out (wr.alloc (.cells #[.int .u32 0, .int .u32 0] 70)) (at_, false) wr.heap.size hmwA (hmA.obj hbC id) hs8 (H0.out.2.2.2.2 _ hmwA) (at10 wr _) hmw.size
        have hnx : n - j = (n - (j + 1)) + 1 := by omega
        rw [hnx, rmany_step _ _ rfl] at hsp
        have hwl := hmw.size
        obtain ⟨y, hy⟩ : ∃ y, y = (rpr B (at_, false)).1 := ⟨_, rfl⟩
        obtain ⟨s2, hs2⟩ : ∃ s2, s2 = (rpr B (at_, false)).2 := ⟨_, rfl⟩
        have hs28 : s2.1 ≤ B.length := by rw [hs2]; exact rpr_le B (at_, false) hs8
        rw [← hy, ← hs2] at hc hsp
        have hlb : v.ownBlock ≠ some T := by
          intro e
          rcases hown.2 with ⟨rfl, _⟩ | ⟨g, cap, cur, rfl, hg, _⟩
          · simp [Value.ownBlock] at e
          · obtain rfl : g = T := by simpa [Value.ownBlock] using e
            omega
        have hlC' : v.ownBlock ≠ some C := by
          intro e
          rcases hown.2 with ⟨rfl, _⟩ | ⟨g, cap, cur, rfl, hg, _⟩
          · simp [Value.ownBlock] at e
          · obtain rfl : g = C := by simpa [Value.ownBlock] using e
            omega
        have hlX : v.ownBlock ≠ some wr.heap.size := by
          intro e
          rcases hown.2 with ⟨rfl, _⟩ | ⟨g, cap, cur, rfl, hg, hgg, _⟩
          · simp [Value.ownBlock] at e
          · obtain rfl : g = wr.heap.size := by simpa [Value.ownBlock] using e
            exact Nat.lt_irrefl _ (lt_of_block hgg)
        have HC := Lib.hid hc
        have HR := Lib.hid (And.intro hsp (And.intro hbT (And.intro hown (And.intro hmw (And.intro hs28 hbC)))))
        clear hc hsp hbC hbT hmA hmwA hs8 hy hs2 hown hs28
        go_wp2_with fail
        refine HC.out.mono ?_
        rintro e w5 ⟨rfl, k1, k2, k3⟩
        have g3 := k3.obj ((((Mod.refl No wr).alloc (.cells #[.int .u32 0, .int .u32 0] 70))).obj HR.out.2.1 id) (by rintro (f | f); exact h1 f; omega)
        have dT5 : w5.cell? ⟨T, o, none⟩ = some v := (blk_cell g3 o).trans (by simp [H0.out.2.2.1])
        have fT5 := blk_free g3 o
        have lT5 : T < w5.heap.size := lt_of_block g3
        have lX5 : wr.heap.size < w5.heap.size := lt_of_block k2
        have lC5 : C < w5.heap.size := lt_of_block k1
        have dX5 : w5.cell? ⟨wr.heap.size, 0, none⟩ = some (.int .u32 (y.a : Int)) := (blk_cell k2 0).trans rfl
        have dX6 : w5.cell? ⟨wr.heap.size, 1, none⟩ = some (.int .u32 (y.b : Int)) := (blk_cell k2 1).trans rfl
        have hown5 : w5.ownsRow w.heap.size 70 2 v acc.length (prCells acc) := own_mod (own_mod HR.out.2.2.1 ((Mod.refl No wr).alloc (.cells #[.int .u32 0, .int .u32 0] 70)) (fun _ _ f => f)) k3 (fun k hk f => by rcases f with f | f; exact hlC' (by rw [← f]; exact hk); exact hlX (by rw [← f]; exact hk))
        have hsz5 := k3.size
        have hacc8 : acc.length ≤ 1000 := by omega
        have H5 := Lib.hid (And.intro k1 (And.intro k3 (And.intro g3 (And.intro hown5 (And.intro hsz5 hacc8)))))
        clear k1 k2 k3 g3 hown5 hsz5 hacc8 d3 dT
        go_wp2_with fail
        go_region_law (first
          | (refine step_append_lies _ (by rfl) _ _ 28 (by rfl) w.heap.size 70 i0 _ 2 8 Try.underlying28 hi hz0 hz1 hz2 (by rfl) (by decide) v acc.length (prCells acc) (by rfl) ?_ _ _ _ (Pr.cells y) (by rfl) (by rfl) ?_ (by simp [Pr.cells, Value.oneCell']) (by decide) ?_ ?_ ?_ _ (by rfl) ?_;
             (exact own_mod H5.out.2.2.2.1 (by repeat (first | with_reducible exact Mod.refl _ _ | refine Mod.alloc ?_ _ | refine Mod.drew ?_)) (fun _ _ f => f));
             (exact World.news_of_block (at10 _ _));
             (have := H5.out.2.2.2.2.2; unfold maxLen; omega);
             (have := H5.out.2.2.2.2.2; omega);
             (have := H5.out.2.2.2.2.1; simp at this; simp; omega);
             intro g cap w6 own6 gr6 hat6 hlt6;
             have m6 : Mod (fun b => v.ownBlock = some b) w5 w6 := Mod.grown (((Mod.refl _ w5)).mono (fun _ f => f) |> (fun h => by repeat (first | with_reducible exact h | refine Mod.alloc ?_ _ | refine Mod.drew ?_))) gr6 (fun k hk => .inr hk);
             have fT6 := blk_free (m6.obj H5.out.2.2.1 hlb) o; have dT6 : w6.cell? ⟨T, o, none⟩ = some v := (blk_cell (m6.obj H5.out.2.2.1 hlb) o).trans (by simp [H0.out.2.2.1]); have H6 := Lib.hid (And.intro own6 (And.intro m6 hat6)); clear own6 m6 hat6 gr6))
        all_goals
          go_wp2
          have hT6 := H6.out.2.1.obj H5.out.2.2.1 hlb
          refine ⟨⟨j + 1, acc ++ [y], s2, .slice (some ⟨g, 0, none⟩) (acc.length + 1) cap, by go_num, by omega, ?_, ?_, HR.out.2.2.2.2.1, ?_, ?_, ?_, ?_⟩, by simp [intOf]; omega⟩
          · simp; omega
          · rw [HR.out.1]; simp
          · rw [heap_setCell_ne _ _ (fun e => h1 e.symm)]; exact H6.out.2.1.obj H5.out.1 hlC'
          · rw [heap_setCell_row hT6]; simp
          · refine own_mod (F := fun b => b = T) ?_ (Mod.setCell (p := ⟨T, o, none⟩) (Mod.refl (fun b => b = T) w6) (.inr rfl) _) (fun k hk f => ?_)
            · have := H6.out.1
              simpa [prCells] using this
            · subst f
              obtain rfl : g = k := by simpa [Value.ownBlock] using hk
              rcases H6.out.2.2 with f | f
              · exact hlb f
              · have := H5.out.2.2.2.2.1; simp at f this; omega
          · refine Mod.setCell ?_ (.inr (.inr rfl)) _
            have m5 : Mod (fun b => b = C ∨ b = T) w w5 := (HR.out.2.2.2.1.alloc (.cells #[.int .u32 0, .int .u32 0] 70)).trans' H5.out.2.1 (fun i hi f => by rcases f with f | f; exact .inl f; omega)
            refine m5.trans' H6.out.2.1 (fun i hi f => ?_)
            rcases HR.out.2.2.1.2 with ⟨rfl, _⟩ | ⟨g', cap', cur', rfl, hg', _⟩
            · simp [Value.ownBlock] at f
            · obtain rfl : g' = i := by simpa [Value.ownBlock] using f
              omega
      · have HR := Lib.hid (And.intro hsp (And.intro hbC (And.intro hbT (And.intro hown hmw))))
        clear hsp hbC hbT hown hmw
        go_wp2
        first | go_end0 | (simp only [Exit.inBlock, Exit.then]; refine bodyPost_ret (results_none rfl _ _ _) rfl ?_) | refine bodyPost_ret (results_none rfl _ _ _) rfl ?_
        obtain ⟨h5, h6, h7, h8, h9⟩ := HR.out
        rw [rmany_short (rpr B) (n - j) (s := (at_, true)) rfl] at h5
        rw [h5]
        exact ⟨rfl, h6, ⟨v, h7, by simpa using h8⟩, h9⟩
    · obtain rfl : n = j := by omega
      have HR := Lib.hid (And.intro hsp (And.intro hbC (And.intro hbT (And.intro hown hmw))))
      clear hsp hbC hbT hown hmw
      go_wp2
      first | go_end0 | (simp only [Exit.inBlock, Exit.then]; refine bodyPost_ret (results_none rfl _ _ _) rfl ?_) | refine bodyPost_ret (results_none rfl _ _ _) rfl ?_
      obtain ⟨h5, h6, h7, h8, h9⟩ := HR.out
      rw [Nat.sub_self] at h5
      rw [h5]
      exact ⟨rfl, h6, ⟨v, h7, by simpa [rmany] using h8⟩, h9⟩

end Go.Proofs.Ytcnemhhbihhcfaa
