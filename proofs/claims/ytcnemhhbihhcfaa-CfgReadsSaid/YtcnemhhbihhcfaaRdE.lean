/-
  Package cfg: a list of tenants read.
-/
import Derived.Test.YtcnemhhbihhcfaaRdD
namespace Go.Proofs.Ytcnemhhbihhcfaa
open Go.RowKit
set_option linter.unusedVariables false

theorem own_ne {w : World} {base : Nat} {e : TypeId} {size : Nat} {v : Value} {n : Nat} {xs : List Value} (h : w.ownsRow base e size v n xs) {b : Nat} (hb : b < base ∨ w.heap.size ≤ b) : v.ownBlock ≠ some b := by
  intro f
  rcases h.2 with ⟨rfl, _⟩ | ⟨g, cap, cur, rfl, hg, hgg, _⟩
  · simp [Value.ownBlock] at f
  · obtain rfl : g = b := by simpa [Value.ownBlock] using f
    have := lt_of_block hgg
    omega
def tenSlice (v : Value) : Sem Value := Instr.buildSlice 46 1 #[(0, v)]
@[go_sem ↓] theorem slice_op_fold (ρ : Operand → Value) (x : Operand) (dst : Option Tmp) (ty : TypeId) (pos : String) (after : Array Edge) (g : Option (Nat × Bool)) :
    execOp ρ { dst := dst, op := .buildSlice 46 1 #[(0, x)], type := ty, pos := pos, after := after, guard := g } = (do pure (Next.value (← tenSlice (ρ x))) : Sem Next) := by
  show (do pure (Next.value (← Instr.buildSlice 46 1 (#[(0, x)].map fun (i, x) => (i, ρ x)))) : Sem Next) = _
  have hm : (#[((0 : Nat), x)].map fun (i, x) => (i, ρ x)) = #[(0, ρ x)] := by simp
  rw [hm]
  rfl
/-- What becomes of a list of tenants that is read: its values, each with rows of its own. -/
structure TVs (w : World) (base : Nat) (v : Value) (l : List TV) : Prop where
  own : w.ownsRow base 30 33 v l.length (tvCells l)
  rows : ∀ x ∈ l, x.Rows (fun b => base ≤ b ∧ v.ownBlock ≠ some b) w

set_option maxRecDepth 100000 in
set_option maxHeartbeats 2000000 in
theorem list_ten_rd {S : Nat → Prop} {w : World} {C : Nat} {A : Option Addr} {c : Nat} {s0 : St} (B : List UInt8) (hb : w.heap[C]? = some (rdObj A B.length c s0.1 s0.2)) (hrow : RowAt S w A (bcells B)) (hat : s0.1 ≤ B.length) (hc8 : B.length ≤ c) (hB : B.length ≤ 100000000) (hS : ¬ S C) {T o : Nat} (hST : ¬ S T) (hSl : ∀ b, S b → b < w.heap.size)
    {cs : Array Value} {t : TypeId} (hT : w.heap[T]? = some (.cells cs t (0, 0))) (ho : o < cs.size) (h1 : T ≠ C) (n : Nat) (hn : n ≤ 1000) :
    Calls Try.prog 85 #[.pointer (some ⟨C, 0, none⟩), .int .i64 n, .pointer (some ⟨T, o, none⟩), .func (.func 35) #[.pointer (some ⟨C, 0, none⟩)] #[]] w fun e w' => e = .returned (.tuple #[]) ∧ w'.heap[C]? = some (rdObj A B.length c (rmany (rten B) n s0).2.1 (rmany (rten B) n s0).2.2) ∧
      (∃ (v : Value) (l : List TV), w'.heap[T]? = some (.cells (cs.setIfInBounds o v) t (0, 0)) ∧ l.map (·.t) = (rmany (rten B) n s0).1 ∧ TVs w' w.heap.size v l) ∧ Mod (fun b => b = C ∨ b = T) w w' := by
  obtain ⟨i0, hi, hz0, hz1, hz2⟩ := info_parts infoTen
  have c1 := blk_cell hb 1
  simp at c1
  have c2 := blk_cell hT o
  have f2 := blk_free hT o
  rw [Array.getElem?_eq_getElem ho] at c2
  obtain ⟨v0, hv0⟩ : ∃ v0, v0 = cs[o] := ⟨_, rfl⟩
  rw [← hv0] at c2
  have hlC := lt_of_block hb
  have hlT := lt_of_block hT
  have hkp : ∀ W, Mod (fun b => b = C ∨ b = T) w W → RowAt S W A (bcells B) := fun W hW => hrow.keeps (hW.keeps (fun b _ hs f => by rcases f with f | f; exact hS (by subst f; exact hs); exact hST (by subst f; exact hs)))
  have H0 := Lib.hid (And.intro hb (And.intro hT (And.intro ho (And.intro hat (And.intro hkp (And.intro hSl (And.intro hc8 hB)))))))
  have hal := tenAlloc_run
  have HZ0 := Lib.hid hz0
  clear hb hrow hat hT ho hkp hv0 hSl hc8 hB hz0
  go_enter Try.func85, Try.ntmps85
  go_wp2
  go_loopw [8] (fun i wr => ∃ (j : Nat) (acc : List TV) (s : St) (v : Value), i = .int .i64 j ∧ j ≤ n ∧ acc.length ≤ j ∧ rmany (rten B) n s0 = (acc.map (·.t) ++ (rmany (rten B) (n - j) s).1, (rmany (rten B) (n - j) s).2) ∧ s.1 ≤ B.length ∧
    wr.heap[C]? = some (rdObj A B.length c s.1 s.2) ∧ wr.heap[T]? = some (.cells (cs.setIfInBounds o v) t (0, 0)) ∧ TVs wr w.heap.size v acc ∧ Mod (fun b => b = C ∨ b = T) w wr) (fun i _ => n - (intOf i).toNat)
  case atStart =>
    refine ⟨0, [], s0, .slice none 0 0, rfl, by omega, by simp, by simp, H0.out.2.2.2.1, ?_, ?_, ⟨⟨rfl, .inl ⟨rfl, rfl⟩⟩, by simp⟩, ?_⟩
    · rw [heap_setCell_ne _ _ (fun e => h1 e.symm)]; exact H0.out.1
    · exact heap_setCell_row H0.out.2.1 _
    · exact Mod.setCell (Mod.refl _ _) (.inr (.inr rfl)) _
  case round =>
    obtain ⟨j, acc, s, v, rfl, hj, hacc, hsp, hs8, hbC, hbT, htv, hmw⟩ := hrel
    obtain ⟨at_, sh⟩ := s
    have d3 := blk_cell hbC 3
    simp at d3
    have dT : wr.cell? ⟨T, o, none⟩ = some v := (blk_cell hbT o).trans (by simp [H0.out.2.2.1])
    by_cases hlt : j < n
    · have p1 : (0:Int) ≤ j := by omega
      have p2 : (j:Int) < n := by omega
      cases sh
      · have hmA : Mod No wr (wr.alloc (.cells zTen 30)) := (Mod.refl _ _).alloc _
        have hmwA : Mod (fun b => b = C ∨ b = T) w (wr.alloc (.cells zTen 30)) := hmw.alloc _
        have hwl := hmw.size
        have hc := tenant_rd (w := wr.alloc (.cells zTen 30)) (s0 := (at_, false)) B (hmA.obj hbC id) (H0.out.2.2.2.2.1 _ hmwA) hs8 H0.out.2.2.2.2.2.2.1 H0.out.2.2.2.2.2.2.2 hS (T := wr.heap.size) (o := 0) (fun f => by have := H0.out.2.2.2.2.2.1 _ f; omega) (fun b f => by have := H0.out.2.2.2.2.2.1 _ f; simp; omega)
          (pre := []) (post := []) (tt := 30) (by simpa using at10 wr (.cells zTen 30)) rfl (by omega)
        have hnx : n - j = (n - (j + 1)) + 1 := by omega
        rw [hnx, rmany_step _ _ rfl] at hsp
        obtain ⟨y, hy⟩ : ∃ y, y = (rten B (at_, false)).1 := ⟨_, rfl⟩
        obtain ⟨s2, hs2⟩ : ∃ s2, s2 = (rten B (at_, false)).2 := ⟨_, rfl⟩
        rw [← hy, ← hs2] at hc hsp
        have hown := htv.own
        have hlb : v.ownBlock ≠ some T := own_ne hown (.inl hlT)
        have hlC' : v.ownBlock ≠ some C := own_ne hown (.inl hlC)
        have hlX : v.ownBlock ≠ some wr.heap.size := own_ne hown (.inr (Nat.le_refl _))
        have HC := Lib.hid hc
        have HR := Lib.hid (And.intro hsp (And.intro hbT (And.intro htv (And.intro hmw hbC))))
        clear hc hsp hbC hbT hmA hmwA hs8 hy hs2 hown htv
        go_wp2_with fail
        refine HC.out.mono ?_
        rintro e w5 ⟨rfl, x, k0, kl, k1, k2, kr, k3⟩
        simp only [List.nil_append, List.append_nil] at k2
        have g3 := k3.obj ((((Mod.refl No wr).alloc (.cells zTen 30))).obj HR.out.2.1 id) (by rintro (f | f); exact h1 f; omega)
        have dT5 : w5.cell? ⟨T, o, none⟩ = some v := (blk_cell g3 o).trans (by simp [H0.out.2.2.1])
        have fT5 := blk_free g3 o
        have lT5 : T < w5.heap.size := lt_of_block g3
        have lX5 : wr.heap.size < w5.heap.size := lt_of_block k2
        have lC5 : C < w5.heap.size := lt_of_block k1
        obtain ⟨TA, hTA⟩ : ∃ TA, TA = x.cells.toArray := ⟨_, rfl⟩
        have hbs : ∀ W : World, (tenSlice (.agg TA)).run Try.prog W = .ok (.slice (some ⟨W.heap.size, 0, none⟩) 1 1) (W.alloc (.cells TA 30)) := ten_build TA (by rw [hTA]; rfl)
        have hld : (tenLoad (.pointer (some ⟨wr.heap.size, 0, none⟩))).run Try.prog w5.drew = .ok (.agg TA) w5.drew := tenLoad_run (by rw [hTA]; exact k2) (by rw [hTA]; rfl)
        have hone := TV.one kr
        have htl : x.cells = TA.toList := by rw [hTA]
        rw [← hTA] at hone
        have hown5 : w5.ownsRow w.heap.size 30 33 v acc.length (tvCells acc) := own_mod (own_mod HR.out.2.2.1.own ((Mod.refl No wr).alloc (.cells zTen 30)) (fun _ _ f => f)) k3 (fun k hk f => by rcases f with f | f; exact hlC' (by rw [← f]; exact hk); exact hlX (by rw [← f]; exact hk))
        have hsz5 := k3.size
        have H5 := Lib.hid (And.intro k1 (And.intro k3 (And.intro g3 (And.intro hown5 (And.intro hsz5 (And.intro k0 (And.intro kl kr)))))))
        have HT := Lib.hid (And.intro htl hone)
        clear k1 k2 k3 g3 hown5 hsz5 d3 dT k0 kl kr htl hone hTA
        go_wp2_with fail
        go_region_law (first
          | (refine step_append_lies _ (by rfl) _ _ 46 (by rfl) w.heap.size 30 i0 _ 33 160 Try.underlying46 hi HZ0.out hz1 hz2 (by rfl) (by decide) v acc.length (tvCells acc) (by rfl) ?_ _ _ _ TA.toList (by rfl) (by rw [← HT.out.1]; rfl) ?_ ?_ (by decide) ?_ ?_ ?_ _ (by rfl) ?_;
             (exact own_mod H5.out.2.2.2.1 (by repeat (first | with_reducible exact Mod.refl _ _ | refine Mod.alloc ?_ _ | refine Mod.drew ?_)) (fun _ _ f => f));
             (exact World.news_of_block (at10 _ _));
             (intro u hu; exact (Array.all_eq_true_iff_forall_mem.1 HT.out.2) u (by simpa using hu));
             (unfold maxLen; omega);
             omega;
             (have := H5.out.2.2.2.2.1; simp at this; simp; omega);
             intro g cap w6 own6 gr6 hat6 hlt6;
             have m6 : Mod (fun b => v.ownBlock = some b) w5 w6 := Mod.grown (((Mod.refl _ w5)).mono (fun _ f => f) |> (fun h => by repeat (first | with_reducible exact h | refine Mod.alloc ?_ _ | refine Mod.drew ?_))) gr6 (fun k hk => .inr hk);
             have fT6 := blk_free (m6.obj H5.out.2.2.1 hlb) o; have dT6 : w6.cell? ⟨T, o, none⟩ = some v := (blk_cell (m6.obj H5.out.2.2.1 hlb) o).trans (by simp [H0.out.2.2.1]); have H6 := Lib.hid (And.intro own6 (And.intro m6 hat6)); clear own6 m6 hat6 gr6))
        all_goals
          go_wp2
          have hT6 := H6.out.2.1.obj H5.out.2.2.1 hlb
          have hsz5 := H5.out.2.2.2.2.1
          simp at hsz5
          have hm5 : Mod (fun b => b = C ∨ b = wr.heap.size) wr w5 := (((Mod.refl No wr).alloc (.cells zTen 30)).mono (fun _ f => f.elim)).trans H5.out.2.1
          have hgT : g ≠ T := fun e => by
            rcases H6.out.2.2 with f | f
            · exact hlb (by rw [← e]; exact f)
            · simp at f; omega
          refine ⟨⟨j + 1, acc ++ [x], s2, .slice (some ⟨g, 0, none⟩) (acc.length + 1) cap, by go_num, by omega, ?_, ?_, ?_, ?_, ?_, ⟨?_, ?_⟩, ?_⟩, by simp [intOf]; omega⟩
          · simp; omega
          · rw [HR.out.1]; simp [H5.out.2.2.2.2.2.1]
          · exact H5.out.2.2.2.2.2.2.1
          · rw [heap_setCell_ne _ _ (fun e => h1 e.symm)]; exact H6.out.2.1.obj H5.out.1 hlC'
          · rw [heap_setCell_row hT6]; simp
          · refine own_mod (F := fun b => b = T) ?_ (Mod.setCell (p := ⟨T, o, none⟩) (Mod.refl (fun b => b = T) w6) (.inr rfl) _) (fun k hk f => ?_)
            · have := H6.out.1
              rw [← HT.out.1] at this
              simpa [tvCells] using this
            · subst f
              obtain rfl : g = k := by simpa [Value.ownBlock] using hk
              exact hgT rfl
          · have hk6 : ∀ S' : Nat → Prop, (∀ b, S' b → v.ownBlock ≠ some b ∧ b ≠ T) → Keeps S' w5 (w6.setCell ⟨T, o, none⟩ (.slice (some ⟨g, 0, none⟩) (acc.length + 1) cap)) := fun S' hS' => by
              refine Mod.keeps (F := fun b => v.ownBlock = some b ∨ b = T) (Mod.setCell (H6.out.2.1.mono (fun b h => .inl h)) (.inr (.inr rfl)) _) (fun b _ hb f => ?_)
              rcases f with f | f
              · exact (hS' b hb).1 f
              · exact (hS' b hb).2 f
            have hnew : ∀ b, b < w5.heap.size → v.ownBlock ≠ some b → (Value.slice (some ⟨g, 0, none⟩) (acc.length + 1) cap).ownBlock ≠ some b := fun b hb hv e => by
              obtain rfl : g = b := by simpa [Value.ownBlock] using e
              rcases H6.out.2.2 with f | f
              · exact hv f
              · simp at f; omega
            have fin : ∀ z : TV, z.Rows (fun b => w.heap.size ≤ b ∧ v.ownBlock ≠ some b) w5 → z.Rows (fun b => w.heap.size ≤ b ∧ (Value.slice (some ⟨g, 0, none⟩) (acc.length + 1) cap).ownBlock ≠ some b) (w6.setCell ⟨T, o, none⟩ (.slice (some ⟨g, 0, none⟩) (acc.length + 1) cap)) := by
              intro z hz
              have h1 := (hz.lt (S' := fun b => (w.heap.size ≤ b ∧ v.ownBlock ≠ some b) ∧ b < w5.heap.size) (fun b hb h => ⟨h, hb⟩)).keeps (hk6 _ (fun b hb => ⟨hb.1.2, by have := hb.1.1; omega⟩))
              exact h1.imp (fun b hb => ⟨hb.1.1, hnew b hb.2 hb.1.2⟩)
            intro z hz
            rcases List.mem_append.1 hz with hz | hz
            · refine fin z ?_
              have h1 := (HR.out.2.2.1.rows z hz).lt (S' := fun b => (w.heap.size ≤ b ∧ v.ownBlock ≠ some b) ∧ b < wr.heap.size) (fun b hb h => ⟨h, hb⟩)
              refine (h1.keeps (hm5.keeps (fun b _ hb f => ?_))).imp (fun b hb => hb.1)
              rcases f with f | f
              · have := hb.1.1; omega
              · have := hb.2; omega
            · obtain rfl : z = x := by simpa using hz
              refine fin z (H5.out.2.2.2.2.2.2.2.imp (fun b hb => ?_))
              simp at hb
              exact ⟨by omega, own_ne HR.out.2.2.1.own (.inr (by omega))⟩
          · refine Mod.setCell ?_ (.inr (.inr rfl)) _
            have m5 : Mod (fun b => b = C ∨ b = T) w w5 := HR.out.2.2.2.1.trans' hm5 (fun i hi f => by rcases f with f | f; exact .inl f; omega)
            refine m5.trans' H6.out.2.1 (fun i hi f => ?_)
            exact absurd f (own_ne HR.out.2.2.1.own (.inl hi))
      · have HR := Lib.hid (And.intro hsp (And.intro hbC (And.intro hbT (And.intro htv hmw))))
        clear hsp hbC hbT htv hmw
        go_wp2
        first | go_end0 | (simp only [Exit.inBlock, Exit.then]; refine bodyPost_ret (results_none rfl _ _ _) rfl ?_) | refine bodyPost_ret (results_none rfl _ _ _) rfl ?_
        obtain ⟨h5, h6, h7, h8, h9⟩ := HR.out
        rw [rmany_short (rten B) (n - j) (s := (at_, true)) rfl] at h5
        rw [h5]
        exact ⟨rfl, h6, ⟨v, h7, acc, by simp, h8⟩, h9⟩
    · obtain rfl : n = j := by omega
      have HR := Lib.hid (And.intro hsp (And.intro hbC (And.intro hbT (And.intro htv hmw))))
      clear hsp hbC hbT htv hmw
      go_wp2
      first | go_end0 | (simp only [Exit.inBlock, Exit.then]; refine bodyPost_ret (results_none rfl _ _ _) rfl ?_) | refine bodyPost_ret (results_none rfl _ _ _) rfl ?_
      obtain ⟨h5, h6, h7, h8, h9⟩ := HR.out
      rw [Nat.sub_self] at h5
      rw [h5]
      exact ⟨rfl, h6, ⟨v, h7, acc, by simp [rmany], h8⟩, h9⟩

end Go.Proofs.Ytcnemhhbihhcfaa
