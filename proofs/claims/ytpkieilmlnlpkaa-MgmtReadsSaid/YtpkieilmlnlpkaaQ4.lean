/-
  RefA, RefB, RefC, RdE, RdF, LawH, RdG, RdH, RdI, RrA, RrB, RrC in one text (pack.py).
-/
import Derived.Test.YtpkieilmlnlpkaaQ3
import Derived.Lib.AppendStr
namespace Go.Proofs.Ytpkieilmlnlpkaa

section
attribute [local go_sem] stPair gtPair gtK8 gtM6 run_store_func
attribute [local go_sem high] neqPair eqK8 eqM6
attribute [local go_sem ↓] load_fold store_fold alloc_fold
open Go.RowKit
set_option linter.unusedVariables false
/-- Bytes of one's own that have grown since: those of v in w, now those of v' in w'. -/
structure Gr (base : Nat) (v : Value) (w : World) (v' : Value) (w' : World) (L : List UInt8) : Prop where
  own : OwnB w' base v' L
  mod : Mod (fun b => v.ownBlock = some b) w w'
  row : ∀ g, v'.ownBlock = some g → v.ownBlock = some g ∨ w.heap.size ≤ g
theorem Gr.refl {base : Nat} {v : Value} {w : World} {L : List UInt8} (h : OwnB w base v L) : Gr base v w v w L := ⟨h, Mod.refl _ _, fun _ h => .inl h⟩
theorem Gr.ext {base : Nat} {v v' : Value} {w w' w2 : World} {L : List UInt8} (h : Gr base v w v' w' L) (hm : Mod No w' w2) : Gr base v w v' w2 L :=
  ⟨OwnB.mod h.own hm (fun _ _ _ f => f), h.mod.trans (hm.mono (fun _ f => f.elim)), h.row⟩
theorem Gr.trans {base : Nat} {v v1 v2 : Value} {w w1 w2 : World} {L L' : List UInt8} (h : Gr base v w v1 w1 L) (k : Gr base v1 w1 v2 w2 L') : Gr base v w v2 w2 L' :=
  ⟨k.own, h.mod.trans' k.mod (fun i hi hg => by rcases h.row i hg with f | f; exact f; omega), fun g hg => by
    rcases k.row g hg with f | f
    · exact h.row g f
    · exact .inr (Nat.le_trans h.mod.size f)⟩
/-- Seen from an elder world. -/
theorem Gr.pre {base : Nat} {v v' : Value} {w0 w w' : World} {L : List UInt8} (h0 : Mod No w0 w) (h : Gr base v w v' w' L) : Gr base v w0 v' w' L :=
  ⟨h.own, (h0.mono (fun _ f => f.elim)).trans h.mod, fun g hg => by
    rcases h.row g hg with f | f
    · exact .inl f
    · exact .inr (Nat.le_trans h0.size f)⟩
theorem Gr.no {base : Nat} {v' : Value} {w w' : World} {L : List UInt8} (h : Gr base (.slice none 0 0) w v' w' L) : Mod No w w' := h.mod.mono (fun b f => by simp [Value.ownBlock] at f)
theorem nil_own (w : World) (base : Nat) : OwnB w base (.slice none 0 0) [] := ⟨rfl, .inl ⟨rfl, rfl⟩⟩
end

section
attribute [local go_sem] stPair gtPair gtK8 gtM6 run_store_func
attribute [local go_sem high] neqPair eqK8 eqM6
attribute [local go_sem ↓] load_fold store_fold alloc_fold
open Go.RowKit
set_option linter.unusedVariables false
theorem OwnB.ge {w : World} {base : Nat} {v : Value} {L : List UInt8} (h : OwnB w base v L) {g : Nat} (hg : v.ownBlock = some g) : base ≤ g ∧ g < w.heap.size := by
  rcases h.2 with ⟨rfl, _⟩ | ⟨g', cap, cur, rfl, hb, hh, _⟩
  · simp [Value.ownBlock] at hg
  · obtain rfl : g' = g := by simpa [Value.ownBlock] using hg
    exact ⟨hb, lt_of_block hh⟩
theorem OwnB.keeps {w w' : World} {base : Nat} {v : Value} {L : List UInt8} (h : OwnB w base v L) (hm : Mod (fun b => v.ownBlock = some b) w w') : Keeps (· < base) w w' :=
  hm.keeps fun b hb hs f => by have := (h.ge f).1; omega
end

section
attribute [local go_sem] stPair gtPair gtK8 gtM6 run_store_func
attribute [local go_sem high] neqPair eqK8 eqM6
attribute [local go_sem ↓] load_fold store_fold alloc_fold
open Go.RowKit
set_option linter.unusedVariables false
set_option linter.unusedSimpArgs false
section
variable {base : Nat} {v0 v : Value} {w0 w W : World} {L : List UInt8}
theorem Gr.size (g : Gr base v0 w0 v w L) (hW : Mod No w W) (hb : base ≤ w0.heap.size) : base ≤ W.heap.size := Nat.le_trans hb (Nat.le_trans g.mod.size hW.size)
end
theorem K8.len (k : K8) : k.l.length = 8 := rfl
theorem M6.len (m : M6) : m.l.length = 6 := rfl
end

section
attribute [local go_sem] stPair gtPair gtK8 gtM6 run_store_func
attribute [local go_sem high] neqPair eqK8 eqM6
attribute [local go_sem ↓] load_fold store_fold alloc_fold
open Go.RowKit
set_option linter.unusedVariables false
theorem own_ne {w : World} {base : Nat} {e : TypeId} {size : Nat} {v : Value} {n : Nat} {xs : List Value} (h : w.ownsRow base e size v n xs) {b : Nat} (hb : b < base ∨ w.heap.size ≤ b) : v.ownBlock ≠ some b := by
  intro f
  rcases h.2 with ⟨rfl, _⟩ | ⟨g, cap, cur, rfl, hg, hgg, _⟩
  · simp [Value.ownBlock] at f
  · obtain rfl : g = b := by simpa [Value.ownBlock] using f
    have := lt_of_block hgg
    omega
def tenSlice (v : Value) : Sem Value := Instr.buildSlice 36 1 #[(0, v)]
theorem slice_op_fold (ρ : Operand → Value) (x : Operand) (dst : Option Tmp) (ty : TypeId) (pos : String) (after : Array Edge) (g : Option (Nat × Bool)) :
    execOp ρ { dst := dst, op := .buildSlice 36 1 #[(0, x)], type := ty, pos := pos, after := after, guard := g } = (do pure (Next.value (← tenSlice (ρ x))) : Sem Next) := by
  show (do pure (Next.value (← Instr.buildSlice 36 1 (#[(0, x)].map fun (i, x) => (i, ρ x)))) : Sem Next) = _
  have hm : (#[((0 : Nat), x)].map fun (i, x) => (i, ρ x)) = #[(0, ρ x)] := by simp
  rw [hm]
  rfl
attribute [local go_sem ↓] slice_op_fold
/-- What becomes of a list of tenants that is read: its values, each with rows of its own. -/
structure TVs (w : World) (base : Nat) (v : Value) (l : List TV) : Prop where
  own : w.ownsRow base 33 33 v l.length (tvCells l)
  rows : ∀ x ∈ l, x.Rows (fun b => base ≤ b ∧ v.ownBlock ≠ some b) w
set_option maxRecDepth 100000 in
set_option maxHeartbeats 2000000 in
theorem list_ten_rd {S : Nat → Prop} {w : World} {C : Nat} {A : Option Addr} {c : Nat} {s0 : St} (B : List UInt8) (hb : w.heap[C]? = some (rdObj A B.length c s0.1 s0.2)) (hrow : RowAt S w A (bcells B)) (hat : s0.1 ≤ B.length) (hc8 : B.length ≤ c) (hB : B.length ≤ 100000000) (hS : ¬ S C) {T o : Nat} (hST : ¬ S T) (hSl : ∀ b, S b → b < w.heap.size)
    {cs : Array Value} {t : TypeId} (hT : w.heap[T]? = some (.cells cs t (0, 0))) (ho : o < cs.size) (h1 : T ≠ C) (n : Nat) (hn : n ≤ 1000) :
    Calls Try.prog 92 #[.pointer (some ⟨C, 0, none⟩), .int .i64 n, .pointer (some ⟨T, o, none⟩), .func (.func 47) #[.pointer (some ⟨C, 0, none⟩)] #[]] w fun e w' => e = .returned (.tuple #[]) ∧ w'.heap[C]? = some (rdObj A B.length c (rmany (rten B) n s0).2.1 (rmany (rten B) n s0).2.2) ∧
      (∃ (v : Value) (l : List TV), w'.heap[T]? = some (.cells (cs.setIfInBounds o v) t (0, 0)) ∧ l.map (·.t) = (rmany (rten B) n s0).1 ∧ TVs w' w.heap.size v l) ∧ Mod (fun b => b = C ∨ b = T) w w' := by
  obtain ⟨i0, hi, hz0, hz1, hz2⟩ := info_parts infoTen
  have c1 := blk_cell hb 1
  simp at c1
  have c2 := blk_cell hT o
  have f2 := blk_free hT o
  rw [Array.getElem?_eq_getElem ho] at c2
  obtain ⟨v0, hv0⟩ : ∃ v0, v0 = cs[o] := ⟨_, rfl⟩
  rw [← hv0] at c2
  have hlC := lt_of_block hb
  have hlT := lt_of_block hT
  have hkp : ∀ W, Mod (fun b => b = C ∨ b = T) w W → RowAt S W A (bcells B) := fun W hW => hrow.keeps (hW.keeps (fun b _ hs f => by rcases f with f | f; exact hS (by subst f; exact hs); exact hST (by subst f; exact hs)))
  have H0 := Lib.hid (And.intro hb (And.intro hT (And.intro ho (And.intro hat (And.intro hkp (And.intro hSl (And.intro hc8 hB)))))))
  have hal := tenAlloc_run
  have HZ0 := Lib.hid hz0
  clear hb hrow hat hT ho hkp hv0 hSl hc8 hB hz0
  go_enter Try.func92, Try.ntmps92
  go_wp2
  go_loopw [8] (fun i wr => ∃ (j : Nat) (acc : List TV) (s : St) (v : Value), i = .int .i64 j ∧ j ≤ n ∧ acc.length ≤ j ∧ rmany (rten B) n s0 = (acc.map (·.t) ++ (rmany (rten B) (n - j) s).1, (rmany (rten B) (n - j) s).2) ∧ s.1 ≤ B.length ∧
    wr.heap[C]? = some (rdObj A B.length c s.1 s.2) ∧ wr.heap[T]? = some (.cells (cs.setIfInBounds o v) t (0, 0)) ∧ TVs wr w.heap.size v acc ∧ Mod (fun b => b = C ∨ b = T) w wr) (fun i _ => n - (intOf i).toNat)
  case atStart =>
    refine ⟨0, [], s0, .slice none 0 0, rfl, by omega, by simp, by simp, H0.out.2.2.2.1, ?_, ?_, ⟨⟨rfl, .inl ⟨rfl, rfl⟩⟩, by simp⟩, ?_⟩
    · rw [heap_setCell_ne _ _ (fun e => h1 e.symm)]; exact H0.out.1
    · exact heap_setCell_row H0.out.2.1 _
    · exact Mod.setCell (Mod.refl _ _) (.inr (.inr rfl)) _
  case round =>
    obtain ⟨j, acc, s, v, rfl, hj, hacc, hsp, hs8, hbC, hbT, htv, hmw⟩ := hrel
    obtain ⟨at_, sh⟩ := s
    have d3 := blk_cell hbC 3
    simp at d3
    have dT : wr.cell? ⟨T, o, none⟩ = some v := (blk_cell hbT o).trans (by simp [H0.out.2.2.1])
    by_cases hlt : j < n
    · have p1 : (0:Int) ≤ j := by omega
      have p2 : (j:Int) < n := by omega
      cases sh
      · have hmA : Mod No wr (wr.alloc (.cells zTen 33)) := (Mod.refl _ _).alloc _
        have hmwA : Mod (fun b => b = C ∨ b = T) w (wr.alloc (.cells zTen 33)) := hmw.alloc _
        have hwl := hmw.size
        have hc := tenant_rd (w := wr.alloc (.cells zTen 33)) (s0 := (at_, false)) B (hmA.obj hbC id) (H0.out.2.2.2.2.1 _ hmwA) hs8 H0.out.2.2.2.2.2.2.1 H0.out.2.2.2.2.2.2.2 hS (T := wr.heap.size) (o := 0) (fun f => by have := H0.out.2.2.2.2.2.1 _ f; omega) (fun b f => by have := H0.out.2.2.2.2.2.1 _ f; simp; omega)
          (pre := []) (post := []) (tt := 33) (by simpa using at10 wr (.cells zTen 33)) rfl (by omega)
        have hnx : n - j = (n - (j + 1)) + 1 := by omega
        rw [hnx, rmany_step _ _ rfl] at hsp
        obtain ⟨y, hy⟩ : ∃ y, y = (rten B (at_, false)).1 := ⟨_, rfl⟩
        obtain ⟨s2, hs2⟩ : ∃ s2, s2 = (rten B (at_, false)).2 := ⟨_, rfl⟩
        rw [← hy, ← hs2] at hc hsp
        have hown := htv.own
        have hlb : v.ownBlock ≠ some T := own_ne hown (.inl hlT)
        have hlC' : v.ownBlock ≠ some C := own_ne hown (.inl hlC)
        have hlX : v.ownBlock ≠ some wr.heap.size := own_ne hown (.inr (Nat.le_refl _))
        have HC := Lib.hid hc
        have HR := Lib.hid (And.intro hsp (And.intro hbT (And.intro htv (And.intro hmw hbC))))
        clear hc hsp hbC hbT hmA hmwA hs8 hy hs2 hown htv
        go_wp2_with fail
        refine HC.out.mono ?_
        rintro e w5 ⟨rfl, x, k0, kl, k1, k2, kr, k3⟩
        simp only [List.nil_append, List.append_nil] at k2
        have g3 := k3.obj ((((Mod.refl No wr).alloc (.cells zTen 33))).obj HR.out.2.1 id) (by rintro (f | f); exact h1 f; omega)
        have dT5 : w5.cell? ⟨T, o, none⟩ = some v := (blk_cell g3 o).trans (by simp [H0.out.2.2.1])
        have fT5 := blk_free g3 o
        have lT5 : T < w5.heap.size := lt_of_block g3
        have lX5 : wr.heap.size < w5.heap.size := lt_of_block k2
        have lC5 : C < w5.heap.size := lt_of_block k1
        obtain ⟨TA, hTA⟩ : ∃ TA, TA = x.cells.toArray := ⟨_, rfl⟩
        have hbs : ∀ W : World, (tenSlice (.agg TA)).run Try.prog W = .ok (.slice (some ⟨W.heap.size, 0, none⟩) 1 1) (W.alloc (.cells TA 33)) := ten_build TA (by rw [hTA]; rfl)
        have hld : (tenLoad (.pointer (some ⟨wr.heap.size, 0, none⟩))).run Try.prog w5.drew = .ok (.agg TA) w5.drew := tenLoad_run (by rw [hTA]; exact k2) (by rw [hTA]; rfl)
        have hone := TV.one kr
        have htl : x.cells = TA.toList := by rw [hTA]
        rw [← hTA] at hone
        have hown5 : w5.ownsRow w.heap.size 33 33 v acc.length (tvCells acc) := own_mod (own_mod HR.out.2.2.1.own ((Mod.refl No wr).alloc (.cells zTen 33)) (fun _ _ f => f)) k3 (fun k hk f => by rcases f with f | f; exact hlC' (by rw [← f]; exact hk); exact hlX (by rw [← f]; exact hk))
        have hsz5 := k3.size
        have H5 := Lib.hid (And.intro k1 (And.intro k3 (And.intro g3 (And.intro hown5 (And.intro hsz5 (And.intro k0 (And.intro kl kr)))))))
        have HT := Lib.hid (And.intro htl hone)
        clear k1 k2 k3 g3 hown5 hsz5 d3 dT k0 kl kr htl hone hTA
        go_wp2_with fail
        go_region_law (first
          | (refine step_append_lies _ (by rfl) _ _ 36 (by rfl) w.heap.size 33 i0 _ 33 160 Try.underlying36 hi HZ0.out hz1 hz2 (by rfl) (by decide) v acc.length (tvCells acc) (by rfl) ?_ _ _ _ TA.toList (by rfl) (by rw [← HT.out.1]; rfl) ?_ ?_ (by decide) ?_ ?_ ?_ _ (by rfl) ?_;
             (exact own_mod H5.out.2.2.2.1 (by repeat (first | with_reducible exact Mod.refl _ _ | refine Mod.alloc ?_ _ | refine Mod.drew ?_)) (fun _ _ f => f));
             (exact World.news_of_block (at10 _ _));
             (intro u hu; exact (Array.all_eq_true_iff_forall_mem.1 HT.out.2) u (by simpa using hu));
             (unfold maxLen; omega);
             omega;
             (have := H5.out.2.2.2.2.1; simp at this; simp; omega);
             intro g cap w6 own6 gr6 hat6 hlt6;
             have m6 : Mod (fun b => v.ownBlock = some b) w5 w6 := Mod.grown (((Mod.refl _ w5)).mono (fun _ f => f) |> (fun h => by repeat (first | with_reducible exact h | refine Mod.alloc ?_ _ | refine Mod.drew ?_))) gr6 (fun k hk => .inr hk);
             have fT6 := blk_free (m6.obj H5.out.2.2.1 hlb) o; have dT6 : w6.cell? ⟨T, o, none⟩ = some v := (blk_cell (m6.obj H5.out.2.2.1 hlb) o).trans (by simp [H0.out.2.2.1]); have H6 := Lib.hid (And.intro own6 (And.intro m6 hat6)); clear own6 m6 hat6 gr6))
        all_goals
          go_wp2
          have hT6 := H6.out.2.1.obj H5.out.2.2.1 hlb
          have hsz5 := H5.out.2.2.2.2.1
          simp at hsz5
          have hm5 : Mod (fun b => b = C ∨ b = wr.heap.size) wr w5 := (((Mod.refl No wr).alloc (.cells zTen 33)).mono (fun _ f => f.elim)).trans H5.out.2.1
          have hgT : g ≠ T := fun e => by
            rcases H6.out.2.2 with f | f
            · exact hlb (by rw [← e]; exact f)
            · simp at f; omega
          refine ⟨⟨j + 1, acc ++ [x], s2, .slice (some ⟨g, 0, none⟩) (acc.length + 1) cap, by go_num, by omega, ?_, ?_, ?_, ?_, ?_, ⟨?_, ?_⟩, ?_⟩, by simp [intOf]; omega⟩
          · simp; omega
          · rw [HR.out.1]; simp [H5.out.2.2.2.2.2.1]
          · exact H5.out.2.2.2.2.2.2.1
          · rw [heap_setCell_ne _ _ (fun e => h1 e.symm)]; exact H6.out.2.1.obj H5.out.1 hlC'
          · rw [heap_setCell_row hT6]; simp
          · refine own_mod (F := fun b => b = T) ?_ (Mod.setCell (p := ⟨T, o, none⟩) (Mod.refl (fun b => b = T) w6) (.inr rfl) _) (fun k hk f => ?_)
            · have := H6.out.1
              rw [← HT.out.1] at this
              simpa [tvCells] using this
            · subst f
              obtain rfl : g = k := by simpa [Value.ownBlock] using hk
              exact hgT rfl
          · have hk6 : ∀ S' : Nat → Prop, (∀ b, S' b → v.ownBlock ≠ some b ∧ b ≠ T) → Keeps S' w5 (w6.setCell ⟨T, o, none⟩ (.slice (some ⟨g, 0, none⟩) (acc.length + 1) cap)) := fun S' hS' => by
              refine Mod.keeps (F := fun b => v.ownBlock = some b ∨ b = T) (Mod.setCell (H6.out.2.1.mono (fun b h => .inl h)) (.inr (.inr rfl)) _) (fun b _ hb f => ?_)
              rcases f with f | f
              · exact (hS' b hb).1 f
              · exact (hS' b hb).2 f
            have hnew : ∀ b, b < w5.heap.size → v.ownBlock ≠ some b → (Value.slice (some ⟨g, 0, none⟩) (acc.length + 1) cap).ownBlock ≠ some b := fun b hb hv e => by
              obtain rfl : g = b := by simpa [Value.ownBlock] using e
              rcases H6.out.2.2 with f | f
              · exact hv f
              · simp at f; omega
            have fin : ∀ z : TV, z.Rows (fun b => w.heap.size ≤ b ∧ v.ownBlock ≠ some b) w5 → z.Rows (fun b => w.heap.size ≤ b ∧ (Value.slice (some ⟨g, 0, none⟩) (acc.length + 1) cap).ownBlock ≠ some b) (w6.setCell ⟨T, o, none⟩ (.slice (some ⟨g, 0, none⟩) (acc.length + 1) cap)) := by
              intro z hz
              have h1 := (hz.lt (S' := fun b => (w.heap.size ≤ b ∧ v.ownBlock ≠ some b) ∧ b < w5.heap.size) (fun b hb h => ⟨h, hb⟩)).keeps (hk6 _ (fun b hb => ⟨hb.1.2, by have := hb.1.1; omega⟩))
              exact h1.imp (fun b hb => ⟨hb.1.1, hnew b hb.2 hb.1.2⟩)
            intro z hz
            rcases List.mem_append.1 hz with hz | hz
            · refine fin z ?_
              have h1 := (HR.out.2.2.1.rows z hz).lt (S' := fun b => (w.heap.size ≤ b ∧ v.ownBlock ≠ some b) ∧ b < wr.heap.size) (fun b hb h => ⟨h, hb⟩)
              refine (h1.keeps (hm5.keeps (fun b _ hb f => ?_))).imp (fun b hb => hb.1)
              rcases f with f | f
              · have := hb.1.1; omega
              · have := hb.2; omega
            · obtain rfl : z = x := by simpa using hz
              refine fin z (H5.out.2.2.2.2.2.2.2.imp (fun b hb => ?_))
              simp at hb
              exact ⟨by omega, own_ne HR.out.2.2.1.own (.inr (by omega))⟩
          · refine Mod.setCell ?_ (.inr (.inr rfl)) _
            have m5 : Mod (fun b => b = C ∨ b = T) w w5 := HR.out.2.2.2.1.trans' hm5 (fun i hi f => by rcases f with f | f; exact .inl f; omega)
            refine m5.trans' H6.out.2.1 (fun i hi f => ?_)
            exact absurd f (own_ne HR.out.2.2.1.own (.inl hi))
      · have HR := Lib.hid (And.intro hsp (And.intro hbC (And.intro hbT (And.intro htv hmw))))
        clear hsp hbC hbT htv hmw
        go_wp2
        first | go_end0 | (simp only [Exit.inBlock, Exit.then]; refine bodyPost_ret (results_none rfl _ _ _) rfl ?_) | refine bodyPost_ret (results_none rfl _ _ _) rfl ?_
        obtain ⟨h5, h6, h7, h8, h9⟩ := HR.out
        rw [rmany_short (rten B) (n - j) (s := (at_, true)) rfl] at h5
        rw [h5]
        exact ⟨rfl, h6, ⟨v, h7, acc, by simp, h8⟩, h9⟩
    · obtain rfl : n = j := by omega
      have HR := Lib.hid (And.intro hsp (And.intro hbC (And.intro hbT (And.intro htv hmw))))
      clear hsp hbC hbT htv hmw
      go_wp2
      first | go_end0 | (simp only [Exit.inBlock, Exit.then]; refine bodyPost_ret (results_none rfl _ _ _) rfl ?_) | refine bodyPost_ret (results_none rfl _ _ _) rfl ?_
      obtain ⟨h5, h6, h7, h8, h9⟩ := HR.out
      rw [Nat.sub_self] at h5
      rw [h5]
      exact ⟨rfl, h6, ⟨v, h7, acc, by simp [rmany], h8⟩, h9⟩
end

section
attribute [local go_sem] stPair gtPair gtK8 gtM6 run_store_func
attribute [local go_sem high] neqPair eqK8 eqM6
attribute [local go_sem ↓] load_fold store_fold alloc_fold slice_op_fold
open Go.RowKit
set_option linter.unusedVariables false
/-- Settings that are being read. -/
structure CS where
  c : Con
  nt : Nat
  l : List Ten
  s : St
def Con.zero : Con := ⟨0, .zero, .zero, .zero, .zero, 0⟩
def csteps (B : List UInt8) : List (CS → CS) := [
  fun r => { r with c := { r.c with ip := (rnum B 4 r.s).1 }, s := (rnum B 4 r.s).2 },
  fun r => { r with c := { r.c with mac := M6.of (rtake B r.s 6).1 }, s := (rtake B r.s 6).2 },
  fun r => { r with c := { r.c with omac := M6.of (rtake B r.s 6).1 }, s := (rtake B r.s 6).2 },
  fun r => { r with c := { r.c with nmac := M6.of (rtake B r.s 6).1 }, s := (rtake B r.s 6).2 },
  fun r => { r with c := { r.c with key := K8.of (rtake B r.s 8).1 }, s := (rtake B r.s 8).2 },
  fun r => { r with c := { r.c with drain := (rnum B 4 r.s).1 }, s := (rnum B 4 r.s).2 },
  fun r => { r with nt := (rnum B 1 r.s).1, s := (rnum B 1 r.s).2 },
  fun r => { r with l := (rmany (rten B) r.nt r.s).1, s := (rmany (rten B) r.nt r.s).2 }]
def ck (B : List UInt8) (s : St) (k : Nat) : CS := ((csteps B).take k).foldl (fun r f => f r) ⟨.zero, 0, [], s⟩
/-- Settings read. -/
def rcon (B : List UInt8) (s : St) : CS := ck B s 8
set_option maxRecDepth 100000 in
set_option maxHeartbeats 2000000 in
theorem con_list_rd {S : Nat → Prop} {w : World} {C : Nat} {A : Option Addr} {c : Nat} {s0 : St} (B : List UInt8) (hb : w.heap[C]? = some (rdObj A B.length c s0.1 s0.2)) (hrow : RowAt S w A (bcells B)) (hat : s0.1 ≤ B.length) (hc : B.length ≤ c) (hB : B.length ≤ 100000000) (hS : ¬ S C) {bc bt bp T o n : Nat} (hST : ¬ S T) (hx : BoxesC w bc bt C T o) (hn : n ≤ 1000) (hSn : ∀ b, S b → b < w.heap.size) (hp : w.heap[bp]? = some (.cells #[.int .i64 (n : Int)] 3 (0, 0)))
    {cs : Array Value} {t : TypeId} (hT : w.heap[T]? = some (.cells cs t (0, 0))) (ho : o + 28 < cs.size) (h1 : T ≠ C) :
    Calls Try.prog 91 #[.pointer (some ⟨bc, 0, none⟩), .pointer (some ⟨bp, 0, none⟩), .pointer (some ⟨bt, 0, none⟩)] w fun e w' => e = .returned (.tuple #[]) ∧ w'.heap[C]? = some (rdObj A B.length c (rmany (rten B) n s0).2.1 (rmany (rten B) n s0).2.2) ∧
      (∃ (v : Value) (l : List TV), w'.heap[T]? = some (.cells (cs.setIfInBounds (o + 28) v) t (0, 0)) ∧ l.map (·.t) = (rmany (rten B) n s0).1 ∧ TVs w' w.heap.size v l) ∧ Mod (fun b => b = C ∨ b = T) w w' := by
  obtain ⟨R, hR⟩ : ∃ R : World → Prop, R = fun w' => w'.heap[C]? = some (rdObj A B.length c (rmany (rten B) n s0).2.1 (rmany (rten B) n s0).2.2) ∧
      (∃ (v : Value) (l : List TV), w'.heap[T]? = some (.cells (cs.setIfInBounds (o + 28) v) t (0, 0)) ∧ l.map (·.t) = (rmany (rten B) n s0).1 ∧ TVs w' w.heap.size v l) ∧ Mod (fun b => b = C ∨ b = T) w w' := ⟨_, rfl⟩
  have hd : ∀ W, W = w.drew → Calls Try.prog 92 #[.pointer (some ⟨C, 0, none⟩), .int .i64 n, .pointer (some ⟨T, o + 28, none⟩), .func (.func 47) #[.pointer (some ⟨C, 0, none⟩)] #[]] W fun e w' => e = .returned (.tuple #[]) ∧ R w' := by
    intro W hW
    subst hW
    rw [hR]
    exact (list_ten_rd (w := w.drew) (S := S) B hb (hrow.keeps (Mod.keeps (Mod.drew (Mod.refl No w)) (fun _ _ _ f => f))) hat hc hB hS (T := T) (o := o + 28) hST hSn hT ho h1 n hn).mono fun e w' ⟨e1, e2, e3, e4⟩ => ⟨e1, e2, e3, (Mod.refl _ w).drew.trans e4⟩
  have c0 := blk_cell hx.c 0
  have c1 := blk_cell hx.t 0
  have c2 := blk_cell hp 0
  simp at c0 c1 c2
  suffices hs : Calls Try.prog 91 #[.pointer (some ⟨bc, 0, none⟩), .pointer (some ⟨bp, 0, none⟩), .pointer (some ⟨bt, 0, none⟩)] w fun e w' => e = .returned (.tuple #[]) ∧ R w' by
    rw [hR] at hs; exact hs
  have HD := Lib.hid hd
  clear hb hrow hat hc hB hS hx hT ho hd hR hp hn h1 hST hSn
  go_enter Try.func91, Try.ntmps91
  go_wp2_with fail
  go_region_law (first | (go_simp; go_at_call 92; refine (HD.out _ rfl).mono ?_; rintro e w1 ⟨rfl, hr⟩; have HW := Lib.hid hr; clear hr))
  all_goals
    go_wp2
    first | go_end0 | (simp only [Exit.inBlock, Exit.then]; refine bodyPost_ret (results_none rfl _ _ _) rfl ?_) | refine bodyPost_ret (results_none rfl _ _ _) rfl ?_
    exact ⟨rfl, HW.out⟩
structure KG (w0 : World) (n C T : Nat) (A : Option Addr) (c : Nat) (B : List UInt8) (S : Nat → Prop) : Prop where
  bx : BoxesC w0 n (n + 1) C T 0
  rw3 : w0.heap[n + 3]? = some (.cells (conRow n).toArray 1 (0, 0))
  C_lt : C < n
  T_lt : T < n
  TC : T ≠ C
  row : RowAt S w0 A (bcells B)
  S_lt : ∀ b, S b → b < n
  SC : ¬ S C
  ST : ¬ S T
  hc : B.length ≤ c
  hB : B.length ≤ 100000000
structure KR (w0 : World) (n C T : Nat) (A : Option Addr) (c : Nat) (B : List UInt8) (r : CS) (vt : Value) (l : List TV) (w : World) : Prop where
  rd : w.heap[C]? = some (rdObj A B.length c r.s.1 r.s.2)
  le : r.s.1 ≤ B.length
  con : w.heap[T]? = some (.cells (r.c.cells vt) 38 (0, 0))
  mod : Mod (fun b => b = C ∨ b = T ∨ b = n + 2) w0 w
  hn : w.heap[n + 2]? = some (.cells #[.int .i64 (r.nt : Int)] 3 (0, 0))
  cnt : r.nt < 256
  map : l.map (·.t) = r.l
  tens : TVs w (n + 4) vt l
section
variable {w0 : World} {n C T : Nat} {A : Option Addr} {c : Nat} {B : List UInt8} {S : Nat → Prop} {r : CS} {vt : Value} {l : List TV} {w : World}
theorem KR.keep (h : KR w0 n C T A c B r vt l w) (g : KG w0 n C T A c B S) {b : Nat} {ob : Obj} (hb : w0.heap[b]? = some ob) (h1 : n ≤ b) (h2 : b ≠ n + 2) : w.heap[b]? = some ob := by
  refine h.mod.obj hb ?_
  have := g.C_lt
  have := g.T_lt
  rintro (f | f | f) <;> omega
theorem KR.boxes (h : KR w0 n C T A c B r vt l w) (g : KG w0 n C T A c B S) : BoxesC w n (n + 1) C T 0 := ⟨h.keep g g.bx.c (by omega) (by omega), h.keep g g.bx.t (by omega) (by omega)⟩
theorem KR.row (h : KR w0 n C T A c B r vt l w) (g : KG w0 n C T A c B S) : RowAt S w A (bcells B) := g.row.keeps (h.mod.keeps fun b hb hs f => by
  have := g.S_lt b hs
  rcases f with f | f | f
  · exact g.SC (by rw [← f]; exact hs)
  · exact g.ST (by rw [← f]; exact hs)
  · omega)
theorem TVs.mod {F : Nat → Prop} {w w' : World} {base : Nat} {v : Value} {l : List TV} (h : TVs w base v l) (hm : Mod F w w') (hF : ∀ b, base ≤ b → b < w.heap.size → ¬ F b) : TVs w' base v l :=
  ⟨own_mod h.own hm fun k hk => by
    rcases h.own.2 with ⟨rfl, _⟩ | ⟨g, cap, cur, rfl, hb, hg, _⟩
    · simp [Value.ownBlock] at hk
    · obtain rfl : g = k := by simpa [Value.ownBlock] using hk
      exact hF g hb (lt_of_block hg), fun x hx => (h.rows x hx).keeps (hm.keeps fun b hb hs => hF b hs.1 hb)⟩
theorem KR.next (h : KR w0 n C T A c B r vt l w) (g : KG w0 n C T A c B S) {w' : World} {c' : Con} {s' : St} (hs : s'.1 ≤ B.length) (hrd : w'.heap[C]? = some (rdObj A B.length c s'.1 s'.2)) (ht : w'.heap[T]? = some (.cells (c'.cells vt) 38 (0, 0)))
    (hm : Mod (fun b => b = C ∨ b = T) w w') : KR w0 n C T A c B { r with c := c', s := s' } vt l w' := by
  have k1 := g.C_lt
  have k2 := g.T_lt
  exact ⟨hrd, hs, ht, h.mod.trans (hm.mono fun b f => by rcases f with f | f; exact .inl f; exact .inr (.inl f)), hm.obj h.hn (by rintro (f | f) <;> omega), h.cnt, h.map, h.tens.mod hm (fun b hb _ f => by rcases f with f | f <;> omega)⟩
def KI (w0 : World) (n C T : Nat) (A : Option Addr) (c : Nat) (B : List UInt8) (s : St) (k : Nat) (w : World) : Prop := ∃ vt l, KR w0 n C T A c B (ck B s k) vt l w
theorem con_size (c : Con) (vt : Value) : (c.cells vt).size = 29 := rfl
theorem con_len (c : Con) (vt : Value) : (c.cells vt).toList.length = 29 := rfl
theorem con_set (c : Con) (vt : Value) (j : Nat) (v : Value) (c' : Con) (vt' : Value) (h : (c.cells vt).toList.set j v = (c'.cells vt').toList) : (Obj.cells ((c.cells vt).setIfInBounds j v) 38) = .cells (c'.cells vt') 38 := by
  congr 1
  apply Array.toList_inj.1
  simpa using h
theorem mac_splice (c : Con) (vt : Value) (xs : List UInt8) (h : xs.length = 6) : (splice (c.cells vt).toList 1 (bcells xs)).toArray = ({ c with mac := M6.of xs } : Con).cells vt := by
  match xs, h with
  | [a, b, c, d, e, f], _ => rfl
theorem omac_splice (c : Con) (vt : Value) (xs : List UInt8) (h : xs.length = 6) : (splice (c.cells vt).toList 7 (bcells xs)).toArray = ({ c with omac := M6.of xs } : Con).cells vt := by
  match xs, h with
  | [a, b, c, d, e, f], _ => rfl
theorem nmac_splice (c : Con) (vt : Value) (xs : List UInt8) (h : xs.length = 6) : (splice (c.cells vt).toList 13 (bcells xs)).toArray = ({ c with nmac := M6.of xs } : Con).cells vt := by
  match xs, h with
  | [a, b, c, d, e, f], _ => rfl
theorem ckey_splice (c : Con) (vt : Value) (xs : List UInt8) (h : xs.length = 8) : (splice (c.cells vt).toList 19 (bcells xs)).toArray = ({ c with key := K8.of xs } : Con).cells vt := by
  match xs, h with
  | [a, b, c, d, e, f, g, i], _ => rfl
end
section
variable {w0 : World} {n C T : Nat} {A : Option Addr} {c : Nat} {B : List UInt8} {S : Nat → Prop} {s : St} {w : World}
theorem ki_0 (g : KG w0 n C T A c B S) (h : KI w0 n C T A c B s 0 w) :
    Calls Try.prog 84 #[bxv n, bxv (n + 1)] w fun e w' => e = .returned (.tuple #[]) ∧ KI w0 n C T A c B s 1 w' := by
  obtain ⟨vt, l, h⟩ := h
  have hk : ck B s 1 = (fun r : CS => ({ r with c := { r.c with ip := (rnum B 4 r.s).1 }, s := (rnum B 4 r.s).2 } : CS)) (ck B s 0) := rfl
  unfold KI
  rw [hk]
  generalize ck B s 0 = r at h ⊢
  clear hk
  refine (con_ip_rd (o := 0) B h.rd (h.row g) h.le g.hc g.hB g.SC (h.boxes g) h.con (by rw [con_size]; decide) g.TC).mono fun e w' ⟨he, a1, a2, a3⟩ => ⟨he, vt, l, h.next g (rnum_le B 4 _ h.le) a1 ?_ a3⟩
  rw [a2]
  exact congrArg some (con_set _ _ _ _ _ _ rfl)
theorem ki_1 (g : KG w0 n C T A c B S) (h : KI w0 n C T A c B s 1 w) :
    Calls Try.prog 85 #[bxv n, bxv (n + 1)] w fun e w' => e = .returned (.tuple #[]) ∧ KI w0 n C T A c B s 2 w' := by
  obtain ⟨vt, l, h⟩ := h
  have hk : ck B s 2 = (fun r : CS => ({ r with c := { r.c with mac := M6.of (rtake B r.s 6).1 }, s := (rtake B r.s 6).2 } : CS)) (ck B s 1) := rfl
  unfold KI
  rw [hk]
  generalize ck B s 1 = r at h ⊢
  clear hk
  refine (con_mac_rd (o := 0) (cs := (r.c.cells vt).toList) B h.rd (h.row g) h.le g.hc g.hB g.SC (h.boxes g) h.con (by rw [con_len]; decide) g.TC).mono fun e w' ⟨he, a1, a2, a3⟩ => ⟨he, vt, l, h.next g (rtake_le B _ 6 h.le) a1 ?_ a3⟩
  rw [a2, Nat.zero_add, mac_splice _ _ _ (rtake_length _ _ _)]
theorem ki_2 (g : KG w0 n C T A c B S) (h : KI w0 n C T A c B s 2 w) :
    Calls Try.prog 86 #[bxv n, bxv (n + 1)] w fun e w' => e = .returned (.tuple #[]) ∧ KI w0 n C T A c B s 3 w' := by
  obtain ⟨vt, l, h⟩ := h
  have hk : ck B s 3 = (fun r : CS => ({ r with c := { r.c with omac := M6.of (rtake B r.s 6).1 }, s := (rtake B r.s 6).2 } : CS)) (ck B s 2) := rfl
  unfold KI
  rw [hk]
  generalize ck B s 2 = r at h ⊢
  clear hk
  refine (con_omac_rd (o := 0) (cs := (r.c.cells vt).toList) B h.rd (h.row g) h.le g.hc g.hB g.SC (h.boxes g) h.con (by rw [con_len]; decide) g.TC).mono fun e w' ⟨he, a1, a2, a3⟩ => ⟨he, vt, l, h.next g (rtake_le B _ 6 h.le) a1 ?_ a3⟩
  rw [a2, Nat.zero_add, omac_splice _ _ _ (rtake_length _ _ _)]
theorem ki_3 (g : KG w0 n C T A c B S) (h : KI w0 n C T A c B s 3 w) :
    Calls Try.prog 87 #[bxv n, bxv (n + 1)] w fun e w' => e = .returned (.tuple #[]) ∧ KI w0 n C T A c B s 4 w' := by
  obtain ⟨vt, l, h⟩ := h
  have hk : ck B s 4 = (fun r : CS => ({ r with c := { r.c with nmac := M6.of (rtake B r.s 6).1 }, s := (rtake B r.s 6).2 } : CS)) (ck B s 3) := rfl
  unfold KI
  rw [hk]
  generalize ck B s 3 = r at h ⊢
  clear hk
  refine (con_nmac_rd (o := 0) (cs := (r.c.cells vt).toList) B h.rd (h.row g) h.le g.hc g.hB g.SC (h.boxes g) h.con (by rw [con_len]; decide) g.TC).mono fun e w' ⟨he, a1, a2, a3⟩ => ⟨he, vt, l, h.next g (rtake_le B _ 6 h.le) a1 ?_ a3⟩
  rw [a2, Nat.zero_add, nmac_splice _ _ _ (rtake_length _ _ _)]
theorem ki_4 (g : KG w0 n C T A c B S) (h : KI w0 n C T A c B s 4 w) :
    Calls Try.prog 88 #[bxv n, bxv (n + 1)] w fun e w' => e = .returned (.tuple #[]) ∧ KI w0 n C T A c B s 5 w' := by
  obtain ⟨vt, l, h⟩ := h
  have hk : ck B s 5 = (fun r : CS => ({ r with c := { r.c with key := K8.of (rtake B r.s 8).1 }, s := (rtake B r.s 8).2 } : CS)) (ck B s 4) := rfl
  unfold KI
  rw [hk]
  generalize ck B s 4 = r at h ⊢
  clear hk
  refine (con_key_rd (o := 0) (cs := (r.c.cells vt).toList) B h.rd (h.row g) h.le g.hc g.hB g.SC (h.boxes g) h.con (by rw [con_len]; decide) g.TC).mono fun e w' ⟨he, a1, a2, a3⟩ => ⟨he, vt, l, h.next g (rtake_le B _ 8 h.le) a1 ?_ a3⟩
  rw [a2, Nat.zero_add, ckey_splice _ _ _ (rtake_length _ _ _)]
theorem ki_5 (g : KG w0 n C T A c B S) (h : KI w0 n C T A c B s 5 w) :
    Calls Try.prog 89 #[bxv n, bxv (n + 1)] w fun e w' => e = .returned (.tuple #[]) ∧ KI w0 n C T A c B s 6 w' := by
  obtain ⟨vt, l, h⟩ := h
  have hk : ck B s 6 = (fun r : CS => ({ r with c := { r.c with drain := (rnum B 4 r.s).1 }, s := (rnum B 4 r.s).2 } : CS)) (ck B s 5) := rfl
  unfold KI
  rw [hk]
  generalize ck B s 5 = r at h ⊢
  clear hk
  refine (con_drain_rd (o := 0) B h.rd (h.row g) h.le g.hc g.hB g.SC (h.boxes g) h.con (by rw [con_size]; decide) g.TC).mono fun e w' ⟨he, a1, a2, a3⟩ => ⟨he, vt, l, h.next g (rnum_le B 4 _ h.le) a1 ?_ a3⟩
  rw [a2]
  exact congrArg some (con_set _ _ _ _ _ _ rfl)
theorem ki_6 (g : KG w0 n C T A c B S) (h : KI w0 n C T A c B s 6 w) :
    Calls Try.prog 90 #[bxv n, bxv (n + 1), bxv (n + 2)] w fun e w' => e = .returned (.tuple #[]) ∧ KI w0 n C T A c B s 7 w' := by
  obtain ⟨vt, l, h⟩ := h
  have hk : ck B s 7 = (fun r : CS => ({ r with nt := (rnum B 1 r.s).1, s := (rnum B 1 r.s).2 } : CS)) (ck B s 6) := rfl
  unfold KI
  rw [hk]
  generalize ck B s 6 = r at h ⊢
  clear hk
  obtain ⟨P, p, e1, r1⟩ := own_rowAt h.tens.own
  subst e1
  have k1 := g.C_lt
  have k2 := g.T_lt
  refine (con_n_rd (o := 0) B h.rd (h.row g) h.le g.hc g.hB g.SC (h.boxes g) ((blk_cell h.con 28).trans rfl) h.hn (by omega)).mono fun e w' ⟨he, a1, a2, a3⟩ => ⟨he, _, l, ⟨a1, rnum_le B 1 _ h.le, a3.obj h.con (by rintro (f | f); exact g.TC f; omega), h.mod.trans (a3.mono fun b f => by rcases f with f | f; exact .inl f; exact .inr (.inr f)), a2, rnum_lt B 1 _, h.map, h.tens.mod a3 (fun b hb _ f => by rcases f with f | f <;> omega)⟩⟩
theorem ki_7 (g : KG w0 n C T A c B S) (h : KI w0 n C T A c B s 7 w) :
    Calls Try.prog 91 #[bxv n, bxv (n + 2), bxv (n + 1)] w fun e w' => e = .returned (.tuple #[]) ∧ KI w0 n C T A c B s 8 w' := by
  obtain ⟨vt, l, h⟩ := h
  have hk : ck B s 8 = (fun r : CS => ({ r with l := (rmany (rten B) r.nt r.s).1, s := (rmany (rten B) r.nt r.s).2 } : CS)) (ck B s 7) := rfl
  unfold KI
  rw [hk]
  have hl0 : (ck B s 7).l = [] := rfl
  generalize ck B s 7 = r at h hl0 ⊢
  clear hk
  have k1 := g.C_lt
  have k2 := g.T_lt
  have hsz : n + 3 < w.heap.size := Nat.lt_of_lt_of_le (lt_of_block g.rw3) h.mod.size
  refine (con_list_rd (o := 0) B h.rd (h.row g) h.le g.hc g.hB g.SC g.ST (h.boxes g) (by have := h.cnt; omega) (fun b hb => by have := g.S_lt b hb; omega) h.hn h.con (by rw [con_size]; decide) g.TC).mono fun e w' ⟨he, a1, ⟨v, l2, a2, a4, a5⟩, a3⟩ => ⟨he, v, l2, ⟨a1, rmany_le (rten_le B) _ _ h.le, ?_, h.mod.trans (a3.mono fun b f => by rcases f with f | f; exact .inl f; exact .inr (.inl f)), a3.obj h.hn (by rintro (f | f) <;> omega), h.cnt, a4, ?_⟩⟩
  · rw [a2]
    exact congrArg some (con_set _ _ _ _ _ _ rfl)
  · exact ⟨own_base a5.own (by omega), fun x hx => (a5.rows x hx).imp (fun b hb => ⟨by have := hb.1; omega, hb.2⟩)⟩
theorem ki_step (g : KG w0 n C T A c B S) : ∀ k w1 f cc, conFn[k]? = some f → (conCap n)[k]? = some cc → KI w0 n C T A c B s k w1 → w1.heap[n + 3]? = some (.cells (conRow n).toArray 1 (0, 0)) ∧ Calls Try.prog f cc w1 fun e w' => e = .returned (.tuple #[]) ∧ KI w0 n C T A c B s (k + 1) w' := by
  intro k w1 f cc hf hc h
  have hk : k < 8 := (List.getElem?_eq_some_iff.1 hf).1
  have hor : k = 0 ∨ k = 1 ∨ k = 2 ∨ k = 3 ∨ k = 4 ∨ k = 5 ∨ k = 6 ∨ k = 7 := by omega
  refine ⟨?_, ?_⟩
  · obtain ⟨vt, l, h⟩ := h
    exact h.keep g g.rw3 (by omega) (by omega)
  clear hk
  rcases hor with rfl | rfl | rfl | rfl | rfl | rfl | rfl | rfl
  · obtain rfl : 84 = f := Option.some.inj hf; obtain rfl : #[bxv n, bxv (n + 1)] = cc := Option.some.inj hc; exact ki_0 g h
  · obtain rfl : 85 = f := Option.some.inj hf; obtain rfl : #[bxv n, bxv (n + 1)] = cc := Option.some.inj hc; exact ki_1 g h
  · obtain rfl : 86 = f := Option.some.inj hf; obtain rfl : #[bxv n, bxv (n + 1)] = cc := Option.some.inj hc; exact ki_2 g h
  · obtain rfl : 87 = f := Option.some.inj hf; obtain rfl : #[bxv n, bxv (n + 1)] = cc := Option.some.inj hc; exact ki_3 g h
  · obtain rfl : 88 = f := Option.some.inj hf; obtain rfl : #[bxv n, bxv (n + 1)] = cc := Option.some.inj hc; exact ki_4 g h
  · obtain rfl : 89 = f := Option.some.inj hf; obtain rfl : #[bxv n, bxv (n + 1)] = cc := Option.some.inj hc; exact ki_5 g h
  · obtain rfl : 90 = f := Option.some.inj hf; obtain rfl : #[bxv n, bxv (n + 1), bxv (n + 2)] = cc := Option.some.inj hc; exact ki_6 g h
  · obtain rfl : 91 = f := Option.some.inj hf; obtain rfl : #[bxv n, bxv (n + 2), bxv (n + 1)] = cc := Option.some.inj hc; exact ki_7 g h
def zCon : Array Value := Con.zero.cells (.slice none 0 0)
/-- SETTINGS READ. -/
theorem config_rd (hb : w.heap[C]? = some (rdObj A B.length c s.1 s.2)) (hrow : RowAt S w A (bcells B)) (hat : s.1 ≤ B.length) (hc : B.length ≤ c) (hB : B.length ≤ 100000000) (hS : ¬ S C) (hST : ¬ S T) (hSl : ∀ b, S b → b < w.heap.size)
    (hT : w.heap[T]? = some (.cells zCon 38 (0, 0))) (hTC : T ≠ C) :
    Calls Try.prog 51 #[.pointer (some ⟨C, 0, none⟩), .pointer (some ⟨T, 0, none⟩)] w fun e w' => e = .returned (.tuple #[]) ∧ ∃ vt l, l.map (·.t) = (rcon B s).l ∧ (rcon B s).s.1 ≤ B.length ∧ w'.heap[C]? = some (rdObj A B.length c (rcon B s).s.1 (rcon B s).s.2) ∧
      w'.heap[T]? = some (.cells ((rcon B s).c.cells vt) 38 (0, 0)) ∧ TVs w' w.heap.size vt l ∧ Mod (fun b => b = C ∨ b = T) w w' := by
  have hC := lt_of_block hb
  have hTl := lt_of_block hT
  refine config_walk (fun w' => ∃ vt l, l.map (·.t) = (rcon B s).l ∧ (rcon B s).s.1 ≤ B.length ∧ w'.heap[C]? = some (rdObj A B.length c (rcon B s).s.1 (rcon B s).s.2) ∧
      w'.heap[T]? = some (.cells ((rcon B s).c.cells vt) 38 (0, 0)) ∧ TVs w' w.heap.size vt l ∧ Mod (fun b => b = C ∨ b = T) w w') (fun w0 hm hbx h2 h6 => ?_)
  have g : KG w0 w.heap.size C T A c B S := { bx := hbx, rw3 := h6, C_lt := hC, T_lt := hTl, TC := hTC, row := hrow.keeps (hm.keeps (fun _ _ _ f => f)), S_lt := hSl, SC := hS, ST := hST, hc := hc, hB := hB }
  refine ⟨KI w0 w.heap.size C T A c B s, ?_, ki_step g, fun w' ⟨vt, l, h'⟩ => ?_⟩
  · exact ⟨.slice none 0 0, [], ⟨hm.obj hb id, hat, hm.obj hT id, Mod.refl _ _, h2, show (0:Nat) < 256 by decide, rfl, ⟨rfl, .inl ⟨rfl, rfl⟩⟩, by simp⟩⟩
  · have hsz := hm.size
    refine ⟨vt, l, h'.map, h'.le, h'.rd, h'.con, ⟨own_base h'.tens.own (by omega), fun x hx => (h'.tens.rows x hx).imp (fun b hb => ⟨by have := hb.1; omega, hb.2⟩)⟩, ?_⟩
    refine (hm.mono (fun _ f => f.elim)).trans' h'.mod (fun i hi f => ?_)
    rcases f with f | f | f
    · exact .inl f
    · exact .inr f
    · omega
end
end

section
attribute [local go_sem] stPair gtPair gtK8 gtM6 run_store_func
attribute [local go_sem high] neqPair eqK8 eqM6
attribute [local go_sem ↓] load_fold store_fold alloc_fold
open Go.RowKit
set_option linter.unusedVariables false
def conLoad (v : Value) : Sem Value := Instr.loadAt 38 v
theorem con_load_fold (v : Value) : Instr.loadAt 38 v = conLoad v := rfl
attribute [local go_sem ↓] con_load_fold
def chgLoad (v : Value) : Sem Value := Instr.loadAt 35 v
theorem chg_load_fold (v : Value) : Instr.loadAt 35 v = chgLoad v := rfl
attribute [local go_sem ↓] chg_load_fold
theorem conLoad_run {W : World} {b : Nat} {CA : Array Value} (h : W.heap[b]? = some (.cells CA 38 (0, 0))) (hc : CA.size = 29) : (conLoad (.pointer (some ⟨b, 0, none⟩))).run Try.prog W = .ok (.agg CA) W := by
  simp only [conLoad, Instr.loadAt, Instr.sureAddr, Sem.run_bind, Sem.run_pure, Result.andThen_ok]
  exact run_loadVar_row W b _ _ CA (0, 0) _ h Try.underlying38 rfl (by rw [conSize, hc])
theorem chgLoad_run {W : World} {b : Nat} {CA : Array Value} (h : W.heap[b]? = some (.cells CA 35 (0, 0))) (hc : CA.size = 35) : (chgLoad (.pointer (some ⟨b, 0, none⟩))).run Try.prog W = .ok (.agg CA) W := load_chg h hc
/-- The tenant within a change that lies in a block of its own. -/
theorem chgTen_run {W : World} {b : Nat} {put : Bool} {name : List UInt8} {x : TV} (h : W.heap[b]? = some (.cells (cChg put name x) 35 (0, 0))) : (tenLoad (.pointer (some ⟨b, 2, none⟩))).run Try.prog W = .ok (.agg x.cells.toArray) W :=
  tenLoad_mid W b 2 x.cells rfl (fun j v hj => by rw [blk_cell h, cChg2]; exact hj)
end

section
attribute [local go_sem] stPair gtPair gtK8 gtM6 run_store_func
attribute [local go_sem high] neqPair eqK8 eqM6
attribute [local go_sem ↓] load_fold store_fold alloc_fold slice_op_fold con_load_fold chg_load_fold
open Go.RowKit
set_option linter.unusedVariables false
def tenZero : Sem Value := Instr.build 33 #[]
theorem ten_zero_fold (ρ : Operand → Value) (dst : Option Tmp) (ty : TypeId) (pos : String) (after : Array Edge) (g : Option (Nat × Bool)) :
    execOp ρ { dst := dst, op := .build 33 #[], type := ty, pos := pos, after := after, guard := g } = (do pure (Next.value (← tenZero)) : Sem Next) := by
  show (do pure (Next.value (← Instr.build 33 (#[].map fun (i, x) => (i, ρ x)))) : Sem Next) = _
  simp only [Array.map_empty]
  rfl
attribute [local go_sem ↓] ten_zero_fold
theorem tenStore_row {W : World} {b : Nat} {old CA : Array Value} (h : W.heap[b]? = some (.cells old 33 (0, 0))) (ho : old.size = 33) (hc : CA.size = 33) (h1 : CA.all (·.oneCell') = true) :
    (tenStore (.pointer (some ⟨b, 0, none⟩)) (.agg CA)).run Try.prog W = .ok () (W.setRow b CA) := by
  simp only [tenStore, Instr.storeAt, Instr.sureAddr, Sem.run_bind, Sem.run_pure, Result.andThen_ok]
  exact run_storeVar_row _ _ _ _ old CA h (by rw [tenSize, hc]) (by rw [ho, hc]) h1
def TV.zero : TV := ⟨.zero, .slice none 0 0, .slice none 0 0, .slice none 0 0⟩
theorem TV.zero_rows (S : Nat → Prop) (w : World) : TV.zero.Rows S w := ⟨none, 0, none, 0, none, 0, rfl, rfl, rfl, .nil _ _ _, .nil _ _ _, .nil _ _ _⟩
end

section
attribute [local go_sem] stPair gtPair gtK8 gtM6 run_store_func
attribute [local go_sem high] neqPair eqK8 eqM6
attribute [local go_sem ↓] load_fold store_fold alloc_fold slice_op_fold con_load_fold chg_load_fold ten_zero_fold
open Go.RowKit
set_option linter.unusedVariables false
def conAlloc (v : Value) : Sem Value := Instr.alloc 38 true v
theorem con_alloc_fold (v : Value) : Instr.alloc 38 true v = conAlloc v := rfl
attribute [local go_sem ↓] con_alloc_fold
set_option maxRecDepth 100000 in
theorem conAlloc_run (W : World) : (conAlloc (.tuple #[])).run Try.prog W = .ok (.pointer (some ⟨W.heap.size, 0, none⟩)) (W.alloc (.cells zCon 38)) := by kernel_rfl
def conStore (p v : Value) : Sem Unit := Instr.storeAt 38 p v
theorem con_store_fold (p v : Value) : Instr.storeAt 38 p v = conStore p v := rfl
attribute [local go_sem ↓] con_store_fold
theorem conStore_row {W : World} {b : Nat} {old CA : Array Value} (h : W.heap[b]? = some (.cells old 38 (0, 0))) (ho : old.size = 29) (hc : CA.size = 29) (h1 : CA.all (·.oneCell') = true) :
    (conStore (.pointer (some ⟨b, 0, none⟩)) (.agg CA)).run Try.prog W = .ok () (W.setRow b CA) := by
  simp only [conStore, Instr.storeAt, Instr.sureAddr, Sem.run_bind, Sem.run_pure, Result.andThen_ok]
  exact run_storeVar_row _ _ _ _ old CA h (by rw [conSize, hc]) (by rw [ho, hc]) h1
def conZero : Sem Value := Instr.build 38 #[]
theorem con_zero_fold (ρ : Operand → Value) (dst : Option Tmp) (ty : TypeId) (pos : String) (after : Array Edge) (g : Option (Nat × Bool)) :
    execOp ρ { dst := dst, op := .build 38 #[], type := ty, pos := pos, after := after, guard := g } = (do pure (Next.value (← conZero)) : Sem Next) := by
  show (do pure (Next.value (← Instr.build 38 (#[].map fun (i, x) => (i, ρ x)))) : Sem Next) = _
  simp only [Array.map_empty]
  rfl
attribute [local go_sem ↓] con_zero_fold
set_option maxRecDepth 100000 in
theorem conZero_run : ∀ W, conZero.run Try.prog W = .ok (.agg zCon) W := fun W => by kernel_rfl
theorem con_one (c : Con) (P : Option Addr) (a b : Nat) : (c.cells (.slice P a b)).all (·.oneCell') = true := by simp [Con.cells, Value.oneCell', u8v]
/-- What OpenConfig tells: settings, tenants, an error. -/
def ocf (B : List UInt8) : Con × List Ten × Nat := if (rcon B (0, false)).s.2 = false ∧ (rcon B (0, false)).s.1 = B.length then ((rcon B (0, false)).c, (rcon B (0, false)).l, 0) else (.zero, [], 70)
/-- What OpenConfig hands out: settings, an error. -/
def OpenConP (r : Con × List Ten × Nat) (w : World) (e : Ending) (w' : World) : Prop :=
  ∃ vt l, e = .returned (.tuple #[.agg (r.1.cells vt), .int .i64 (r.2.2 : Nat)]) ∧ l.map (·.t) = r.2.1 ∧ TVs w' w.heap.size vt l ∧ Mod No w w'
set_option maxRecDepth 100000 in
set_option maxHeartbeats 1000000 in
theorem openConfig_ok {w : World} {A : Option Addr} {c : Nat} (B : List UInt8) (hrow : RowAt (fun b => b < w.heap.size) w A (bcells B)) (hc : B.length ≤ c) (hB : B.length ≤ 100000000) :
    Calls Try.prog 36 #[.slice A B.length c] w (OpenConP (ocf B) w) := by
  obtain ⟨W, hW⟩ : ∃ W, W = ((w.alloc (.cells zCon 38)).alloc (.cells #[.slice A B.length c, .bool true, .int .i64 0, .bool false] 100)).alloc (.cells zCon 38) := ⟨_, rfl⟩
  have hmW : Mod No w W := by rw [hW]; exact (((Mod.refl _ _).alloc _).alloc _).alloc _
  have hsz : W.heap.size = w.heap.size + 3 := by rw [hW]; simp
  have hX : W.heap[w.heap.size]? = some (.cells zCon 38 (0, 0)) := by rw [hW]; exact at30 w _ _ _
  have hC : W.heap[w.heap.size + 1]? = some (rdObj A B.length c 0 false) := by rw [hW]; exact at31 w _ _ _
  have hT : W.heap[w.heap.size + 1 + 1]? = some (.cells zCon 38 (0, 0)) := by rw [hW]; exact at32 w _ _ _
  have HN := config_rd (w := W) (s := (0, false)) (S := fun b => b < w.heap.size) (C := w.heap.size + 1) (T := w.heap.size + 1 + 1) hC (hrow.keeps (hmW.keeps (fun _ _ _ f => f))) (Nat.zero_le _) hc hB (by omega) (by omega) (fun b hb => by omega) hT (by omega)
  obtain ⟨n, hn⟩ : ∃ n, n = B.length := ⟨_, rfl⟩
  rw [← hn] at hW HN
  rw [← hn]
  obtain ⟨q, hq⟩ : ∃ q, q = rcon B (0, false) := ⟨_, rfl⟩
  have hot : ocf B = if q.s.2 = false ∧ q.s.1 = n then (q.c, q.l, 0) else (.zero, [], 70) := by rw [hq, hn]; rfl
  rw [hot]
  rw [← hq] at HN
  obtain ⟨qc, qn, ql, at_, sh⟩ := q
  obtain ⟨eb, heb⟩ : ∃ eb, eb = (!sh && decide (at_ = n)) := ⟨_, rfl⟩
  have hif : (sh = false ∧ at_ = n) = (eb = true) := by
    rw [heb]
    cases sh <;> simp
  simp only [hif]
  obtain ⟨res, hres0⟩ : ∃ res, res = (if eb = true then (qc, ql, 0) else (Con.zero, [], 70) : Con × List Ten × Nat) := ⟨_, rfl⟩
  rw [← hres0]
  have HRES := Lib.hid hres0
  clear hres0
  have HN := Lib.hid HN
  have HM := Lib.hid (And.intro hmW (And.intro hX (And.intro hsz heb)))
  have HW := Lib.hid hW
  have hal := conAlloc_run
  have hzr := conZero_run
  clear hmW hX hC hW hT hrow hc hB hn hot hq hsz heb hif
  cases eb
  · go_enter Try.func36, Try.ntmps36
    go_wp2_with fail
    rw [← HW.out]
    refine HN.out.mono ?_
    rintro e w1 ⟨rfl, vt, l, k0, kl, k1, k2, kr, k3⟩
    have hX1 := k3.obj HM.out.2.1 (by rintro (f | f) <;> omega)
    have hE := ended_ok k1
    have hst : ∀ q, (conStore (.pointer (some ⟨w.heap.size, 0, none⟩)) (.agg zCon)).run Try.prog (w1.drewN q) = .ok () ((w1.drewN q).setRow w.heap.size zCon) := fun q => conStore_row (old := zCon) hX1 rfl rfl (con_one .zero none 0 0)
    have hres : ∀ q, ((w1.drewN q).setRow w.heap.size zCon).heap[w.heap.size]? = some (.cells zCon 38 (0, 0)) := fun q => setRow_heap (w1.drewN q) w.heap.size _ zCon _ _ hX1
    rw [← HM.out.2.2.2] at hE
    have HE := Lib.hid hE
    have H1 := Lib.hid (And.intro hres k3)
    clear k0 kl k1 k2 kr k3 hX1 hres hE
    go_wp2_with (first | (go_at_call 49; refine HE.out.mono ?_; rintro e w5 ⟨rfl, q5, rfl⟩; have hst5 := hst q5) | fail)
    refine bodyPost_ret (results_cell_tmp rfl _ _ w.heap.size 38 zCon (0, 0) _ rfl (H1.out.1 q5) Try.underlying38 rfl (by rw [conSize]; rfl)) rfl ?_
    rw [HRES.out, if_neg (by decide)]
    refine ⟨.slice none 0 0, [], rfl, rfl, ⟨⟨rfl, .inl ⟨rfl, rfl⟩⟩, by simp⟩, ?_⟩
    have m1 : Mod No w w1 := HM.out.1.trans' H1.out.2 (fun i hi f => by rcases f with f | f <;> omega)
    exact (m1.drewN q5).trans' (setRow_mod zCon) (fun i hi f => by omega)
  · go_enter Try.func36, Try.ntmps36
    go_wp2_with fail
    rw [← HW.out]
    refine HN.out.mono ?_
    rintro e w1 ⟨rfl, vt, l, k0, kl, k1, k2, kr, k3⟩
    obtain ⟨P, p, e1, _⟩ := own_rowAt kr.own
    have hX1 := k3.obj HM.out.2.1 (by rintro (f | f) <;> omega)
    have hE := ended_ok k1
    rw [← HM.out.2.2.2] at hE
    obtain ⟨TA, hTA⟩ : ∃ TA, TA = qc.cells vt := ⟨_, rfl⟩
    have hTs : TA.size = 29 := by rw [hTA]; rfl
    have hone : TA.all (·.oneCell') = true := by rw [hTA, e1]; exact con_one _ _ _ _
    have hT1 : w1.heap[w.heap.size + 1 + 1]? = some (.cells TA 38 (0, 0)) := by rw [hTA]; exact k2
    have hld : ∀ q, (conLoad (.pointer (some ⟨w.heap.size + 1 + 1, 0, none⟩))).run Try.prog (w1.drewN q) = .ok (.agg TA) (w1.drewN q) := fun q => conLoad_run (W := w1.drewN q) hT1 hTs
    have hst : ∀ q, (conStore (.pointer (some ⟨w.heap.size, 0, none⟩)) (.agg TA)).run Try.prog (w1.drewN q) = .ok () ((w1.drewN q).setRow w.heap.size TA) := fun q => conStore_row (old := zCon) hX1 rfl hTs hone
    have hres : ∀ q, ((w1.drewN q).setRow w.heap.size TA).heap[w.heap.size]? = some (.cells TA 38 (0, 0)) := fun q => setRow_heap (w1.drewN q) w.heap.size _ TA _ _ hX1
    have HE := Lib.hid hE
    have H1 := Lib.hid (And.intro hres (And.intro k3 (And.intro k0 (And.intro kr (And.intro hTA hTs)))))
    clear k0 kl k1 k2 kr k3 hX1 hres hE e1 hT1 hone hTA hTs
    go_wp2_with (first | (go_at_call 49; refine HE.out.mono ?_; rintro e w5 ⟨rfl, q5, rfl⟩; have hst5 := hst q5; have hld5 := hld q5) | fail)
    refine bodyPost_ret (results_cell_tmp rfl _ _ w.heap.size 38 TA (0, 0) _ rfl (H1.out.1 q5) Try.underlying38 rfl (by rw [conSize, H1.out.2.2.2.2.2])) rfl ?_
    have m1 : Mod No w w1 := HM.out.1.trans' H1.out.2.1 (fun i hi f => by rcases f with f | f <;> omega)
    have m2 : Mod (fun b => b = w.heap.size) w1 ((w1.drewN q5).setRow w.heap.size TA) := ((Mod.refl (fun b => b = w.heap.size) w1).drewN q5).trans (setRow_mod TA)
    have hs3 := HM.out.2.2.1
    have htv := H1.out.2.2.2.1.mod m2 (fun b hb _ f => by omega)
    rw [HRES.out, if_pos (by trivial)]
    refine ⟨vt, l, by rw [H1.out.2.2.2.2.1]; rfl, H1.out.2.2.1, ⟨own_base htv.own (by omega), fun x hx => (htv.rows x hx).imp (fun b hb => ⟨by have := hb.1; omega, hb.2⟩)⟩, ?_⟩
    exact m1.trans' m2 (fun i hi f => by omega)
end

section
attribute [local go_sem] stPair gtPair gtK8 gtM6 run_store_func
attribute [local go_sem high] neqPair eqK8 eqM6
attribute [local go_sem ↓] load_fold store_fold alloc_fold slice_op_fold con_load_fold chg_load_fold ten_zero_fold con_alloc_fold con_store_fold con_zero_fold
open Go.RowKit
set_option linter.unusedVariables false
def chgAlloc (v : Value) : Sem Value := Instr.alloc 35 true v
theorem chg_alloc_fold (v : Value) : Instr.alloc 35 true v = chgAlloc v := rfl
attribute [local go_sem ↓] chg_alloc_fold
theorem chgAlloc_run (W : World) : (chgAlloc (.tuple #[])).run Try.prog W = .ok (.pointer (some ⟨W.heap.size, 0, none⟩)) (W.alloc (.cells zChg 35)) := alloc_chg W
def chgStore (p v : Value) : Sem Unit := Instr.storeAt 35 p v
theorem chg_store_fold (p v : Value) : Instr.storeAt 35 p v = chgStore p v := rfl
attribute [local go_sem ↓] chg_store_fold
theorem chgStore_row {W : World} {b : Nat} {old CA : Array Value} (h : W.heap[b]? = some (.cells old 35 (0, 0))) (ho : old.size = 35) (hc : CA.size = 35) (h1 : CA.all (·.oneCell') = true) :
    (chgStore (.pointer (some ⟨b, 0, none⟩)) (.agg CA)).run Try.prog W = .ok () (W.setRow b CA) := store_chg h ho hc h1
def chgZero : Sem Value := Instr.build 35 #[]
theorem chg_zero_fold (ρ : Operand → Value) (dst : Option Tmp) (ty : TypeId) (pos : String) (after : Array Edge) (g : Option (Nat × Bool)) :
    execOp ρ { dst := dst, op := .build 35 #[], type := ty, pos := pos, after := after, guard := g } = (do pure (Next.value (← chgZero)) : Sem Next) := by
  show (do pure (Next.value (← Instr.build 35 (#[].map fun (i, x) => (i, ρ x)))) : Sem Next) = _
  simp only [Array.map_empty]
  rfl
attribute [local go_sem ↓] chg_zero_fold
theorem chgZero_run : ∀ W, chgZero.run Try.prog W = .ok (.agg zChg) W := build_chg
def chgPut (v : Value) : Sem Value := Instr.build 35 #[(0, v)]
theorem chg_put_fold (ρ : Operand → Value) (x : Operand) (dst : Option Tmp) (ty : TypeId) (pos : String) (after : Array Edge) (g : Option (Nat × Bool)) :
    execOp ρ { dst := dst, op := .build 35 #[(0, x)], type := ty, pos := pos, after := after, guard := g } = (do pure (Next.value (← chgPut (ρ x))) : Sem Next) := by
  show (do pure (Next.value (← Instr.build 35 (#[(0, x)].map fun (i, x) => (i, ρ x)))) : Sem Next) = _
  have hm : (#[((0 : Nat), x)].map fun (i, x) => (i, ρ x)) = #[(0, ρ x)] := by simp
  rw [hm]
  rfl
attribute [local go_sem ↓] chg_put_fold
def chg1 : Array Value := chgCells true [] .zero (.slice none 0 0) (.slice none 0 0) (.slice none 0 0)
theorem chgPut_run : ∀ W, (chgPut (.bool true)).run Try.prog W = .ok (.agg chg1) W := fun W => by kernel_rfl
theorem chg1_one : chg1.all (·.oneCell') = true := by simp [chg1, chgCells, Ten.cells, Value.oneCell']
theorem chg1_eq : chg1 = ([Value.bool true, .string (str [])] ++ zTen.toList ++ []).toArray := rfl
theorem cChg_at2 (put : Bool) (name : List UInt8) (x : TV) : (cChg put name x)[2]? = some (.string (str x.t.name)) := by
  have := cChg2 put name x 0
  rw [Nat.add_zero] at this
  rw [this]
  rfl
theorem cChg_set1 (put : Bool) (name name' : List UInt8) (x : TV) : (cChg put name x).setIfInBounds 1 (.string (str name')) = cChg put name' x := by
  apply Array.toList_inj.1
  simp only [cChg, Array.toList_setIfInBounds, Array.toList_append]
  rfl
theorem cChg_one {S : Nat → Prop} {w : World} (put : Bool) (name : List UInt8) {x : TV} (h : x.Rows S w) : (cChg put name x).all (·.oneCell') = true := by
  have := TV.one h
  rw [cChg, Array.all_append]
  simp only [this, Bool.and_true]
  simp [Value.oneCell']
/-- What OpenChange tells: a change, an error. -/
def ocg : List UInt8 → Bool × List UInt8 × Ten × Nat
  | [] => (false, [], .zero, 70)
  | b :: r => if 1 < b.toNat then (false, [], .zero, 70) else
    if b = 1 then (if (rten (b :: r) (1, false)).2 = (r.length + 1, false) then (true, (rten (b :: r) (1, false)).1.name, (rten (b :: r) (1, false)).1, 0) else (false, [], .zero, 70))
    else (if (rname (b :: r) (1, false)).2 = (r.length + 1, false) then (false, (rname (b :: r) (1, false)).1, .zero, 0) else (false, [], .zero, 70))
def OpenChgP (r : Bool × List UInt8 × Ten × Nat) (w : World) (e : Ending) (w' : World) : Prop :=
  ∃ x : TV, e = .returned (.tuple #[.agg (cChg r.1 r.2.1 x), .int .i64 (r.2.2.2 : Nat)]) ∧ x.t = r.2.2.1 ∧ x.Rows (fun b => w.heap.size ≤ b) w' ∧ Mod No w w'
theorem openChg_none {w w' : World} {e : Ending} (he : e = .returned (.tuple #[.agg zChg, .int .i64 70])) (hm : Mod No w w') : OpenChgP (false, [], .zero, 70) w e w' := ⟨TV.zero, by rw [he]; rfl, rfl, TV.zero_rows _ _, hm⟩
set_option maxRecDepth 100000 in
set_option maxHeartbeats 1000000 in
theorem openChange_put {w : World} (A : Option Addr) (c : Nat) (r : List UInt8) (hrow : RowAt (fun b => b < w.heap.size) w A (bcells (1 :: r))) (hc : r.length + 1 ≤ c) (hB : r.length + 1 ≤ 100000000) :
    Calls Try.prog 32 #[.slice A (r.length + 1) c] w (OpenChgP (if (rten (1 :: r) (1, false)).2 = (r.length + 1, false) then (true, (rten (1 :: r) (1, false)).1.name, (rten (1 :: r) (1, false)).1, 0) else (false, [], .zero, 70)) w) := by
  obtain ⟨b, o, rfl, hbw, hlt, hcl⟩ := hrow.open (by simp [bcells])
  have c0 := hcl 0 (.int .u8 1) rfl
  rw [Nat.add_zero] at c0
  obtain ⟨B, hB1⟩ : ∃ B, B = (1 : UInt8) :: r := ⟨_, rfl⟩
  obtain ⟨n, hn⟩ : ∃ n, n = r.length + 1 := ⟨_, rfl⟩
  have hBn : B.length = n := by rw [hB1, hn]; rfl
  have p0 : ((n : Int) == 0) = false := by rw [beq_eq_false_iff_ne]; omega
  have p1 : (0 : Int) < n := by omega
  rw [← hB1] at hrow
  rw [← hB1, ← hn]
  rw [← hn] at hc hB
  obtain ⟨W, hW⟩ : ∃ W, W = ((w.alloc (.cells zChg 35)).alloc (.cells #[.slice (some ⟨b, o, none⟩) n c, .bool true, .int .i64 1, .bool false] 100)).alloc (.cells zChg 35) := ⟨_, rfl⟩
  obtain ⟨W2, hW2⟩ : ∃ W2, W2 = W.setRow (w.heap.size + 1 + 1) chg1 := ⟨_, rfl⟩
  have hmW : Mod No w W := by rw [hW]; exact (((Mod.refl _ _).alloc _).alloc _).alloc _
  have hsz : W.heap.size = w.heap.size + 3 := by rw [hW]; simp
  have hX : W.heap[w.heap.size]? = some (.cells zChg 35 (0, 0)) := by rw [hW]; exact at30 w _ _ _
  have hC : W.heap[w.heap.size + 1]? = some (rdObj (some ⟨b, o, none⟩) n c 1 false) := by rw [hW]; exact at31 w _ _ _
  have hT : W.heap[w.heap.size + 1 + 1]? = some (.cells zChg 35 (0, 0)) := by rw [hW]; exact at32 w _ _ _
  have hm2 : Mod (fun b => b = w.heap.size + 1 + 1) W W2 := by rw [hW2]; exact setRow_mod _
  have hs2 : W2.heap.size = w.heap.size + 3 := by rw [← hsz, hW2]; simp [World.setRow]
  have hT2 : W2.heap[w.heap.size + 1 + 1]? = some (.cells chg1 35 (0, 0)) := by rw [hW2]; exact setRow_heap _ _ _ _ _ _ hT
  have hX2 := hm2.obj hX (by omega)
  have hC2 := hm2.obj hC (by omega)
  have hmw2 : Mod No w W2 := hmW.trans' hm2 (fun i hi f => by omega)
  have hst1 : (chgStore (.pointer (some ⟨w.heap.size + 1 + 1, 0, none⟩)) (.agg chg1)).run Try.prog W = .ok () W2 := by rw [hW2]; exact chgStore_row hT zSize (chg_size _ _ _ _ _ _) chg1_one
  have d0 : W2.cell? ⟨w.heap.size + 1 + 1, 0, none⟩ = some (.bool true) := (blk_cell hT2 0).trans rfl
  have hlT2 := lt_of_block hT2
  have HN := tenant_rd (w := W2) (s0 := (1, false)) (S := fun b => b < w.heap.size) B (by rw [hBn]; exact hC2) (hrow.keeps (hmw2.keeps (fun _ _ _ f => f))) (by omega) (by omega) (by omega) (by omega) (T := w.heap.size + 1 + 1) (o := 2) (by omega) (fun b hb => by omega) (pre := [.bool true, .string (str [])]) (post := []) (tt := 35) (by rw [hT2, chg1_eq]) rfl (by omega)
  obtain ⟨q, hq⟩ : ∃ q, q = rten B (1, false) := ⟨_, rfl⟩
  rw [← hq]
  rw [← hq] at HN
  obtain ⟨qt, at_, sh⟩ := q
  obtain ⟨eb, heb⟩ : ∃ eb, eb = (!sh && decide (at_ = B.length)) := ⟨_, rfl⟩
  have hif : ((at_, sh) = (n, false)) = (eb = true) := by
    rw [heb, hBn]
    cases sh <;> simp
  simp only [hif]
  obtain ⟨res, hres0⟩ : ∃ res, res = (if eb = true then (true, qt.name, qt, 0) else (false, [], Ten.zero, 70) : Bool × List UInt8 × Ten × Nat) := ⟨_, rfl⟩
  rw [← hres0]
  have HRES := Lib.hid hres0
  have HN := Lib.hid HN
  have HM := Lib.hid (And.intro hmw2 (And.intro hX2 (And.intro hs2 heb)))
  have HW := Lib.hid hW
  have hal := chgAlloc_run
  have hzr := chgZero_run
  have hpr := chgPut_run
  rw [hW] at hst1
  clear hmW hX hC hW hT hrow hc hB hn hq hsz heb hif hres0 hm2 hs2 hT2 hX2 hC2 hmw2 hW2 hB1 hBn hcl
  have c1 : ((w.alloc (.cells zChg 35)).alloc (.cells #[.slice (some ⟨b, o, none⟩) n c, .bool true, .int .i64 1, .bool false] 100)).cell? ⟨b, o, none⟩ = some (.int .u8 1) := (((Mod.refl No w).alloc _).alloc _).cell c0 id
  go_enter Try.func32, Try.ntmps32
  go_wp2_with fail
  refine HN.out.mono ?_
  rintro e w1 ⟨rfl, x, k0, kl, k1, k2, kr, k3⟩
  have hX1 := k3.obj HM.out.2.1 (by rintro (f | f) <;> omega)
  have hs2 := HM.out.2.2.1
  have hm1 : Mod No w w1 := HM.out.1.trans' k3 (fun i hi f => by rcases f with f | f <;> omega)
  rw [List.append_nil] at k2
  -- the name goes where a change's name is
  have hbl : w1.heap[w.heap.size + 1 + 1]? = some (.cells (cChg true [] x) 35 (0, 0)) := by rw [k2]; simp [cChg]
  have dn : w1.cell? ⟨w.heap.size + 1 + 1, 2, none⟩ = some (.string (str x.t.name)) := (blk_cell hbl 2).trans (cChg_at2 _ _ _)
  have d1 : w1.cell? ⟨w.heap.size + 1 + 1, 1, none⟩ = some (.string (str [])) := (blk_cell hbl 1).trans (cChg1 _ _ _)
  have f1 := blk_free hbl 1
  have hb2 : (w1.setCell ⟨w.heap.size + 1 + 1, 1, none⟩ (.string (str x.t.name))).heap[w.heap.size + 1 + 1]? = some (.cells (cChg true x.t.name x) 35 (0, 0)) := by
    rw [heap_setCell_row hbl, cChg_set1]
  obtain ⟨CX, hCX⟩ : ∃ CX, CX = cChg true x.t.name x := ⟨_, rfl⟩
  have hone : CX.all (·.oneCell') = true := by rw [hCX]; exact cChg_one _ _ kr
  have hCs : CX.size = 35 := by rw [hCX]; exact cChg_size _ _ _
  rw [← hCX] at hb2
  have hms : Mod (fun b => b = w.heap.size + 1 + 1) w1 (w1.setCell ⟨w.heap.size + 1 + 1, 1, none⟩ (.string (str x.t.name))) := Mod.setCell (p := ⟨w.heap.size + 1 + 1, 1, none⟩) (Mod.refl (fun b => b = w.heap.size + 1 + 1) w1) (.inr rfl) _
  have hC2 := hms.obj k1 (by omega)
  have hX2 := hms.obj hX1 (by omega)
  have hE := ended_ok hC2
  rw [← HM.out.2.2.2] at hE
  obtain ⟨w4, hw4⟩ : ∃ w4, w4 = w1.setCell ⟨w.heap.size + 1 + 1, 1, none⟩ (.string (str x.t.name)) := ⟨_, rfl⟩
  rw [← hw4] at hb2 hC2 hX2 hE hms
  have hld : ∀ q, (chgLoad (.pointer (some ⟨w.heap.size + 1 + 1, 0, none⟩))).run Try.prog (w4.drewN q) = .ok (.agg CX) (w4.drewN q) := fun q => chgLoad_run (W := w4.drewN q) hb2 hCs
  have hst : ∀ q CA, CA.size = 35 → CA.all (·.oneCell') = true → (chgStore (.pointer (some ⟨w.heap.size, 0, none⟩)) (.agg CA)).run Try.prog (w4.drewN q) = .ok () ((w4.drewN q).setRow w.heap.size CA) := fun q CA h1 h2 => chgStore_row (old := zChg) hX2 zSize h1 h2
  have hres : ∀ q CA, ((w4.drewN q).setRow w.heap.size CA).heap[w.heap.size]? = some (.cells CA 35 (0, 0)) := fun q CA => setRow_heap (w4.drewN q) w.heap.size _ CA _ _ hX2
  have hm4 : Mod No w w4 := hm1.trans' hms (fun i hi f => by omega)
  have hkr4 : x.Rows (fun b => w.heap.size + 3 ≤ b) w4 := (kr.imp (S' := fun b => w.heap.size + 3 ≤ b) (fun b hb => by omega)).keeps (hms.keeps (fun b _ hb f => by omega))
  have HE := Lib.hid hE
  have H4 := Lib.hid (And.intro hres (And.intro hm4 (And.intro hkr4 (And.intro k0 (And.intro hCX hCs)))))
  have HST := Lib.hid hst
  have HW4 := Lib.hid hw4
  have HO := Lib.hid hone
  have HLD := Lib.hid hld
  clear k0 kl k1 k2 kr k3 hX1 hs2 hm1 hbl hb2 hone hCs hms hC2 hX2 hE hw4 hld hst hres hm4 hkr4 hCX
  go_upto_region 9 with fail
  rw [← HW4.out]
  have fin : ∀ q5 CA, Mod No w ((w4.drewN q5).setRow w.heap.size CA) := fun q5 CA => (H4.out.2.1.drewN q5).trans' (setRow_mod CA) (fun i hi f => by omega)
  have HF := Lib.hid fin
  clear fin
  cases eb
  · go_wp2_with (first | (go_at_call 49; refine HE.out.mono ?_; rintro e w5 ⟨rfl, q5, rfl⟩; have hst5 := HST.out q5 zChg zSize zOne) | fail)
    refine bodyPost_ret (results_cell_tmp rfl _ _ w.heap.size 35 zChg (0, 0) _ rfl (H4.out.1 q5 zChg) Try.underlying35 rfl (by rw [chgSize, zSize])) rfl ?_
    rw [HRES.out, if_neg (by decide)]
    exact openChg_none rfl (HF.out _ _)
  · go_wp2_with (first | (go_at_call 49; refine HE.out.mono ?_; rintro e w5 ⟨rfl, q5, rfl⟩; have hst5 := HST.out q5 CX H4.out.2.2.2.2.2 HO.out; have hld5 := HLD.out q5) | fail)
    refine bodyPost_ret (results_cell_tmp rfl _ _ w.heap.size 35 CX (0, 0) _ rfl (H4.out.1 q5 CX) Try.underlying35 rfl (by rw [chgSize, H4.out.2.2.2.2.2])) rfl ?_
    rw [HRES.out, if_pos (by trivial)]
    refine ⟨x, ?_, H4.out.2.2.2.1, ?_, HF.out _ _⟩
    · rw [H4.out.2.2.2.2.1, H4.out.2.2.2.1]; rfl
    · have hk : Mod (fun b => b = w.heap.size) w4 ((w4.drewN q5).setRow w.heap.size CX) := ((Mod.refl (fun b => b = w.heap.size) w4).drewN q5).trans (setRow_mod CX)
      exact (H4.out.2.2.1.keeps (hk.keeps (fun b _ hb f => by omega))).imp (fun b hb => by omega)
theorem openChange_ok {w : World} {A : Option Addr} {c : Nat} (B : List UInt8) (hrow : RowAt (fun b => b < w.heap.size) w A (bcells B)) (hc : B.length ≤ c) (hB : B.length ≤ 100000000) :
    Calls Try.prog 32 #[.slice A B.length c] w (OpenChgP (ocg B) w) := by
  match B, hrow, hc, hB with
  | [], hrow, hc, hB => exact (openChange_nil A c).mono fun e w' ⟨h1, h2⟩ => openChg_none h1 h2
  | b :: r, hrow, hc, hB =>
    by_cases h1 : 1 < b.toNat
    · have : ocg (b :: r) = (false, [], .zero, 70) := by simp [ocg, h1]
      rw [this]
      exact (openChange_bad A _ c b r hrow rfl h1).mono fun e w' ⟨h1, h2⟩ => openChg_none h1 h2
    · by_cases h2 : b = 1
      · subst h2
        have : ocg (1 :: r) = (if (rten (1 :: r) (1, false)).2 = (r.length + 1, false) then (true, (rten (1 :: r) (1, false)).1.name, (rten (1 :: r) (1, false)).1, 0) else (false, [], .zero, 70)) := by
          have : ¬ 1 < (1 : UInt8).toNat := h1
          simp only [ocg, if_neg this, if_pos]
        rw [this]
        exact openChange_put A c r hrow hc hB
      · have hb0 : b = 0 := by
          apply UInt8.toNat_inj.1
          have : b.toNat ≠ 1 := fun e => h2 (UInt8.toNat_inj.1 e)
          simp; omega
        subst hb0
        have : ocg (0 :: r) = (if (rname (0 :: r) (1, false)).2 = (r.length + 1, false) then (false, (rname (0 :: r) (1, false)).1, .zero, 0) else (false, [], .zero, 70)) := by
          simp only [ocg, if_neg h1, if_neg h2]
        rw [this]
        refine (openChange_name A _ c r hrow rfl hc hB).mono fun e w' ⟨h1, h2⟩ => ?_
        by_cases hq : (rname (0 :: r) (1, false)).2 = (r.length + 1, false)
        · rw [if_pos hq] at h1 ⊢
          exact ⟨TV.zero, by rw [h1]; rfl, rfl, TV.zero_rows _ _, h2⟩
        · rw [if_neg hq] at h1 ⊢
          exact openChg_none h1 h2
end

section
attribute [local go_sem] stPair gtPair gtK8 gtM6 run_store_func
attribute [local go_sem high] neqPair eqK8 eqM6
attribute [local go_sem ↓] load_fold store_fold alloc_fold slice_op_fold con_load_fold chg_load_fold ten_zero_fold con_alloc_fold con_store_fold con_zero_fold chg_alloc_fold chg_store_fold chg_zero_fold chg_put_fold
open Go.RowKit
set_option linter.unusedVariables false
set_option linter.unusedSimpArgs false
/-- The reference's reader. -/
def rrObj (A : Option Addr) (n c at_ : Nat) (sh : Bool) : Obj := .cells #[.slice A n c, .int .i64 at_, .bool sh] 88 (0, 0)
theorem rr_set1 (A : Option Addr) (n c at_ : Nat) (sh : Bool) {w : World} {C : Nat} (h : w.heap[C]? = some (rrObj A n c at_ sh)) (k : Nat) (x : Int) (hx : x = (k : Int)) : (w.setCell ⟨C, 1, none⟩ (.int .i64 x)).heap[C]? = some (rrObj A n c k sh) := by
  subst hx; rw [rrObj] at h; rw [heap_setCell_row h]; simp [rrObj]
theorem rr_set2 (A : Option Addr) (n c at_ : Nat) (sh : Bool) {w : World} {C : Nat} (h : w.heap[C]? = some (rrObj A n c at_ sh)) (b : Bool) : (w.setCell ⟨C, 2, none⟩ (.bool b)).heap[C]? = some (rrObj A n c at_ b) := by
  rw [rrObj] at h; rw [heap_setCell_row h]; simp [rrObj]
set_option maxRecDepth 100000 in
theorem rr_take {S : Nat → Prop} {w : World} {C : Nat} {A : Option Addr} {c at_ : Nat} {sh : Bool} (B : List UInt8) (hb : w.heap[C]? = some (rrObj A B.length c at_ sh)) (hrow : RowAt S w A (bcells B)) (hat : at_ ≤ B.length) (hc : B.length ≤ c) (hB : B.length ≤ 100000000) (k : Nat) (hk : k ≤ 100000000) (hS : ¬ S C) :
    Calls Try.prog 52 #[.pointer (some ⟨C, 0, none⟩), .int .i64 k] w fun e w' => ∃ A' c', e = .returned (.slice A' k c') ∧ k ≤ c' ∧ RowAt (fun b => S b ∨ w.heap.size ≤ b) w' A' (bcells (rtake B (at_, sh) k).1) ∧
      w'.heap[C]? = some (rrObj A B.length c (rtake B (at_, sh) k).2.1 (rtake B (at_, sh) k).2.2) ∧ Mod (fun b => b = C) w w' := by
  obtain ⟨n, hn⟩ : ∃ n, n = B.length := ⟨_, rfl⟩
  rw [← hn] at hb hat hc hB
  rw [← hn]
  have hlt := lt_of_block hb
  have c0 := blk_cell hb 0
  have c1 := blk_cell hb 1
  have c2 := blk_cell hb 2
  have f1 := blk_free hb 1
  have f2 := blk_free hb 2
  simp at c0 c1 c2
  have HB := Lib.hid hb
  have HR := Lib.hid hrow
  have HN := Lib.hid hn
  have HAT := Lib.hid hat
  have hmk := make_bytes k hk
  have HS := Lib.hid hS
  have HSH := Lib.hid (rtake_short (B := B) (s := (at_, sh)) (k := k))
  have HFU := Lib.hid (rtake_full (B := B) (s := (at_, sh)) (k := k))
  clear hb hrow hn hS
  by_cases hsh : sh = true
  · have HE := Lib.hid (HSH.out (.inl hsh))
    subst hsh
    go_enter Try.func52, Try.ntmps52
    go_wp2
    go_quiet (fail)
    go_wp2
    go_ret
    rw [HE.out]
    refine ⟨_, _, rfl, Nat.le_refl _, ?_, ?_, ?_⟩
    · have := row_new S ((w.drewN nq).setCell ⟨C, 2, none⟩ (.bool true)) (List.replicate k 0)
      simpa using this
    · exact (Below.heap_alloc _ _ _ (by simpa using hlt)).trans (rr_set2 A n c at_ true (w := w.drewN nq) HB.out true)
    · repeat (first | with_reducible exact Mod.refl _ _ | refine Mod.alloc ?_ _ | refine Mod.drewN ?_ _ | refine Mod.setCell ?_ (.inr (by rfl)) _)
  · have hshf : sh = false := by simpa using hsh
    subst hshf
    by_cases hlen : n - at_ < k
    · have HE := Lib.hid (HSH.out (.inr (by rw [← HN.out]; exact hlen)))
      have p1 : (n : Int) - at_ < k := by omega
      have p2 : decide ((n : Int) - at_ < k) = true := by simpa using p1
      clear hlen hsh
      go_enter Try.func52, Try.ntmps52
      go_wp2
      go_quiet (fail)
      go_wp2
      go_ret
      rw [HE.out]
      refine ⟨_, _, rfl, Nat.le_refl _, ?_, ?_, ?_⟩
      · have := row_new S ((w.drewN nq).setCell ⟨C, 2, none⟩ (.bool true)) (List.replicate k 0)
        simpa using this
      · exact (Below.heap_alloc _ _ _ (by simpa using hlt)).trans (rr_set2 A n c at_ false (w := w.drewN nq) HB.out true)
      · repeat (first | with_reducible exact Mod.refl _ _ | refine Mod.alloc ?_ _ | refine Mod.drewN ?_ _ | refine Mod.setCell ?_ (.inr (by rfl)) _)
    · have HE := Lib.hid (HFU.out (by rw [← HN.out]; simp; omega))
      have p1 : ¬ ((n : Int) - at_ < k) := by omega
      have p2 : decide ((n : Int) - at_ < k) = false := by simpa using p1
      have p3 : (at_ : Int) + k ≤ n := by omega
      have p4 : (at_ : Int) + k - k = at_ := by omega
      obtain ⟨A', hsl, hA'⟩ := own_row_bytes n c at_ k A (by omega) hc
      have HA := Lib.hid hA'
      clear hlen hsh hA'
      go_enter Try.func52, Try.ntmps52
      go_wp2
      go_quiet (fail)
      go_wp2
      obtain ⟨q1, hq1⟩ : ∃ q1, q1 = nq := ⟨_, rfl⟩
      rw [← hq1]
      clear hq1
      clear nq
      go_quiet (fail)
      go_wp2
      go_ret
      rw [HE.out]
      have hm : Mod (fun b => b = C) w (((w.drewN q1).setCell ⟨C, 1, none⟩ (.int .i64 ((at_ : Int) + k))).drewN nq) := by
        repeat (first | with_reducible exact Mod.refl _ _ | refine Mod.alloc ?_ _ | refine Mod.drewN ?_ _ | refine Mod.setCell ?_ (.inr (by rfl)) _)
      refine ⟨A', _, rfl, by have := HAT.out; omega, ?_, ?_, hm⟩
      · have h1 := HA.out S _ _ (HR.out.keeps (hm.keeps (fun b _ hb e => HS.out (by subst e; exact hb))))
        have e : bcells ((B.drop at_).take k) = ((bcells B).drop at_).take k := by simp [bcells]
        rw [e]
        exact h1.mono (fun _ _ h => .inl h)
      · exact rr_set1 A n c at_ false (w := w.drewN q1) HB.out (at_ + k) _ (by omega)
/-! ### a number -/
set_option maxRecDepth 100000 in
theorem rr_n {S : Nat → Prop} {w : World} {C : Nat} {A : Option Addr} {c : Nat} {s : St} (B : List UInt8) (hb : w.heap[C]? = some (rrObj A B.length c s.1 s.2)) (hrow : RowAt S w A (bcells B)) (hat : s.1 ≤ B.length) (hc : B.length ≤ c) (hB : B.length ≤ 100000000) (size : Nat) (hk : size ≤ 7) (hS : ¬ S C) :
    Calls Try.prog 39 #[.pointer (some ⟨C, 0, none⟩), .int .i64 size] w fun e w' => e = .returned (.int .u64 ((rnum B size s).1 : Nat)) ∧ w'.heap[C]? = some (rrObj A B.length c (rnum B size s).2.1 (rnum B size s).2.2) ∧ Mod (fun b => b = C) w w' := by
  obtain ⟨at_, sh⟩ := s
  have HT := Lib.hid (rr_take B hb hrow hat hc hB size (by omega) hS)
  have hxl := rtake_length B (at_, sh) size
  rw [show rnum B size (at_, sh) = (beval (rtake B (at_, sh) size).1, (rtake B (at_, sh) size).2) from rfl]
  obtain ⟨xs, hxs⟩ : ∃ xs, xs = (rtake B (at_, sh) size).1 := ⟨_, rfl⟩
  obtain ⟨st, hst⟩ : ∃ st, st = (rtake B (at_, sh) size).2 := ⟨_, rfl⟩
  rw [← hxs] at hxl
  rw [← hxs, ← hst] at HT
  rw [← hxs, ← hst]
  have HXL := Lib.hid hxl
  clear hxl hb hrow hS hxs hst
  go_enter Try.func39, Try.ntmps39
  go_wp2_with (first | (go_at_call 52; refine HT.out.mono ?_; rintro e w1 ⟨A', c', rfl, hcc, hr1, hb1, hm1⟩; have HR1 := Lib.hid (And.intro hr1 (And.intro hb1 hm1)); clear hr1 hb1 hm1) | fail)
  go_loopw [5, 7] (fun v i wr => ∃ (k m : Nat), i = .int .i64 k ∧ v = .int .u64 m ∧ k ≤ size ∧ m = beval (xs.take k) ∧ wr = w1) (fun _ i _ => size - (intOf i).toNat)
  case atStart => exact ⟨0, 0, rfl, rfl, by omega, by simp [beval], rfl⟩
  case round =>
    obtain ⟨k, m, rfl, rfl, hk1, hm, rfl⟩ := hrel
    have HM := Lib.hid hm
    clear hm
    by_cases hlt : k < size
    · obtain ⟨x, hx⟩ : ∃ x, xs[k]? = some x := ⟨_, List.getElem?_eq_getElem (by have := HXL.out; omega)⟩
      have hxc : (bcells xs)[k]? = some (.int .u8 (x.toNat : Int)) := by simp [bcells, hx]
      obtain ⟨b, o, rfl, _, _, hcell⟩ := HR1.out.1.open (by intro e; rw [e] at hxc; simp at hxc)
      have hc0 := hcell k _ hxc
      have hml : m < 256 ^ k := by
        have := beval_lt (xs.take k)
        rw [← HM.out, List.length_take, Nat.min_eq_left (by have := HXL.out; omega)] at this
        exact this
      have hm6 : m < 2 ^ 48 := Nat.lt_of_lt_of_le hml (by rw [show (2:Nat) ^ 48 = 256 ^ 6 from rfl]; exact Nat.pow_le_pow_right (by omega) (by omega))
      have hx8 := x.toNat_lt
      have e1 : IntKind.u64.wrap ((m : Int) * 256) = (m : Int) * 256 := by simp [IntKind.wrap, IntKind.bits, IntKind.signed]; omega
      have e2 : IntKind.u64.wrap (x.toNat : Int) = (x.toNat : Int) := by simp [IntKind.wrap, IntKind.bits, IntKind.signed]; omega
      have e3 := or_low m x.toNat (by omega) hx8
      have HX := Lib.hid hx
      have p1 : (0:Int) ≤ k := by omega
      have p2 : (k:Int) < size := by omega
      clear hx hxc hcell hml hm6 hx8
      go_wp2
      refine ⟨⟨k + 1, m * 256 + x.toNat, by go_num, by simp, by omega, ?_, by simp⟩, by simp [intOf]; omega⟩
      obtain ⟨hlx, ex⟩ := List.getElem?_eq_some_iff.1 HX.out
      rw [List.take_succ_eq_append_getElem hlx, ex, beval_snoc, ← HM.out]
    · have hk' : k = size := by omega
      subst hk'
      have hmx : m = beval xs := by rw [HM.out, List.take_of_length_le (by rw [HXL.out]; exact Nat.le_refl _)]
      have HMX := Lib.hid hmx
      clear hmx
      go_wp2
      go_ret
      exact ⟨by rw [HMX.out]; rfl, HR1.out.2.1, HR1.out.2.2⟩
/-! ### a name -/
set_option maxRecDepth 100000 in
theorem rr_name {S : Nat → Prop} {w : World} {C : Nat} {A : Option Addr} {c : Nat} {s : St} (B : List UInt8) (hb : w.heap[C]? = some (rrObj A B.length c s.1 s.2)) (hrow : RowAt S w A (bcells B)) (hat : s.1 ≤ B.length) (hc : B.length ≤ c) (hB : B.length ≤ 100000000) (hS : ¬ S C) :
    Calls Try.prog 41 #[.pointer (some ⟨C, 0, none⟩)] w fun e w' => e = .returned (.string (str (rname B s).1)) ∧ w'.heap[C]? = some (rrObj A B.length c (rname B s).2.1 (rname B s).2.2) ∧ Mod (fun b => b = C) w w' := by
  have hkp : ∀ W, Mod (fun b => b = C) w W → RowAt S W A (bcells B) := fun W hW => hrow.keeps (hW.keeps (fun b _ hs e => hS (by subst e; exact hs)))
  have HN := Lib.hid (rr_n B hb hrow hat hc hB 1 (by omega) hS)
  obtain ⟨n, hn⟩ : ∃ n, n = (rnum B 1 s).1 := ⟨_, rfl⟩
  obtain ⟨s1, hs1⟩ : ∃ s1, s1 = (rnum B 1 s).2 := ⟨_, rfl⟩
  have hn8 : n < 256 := by rw [hn]; exact rnum_lt B 1 s
  have hs18 : s1.1 ≤ B.length := by rw [hs1]; exact rnum_le B 1 s hat
  have hne : rname B s = rtake B s1 n := by rw [hs1, hn]; rfl
  rw [← hn, ← hs1] at HN
  rw [hne]
  have hT : ∀ w1, w1.heap[C]? = some (rrObj A B.length c s1.1 s1.2) → Mod (fun b => b = C) w w1 → Calls Try.prog 52 #[.pointer (some ⟨C, 0, none⟩), .int .i64 n] w1 fun e w' => ∃ A' c', e = .returned (.slice A' n c') ∧ n ≤ c' ∧ RowAt (fun b => S b ∨ w1.heap.size ≤ b) w' A' (bcells (rtake B s1 n).1) ∧
      w'.heap[C]? = some (rrObj A B.length c (rtake B s1 n).2.1 (rtake B s1 n).2.2) ∧ Mod (fun b => b = C) w1 w' := fun w1 h1 h2 => rr_take B h1 (hkp _ h2) hs18 hc hB n (by omega) hS
  have hxl := rtake_length B s1 n
  have HTK := Lib.hid (And.intro hT hxl)
  have e1 : IntKind.i64.wrap (n : Int) = n := by simp [IntKind.wrap, IntKind.bits, IntKind.signed]; omega
  clear hT hxl hb hrow hat hc hB hS hkp hn hs1 hn8 hs18 hne
  go_enter Try.func41, Try.ntmps41
  go_wp2_with (first | (go_at_call 39; refine HN.out.mono ?_; rintro e w1 ⟨rfl, hb1, hm1⟩; have HB1 := Lib.hid (And.intro hb1 hm1); clear hb1 hm1) | (go_at_call 52; refine (HTK.out.1 _ HB1.out.1 HB1.out.2).mono ?_; rintro e w2 ⟨A', c', rfl, hcc, hr2, hb2, hm2⟩; have hcv := conv_row c' hr2; rw [HTK.out.2] at hcv; have HB2 := Lib.hid (And.intro hb2 hm2); clear hr2 hb2 hm2) | fail)
  go_ret
  exact ⟨rfl, HB2.out.1, HB1.out.2.trans HB2.out.2⟩
/-! ### six bytes, eight bytes -/
theorem m6_cells (xs : List UInt8) (h : xs.length = 6) : splice [.int .u8 0, .int .u8 0, .int .u8 0, .int .u8 0, .int .u8 0, .int .u8 0] 0 (bcells xs) = bcells (M6.of xs).l := by
  match xs, h with
  | [a, b, c, d, e, f], _ => rfl
theorem k8_cells (xs : List UInt8) (h : xs.length = 8) : splice [.int .u8 0, .int .u8 0, .int .u8 0, .int .u8 0, .int .u8 0, .int .u8 0, .int .u8 0, .int .u8 0] 0 (bcells xs) = bcells (K8.of xs).l := by
  match xs, h with
  | [a, b, c, d, e, f, g, i], _ => rfl
/-! ### an array, loaded and stored whole -/
theorem macSize : (Try.prog.info? 28).map (·.size) = some 6 := by kernel_rfl
theorem keySize : (Try.prog.info? 24).map (·.size) = some 8 := by kernel_rfl
theorem arrStore_in {T : TypeId} {k : Nat} (hT : (Try.prog.info? T).map (·.size) = some k) {W : World} {b o : Nat} {cur CA : Array Value} {t : TypeId} (h : W.heap[b]? = some (.cells cur t (0, 0))) (ho : o + k ≤ cur.size) (hc : CA.size = k) (h1 : CA.all (·.oneCell') = true) :
    (Instr.storeAt T (.pointer (some ⟨b, o, none⟩)) (.agg CA)).run Try.prog W = .ok () (W.setRow b (splice cur.toList o CA.toList).toArray) := by
  have hl : CA.toList.length = k := by simpa using hc
  have := run_storeCells_at (P := Try.prog) b o t CA.toList 0 cur W h (by rw [hl]; omega) (fun v hv => (Array.all_eq_true_iff_forall_mem.1 h1) v (by simpa using hv))
  simp only [Nat.add_zero, hl] at this
  simp only [Instr.storeAt, Instr.sureAddr, Sem.run_bind, Sem.run_pure, Result.andThen_ok, splice, hl]
  cases hq : Try.prog.info? T with
  | none => simp [hq] at hT
  | some i =>
    have hs : i.size = k := by simpa [hq] using hT
    simp [storeVar, sizeOf, typeInfo, hq, Value.cells, hs, hc, this]
def macLoad (v : Value) : Sem Value := Instr.loadAt 28 v
theorem macLoad_fold (v : Value) : Instr.loadAt 28 v = macLoad v := rfl
attribute [local go_sem ↓] macLoad_fold
def macStore (p v : Value) : Sem Unit := Instr.storeAt 28 p v
theorem macStore_fold (p v : Value) : Instr.storeAt 28 p v = macStore p v := rfl
attribute [local go_sem ↓] macStore_fold
def keyLoad (v : Value) : Sem Value := Instr.loadAt 24 v
theorem keyLoad_fold (v : Value) : Instr.loadAt 24 v = keyLoad v := rfl
attribute [local go_sem ↓] keyLoad_fold
def keyStore (p v : Value) : Sem Unit := Instr.storeAt 24 p v
theorem keyStore_fold (p v : Value) : Instr.storeAt 24 p v = keyStore p v := rfl
attribute [local go_sem ↓] keyStore_fold
theorem macLoad_run {W : World} {b : Nat} {CA : Array Value} {t : TypeId} (h : W.heap[b]? = some (.cells CA t (0, 0))) (hc : CA.size = 6) : (macLoad (.pointer (some ⟨b, 0, none⟩))).run Try.prog W = .ok (.agg CA) W := by
  simp only [macLoad, Instr.loadAt, Instr.sureAddr, Sem.run_bind, Sem.run_pure, Result.andThen_ok]
  exact run_loadVar_row W b _ _ CA (0, 0) _ h Try.underlying28 rfl (by rw [macSize, hc])
theorem keyLoad_run {W : World} {b : Nat} {CA : Array Value} {t : TypeId} (h : W.heap[b]? = some (.cells CA t (0, 0))) (hc : CA.size = 8) : (keyLoad (.pointer (some ⟨b, 0, none⟩))).run Try.prog W = .ok (.agg CA) W := by
  simp only [keyLoad, Instr.loadAt, Instr.sureAddr, Sem.run_bind, Sem.run_pure, Result.andThen_ok]
  exact run_loadVar_row W b _ _ CA (0, 0) _ h Try.underlying24 rfl (by rw [keySize, hc])
theorem bcells_all (l : List UInt8) : (bcells l).toArray.all (·.oneCell') = true := by
  rw [Array.all_eq_true_iff_forall_mem]
  intro v hv
  exact bcells_one l v (by simpa using hv)
theorem macStore_run {W : World} {b o : Nat} {cur : Array Value} {t : TypeId} (m : M6) (h : W.heap[b]? = some (.cells cur t (0, 0))) (ho : o + 6 ≤ cur.size) : (macStore (.pointer (some ⟨b, o, none⟩)) (.agg (bcells m.l).toArray)).run Try.prog W = .ok () (W.setRow b (splice cur.toList o (bcells m.l)).toArray) :=
  arrStore_in macSize h ho rfl (bcells_all _)
theorem keyStore_run {W : World} {b o : Nat} {cur : Array Value} {t : TypeId} (m : K8) (h : W.heap[b]? = some (.cells cur t (0, 0))) (ho : o + 8 ≤ cur.size) : (keyStore (.pointer (some ⟨b, o, none⟩)) (.agg (bcells m.l).toArray)).run Try.prog W = .ok () (W.setRow b (splice cur.toList o (bcells m.l)).toArray) :=
  arrStore_in keySize h ho rfl (bcells_all _)
set_option maxRecDepth 100000 in
theorem rr_mac {S : Nat → Prop} {w : World} {C : Nat} {A : Option Addr} {c : Nat} {s : St} (B : List UInt8) (hb : w.heap[C]? = some (rrObj A B.length c s.1 s.2)) (hrow : RowAt S w A (bcells B)) (hat : s.1 ≤ B.length) (hc : B.length ≤ c) (hB : B.length ≤ 100000000) (hS : ¬ S C) :
    Calls Try.prog 42 #[.pointer (some ⟨C, 0, none⟩)] w fun e w' => e = .returned (.agg (bcells (M6.of (rtake B s 6).1).l).toArray) ∧ w'.heap[C]? = some (rrObj A B.length c (rtake B s 6).2.1 (rtake B s 6).2.2) ∧ Mod (fun b => b = C) w w' := by
  have hlt := lt_of_block hb
  have hxl := rtake_length B s 6
  obtain ⟨xs, hxs⟩ : ∃ xs, xs = (rtake B s 6).1 := ⟨_, rfl⟩
  obtain ⟨st, hst⟩ : ∃ st, st = (rtake B s 6).2 := ⟨_, rfl⟩
  rw [← hxs] at hxl
  have hTK : ∀ W : World, Mod No w W → W.heap[w.heap.size]? = some (.cells #[.int .u8 0, .int .u8 0, .int .u8 0, .int .u8 0, .int .u8 0, .int .u8 0] 28 (0, 0)) → W.heap[w.heap.size + 1]? = some (.cells #[.int .u8 0, .int .u8 0, .int .u8 0, .int .u8 0, .int .u8 0, .int .u8 0] 28 (0, 0)) → Calls Try.prog 52 #[.pointer (some ⟨C, 0, none⟩), .int .i64 6] W fun e w' => ∃ b o c', e = .returned (.slice (some ⟨b, o, none⟩) 6 c') ∧
      (∀ j v, (bcells xs)[j]? = some v → w'.cell? ((⟨b, o, none⟩ : Addr).add j) = some v) ∧ w'.heap[C]? = some (rrObj A B.length c st.1 st.2) ∧ w'.heap[w.heap.size]? = some (.cells #[.int .u8 0, .int .u8 0, .int .u8 0, .int .u8 0, .int .u8 0, .int .u8 0] 28 (0, 0)) ∧ w'.heap[w.heap.size + 1]? = some (.cells #[.int .u8 0, .int .u8 0, .int .u8 0, .int .u8 0, .int .u8 0, .int .u8 0] 28 (0, 0)) ∧ Mod (fun b => b = C) w w' := by
    intro W hW h0 h1
    refine (rr_take B (hW.obj hb id) ((hrow.mono (S' := fun b => S b ∧ b < w.heap.size) (fun b hb hs => ⟨hs, hb⟩)).keeps (hW.keeps (fun _ _ _ f => f))) hat hc hB 6 (by omega) (fun f => hS f.1)).mono ?_
    rintro e w' ⟨A', c', rfl, hcc, hr, hb', hm⟩
    rw [← hxs] at hr
    rw [← hst] at hb'
    obtain ⟨b, o, e, _, _, hcl⟩ := hr.open (by intro e; have := congrArg List.length e; rw [bcells_length, hxl] at this; simp at this)
    exact ⟨b, o, c', by rw [e], fun j v hj => by rw [Addr.add_lit]; exact hcl j v hj, hb', hm.obj h0 (by omega), hm.obj h1 (by omega), (hW.mono (fun _ f => f.elim)).trans hm⟩
  obtain ⟨R, hR⟩ : ∃ R, R = (bcells (M6.of xs).l).toArray := ⟨_, rfl⟩
  have hRX : ((#[.int .u8 0, .int .u8 0, .int .u8 0, .int .u8 0, .int .u8 0, .int .u8 0] : Array Value).toList.take 0 ++ bcells xs ++ (#[.int .u8 0, .int .u8 0, .int .u8 0, .int .u8 0, .int .u8 0, .int .u8 0] : Array Value).toList.drop (0 + (bcells xs).length)).toArray = R := by rw [hR]; exact congrArg List.toArray (m6_cells xs hxl)
  rw [← hxs, ← hst]
  have hsz8 : (Try.prog.info? 5).map (·.size) = some 1 := by kernel_rfl
  have HTK := Lib.hid hTK
  have HH := Lib.hid (And.intro hxl hlt)
  have HRX := Lib.hid hRX
  have HRR := Lib.hid hR
  clear hRX hR hTK hxl hb hrow hS hxs hst hat hc hB hlt
  go_enter Try.func42, Try.ntmps42
  go_wp2
  go_region_with (first | (go_at_call 52; refine (HTK.out _ ?_ ?_ ?_).mono ?_; (repeat (first | with_reducible exact Mod.refl _ _ | refine Mod.alloc ?_ _ | refine Mod.drew ?_)); exact at20 w _ _; exact at21 w _ _; rintro e w1 ⟨b1, o1, c1, rfl, hc1, k1, k2, k3, k4⟩; have hcp := run_copy_row (P := Try.prog) w1 22 22 3 5 (w.heap.size + 1) 0 6 6 ⟨b1, o1, none⟩ 6 c1 #[.int .u8 0, .int .u8 0, .int .u8 0, .int .u8 0, .int .u8 0, .int .u8 0] 28 (bcells xs) Try.underlying22 hsz8 k3 (by rw [bcells_length, HH.out.1]; rfl) hc1 (by rw [bcells_length, HH.out.1]; decide) (bcells_one xs); rw [HRX.out] at hcp; have HR1 := Lib.hid (And.intro k1 (And.intro k2 (And.intro k3 k4))); clear k1 k2 k3 k4 hc1) | fail)
  all_goals
    have hTR : (w1.setRow (w.heap.size + 1) R).heap[w.heap.size + 1]? = some (.cells R 28 (0, 0)) := setRow_heap _ _ _ _ _ _ HR1.out.2.2.1
    have hRR : (w1.setRow (w.heap.size + 1) R).heap[w.heap.size]? = some (.cells #[.int .u8 0, .int .u8 0, .int .u8 0, .int .u8 0, .int .u8 0, .int .u8 0] 28 (0, 0)) := (setRow_mod (w := w1) (g := w.heap.size + 1) R).obj HR1.out.2.1 (by omega)
    have hld := macLoad_run hTR (by rw [HRR.out]; rfl)
    have hst : (macStore (.pointer (some ⟨w.heap.size, 0, none⟩)) (.agg R)).run Try.prog (w1.setRow (w.heap.size + 1) R) = .ok () ((w1.setRow (w.heap.size + 1) R).setRow w.heap.size R) := by
      rw [HRR.out]
      rw [HRR.out] at hRR
      exact macStore_run (M6.of xs) hRR (by decide)
    have H2 := Lib.hid (And.intro hTR hRR)
    clear hTR hRR
    go_wp2
    refine bodyPost_ret (results_cell_row rfl _ _ w.heap.size 28 R (0, 0) _ rfl (setRow_heap _ _ _ _ _ _ H2.out.2) Try.underlying28 rfl (by rw [macSize, HRR.out]; rfl)) rfl ?_
    refine ⟨by rw [HRR.out], ?_, ?_⟩
    · have := HH.out.2
      exact (setRow_mod R).obj ((setRow_mod R).obj HR1.out.1 (by omega)) (by omega)
    · exact (HR1.out.2.2.2.trans' (setRow_mod R) (fun i hi f => by omega)).trans' (setRow_mod R) (fun i hi f => by omega)
set_option maxRecDepth 100000 in
theorem rr_key {S : Nat → Prop} {w : World} {C : Nat} {A : Option Addr} {c : Nat} {s : St} (B : List UInt8) (hb : w.heap[C]? = some (rrObj A B.length c s.1 s.2)) (hrow : RowAt S w A (bcells B)) (hat : s.1 ≤ B.length) (hc : B.length ≤ c) (hB : B.length ≤ 100000000) (hS : ¬ S C) :
    Calls Try.prog 43 #[.pointer (some ⟨C, 0, none⟩)] w fun e w' => e = .returned (.agg (bcells (K8.of (rtake B s 8).1).l).toArray) ∧ w'.heap[C]? = some (rrObj A B.length c (rtake B s 8).2.1 (rtake B s 8).2.2) ∧ Mod (fun b => b = C) w w' := by
  have hlt := lt_of_block hb
  have hxl := rtake_length B s 8
  obtain ⟨xs, hxs⟩ : ∃ xs, xs = (rtake B s 8).1 := ⟨_, rfl⟩
  obtain ⟨st, hst⟩ : ∃ st, st = (rtake B s 8).2 := ⟨_, rfl⟩
  rw [← hxs] at hxl
  have hTK : ∀ W : World, Mod No w W → W.heap[w.heap.size]? = some (.cells #[.int .u8 0, .int .u8 0, .int .u8 0, .int .u8 0, .int .u8 0, .int .u8 0, .int .u8 0, .int .u8 0] 24 (0, 0)) → W.heap[w.heap.size + 1]? = some (.cells #[.int .u8 0, .int .u8 0, .int .u8 0, .int .u8 0, .int .u8 0, .int .u8 0, .int .u8 0, .int .u8 0] 24 (0, 0)) → Calls Try.prog 52 #[.pointer (some ⟨C, 0, none⟩), .int .i64 8] W fun e w' => ∃ b o c', e = .returned (.slice (some ⟨b, o, none⟩) 8 c') ∧
      (∀ j v, (bcells xs)[j]? = some v → w'.cell? ((⟨b, o, none⟩ : Addr).add j) = some v) ∧ w'.heap[C]? = some (rrObj A B.length c st.1 st.2) ∧ w'.heap[w.heap.size]? = some (.cells #[.int .u8 0, .int .u8 0, .int .u8 0, .int .u8 0, .int .u8 0, .int .u8 0, .int .u8 0, .int .u8 0] 24 (0, 0)) ∧ w'.heap[w.heap.size + 1]? = some (.cells #[.int .u8 0, .int .u8 0, .int .u8 0, .int .u8 0, .int .u8 0, .int .u8 0, .int .u8 0, .int .u8 0] 24 (0, 0)) ∧ Mod (fun b => b = C) w w' := by
    intro W hW h0 h1
    refine (rr_take B (hW.obj hb id) ((hrow.mono (S' := fun b => S b ∧ b < w.heap.size) (fun b hb hs => ⟨hs, hb⟩)).keeps (hW.keeps (fun _ _ _ f => f))) hat hc hB 8 (by omega) (fun f => hS f.1)).mono ?_
    rintro e w' ⟨A', c', rfl, hcc, hr, hb', hm⟩
    rw [← hxs] at hr
    rw [← hst] at hb'
    obtain ⟨b, o, e, _, _, hcl⟩ := hr.open (by intro e; have := congrArg List.length e; rw [bcells_length, hxl] at this; simp at this)
    exact ⟨b, o, c', by rw [e], fun j v hj => by rw [Addr.add_lit]; exact hcl j v hj, hb', hm.obj h0 (by omega), hm.obj h1 (by omega), (hW.mono (fun _ f => f.elim)).trans hm⟩
  obtain ⟨R, hR⟩ : ∃ R, R = (bcells (K8.of xs).l).toArray := ⟨_, rfl⟩
  have hRX : ((#[.int .u8 0, .int .u8 0, .int .u8 0, .int .u8 0, .int .u8 0, .int .u8 0, .int .u8 0, .int .u8 0] : Array Value).toList.take 0 ++ bcells xs ++ (#[.int .u8 0, .int .u8 0, .int .u8 0, .int .u8 0, .int .u8 0, .int .u8 0, .int .u8 0, .int .u8 0] : Array Value).toList.drop (0 + (bcells xs).length)).toArray = R := by rw [hR]; exact congrArg List.toArray (k8_cells xs hxl)
  rw [← hxs, ← hst]
  have hsz8 : (Try.prog.info? 5).map (·.size) = some 1 := by kernel_rfl
  have HTK := Lib.hid hTK
  have HH := Lib.hid (And.intro hxl hlt)
  have HRX := Lib.hid hRX
  have HRR := Lib.hid hR
  clear hRX hR hTK hxl hb hrow hS hxs hst hat hc hB hlt
  go_enter Try.func43, Try.ntmps43
  go_wp2
  go_region_with (first | (go_at_call 52; refine (HTK.out _ ?_ ?_ ?_).mono ?_; (repeat (first | with_reducible exact Mod.refl _ _ | refine Mod.alloc ?_ _ | refine Mod.drew ?_)); exact at20 w _ _; exact at21 w _ _; rintro e w1 ⟨b1, o1, c1, rfl, hc1, k1, k2, k3, k4⟩; have hcp := run_copy_row (P := Try.prog) w1 22 22 3 5 (w.heap.size + 1) 0 8 8 ⟨b1, o1, none⟩ 8 c1 #[.int .u8 0, .int .u8 0, .int .u8 0, .int .u8 0, .int .u8 0, .int .u8 0, .int .u8 0, .int .u8 0] 24 (bcells xs) Try.underlying22 hsz8 k3 (by rw [bcells_length, HH.out.1]; rfl) hc1 (by rw [bcells_length, HH.out.1]; decide) (bcells_one xs); rw [HRX.out] at hcp; have HR1 := Lib.hid (And.intro k1 (And.intro k2 (And.intro k3 k4))); clear k1 k2 k3 k4 hc1) | fail)
  all_goals
    have hTR : (w1.setRow (w.heap.size + 1) R).heap[w.heap.size + 1]? = some (.cells R 24 (0, 0)) := setRow_heap _ _ _ _ _ _ HR1.out.2.2.1
    have hRR : (w1.setRow (w.heap.size + 1) R).heap[w.heap.size]? = some (.cells #[.int .u8 0, .int .u8 0, .int .u8 0, .int .u8 0, .int .u8 0, .int .u8 0, .int .u8 0, .int .u8 0] 24 (0, 0)) := (setRow_mod (w := w1) (g := w.heap.size + 1) R).obj HR1.out.2.1 (by omega)
    have hld := keyLoad_run hTR (by rw [HRR.out]; rfl)
    have hst : (keyStore (.pointer (some ⟨w.heap.size, 0, none⟩)) (.agg R)).run Try.prog (w1.setRow (w.heap.size + 1) R) = .ok () ((w1.setRow (w.heap.size + 1) R).setRow w.heap.size R) := by
      rw [HRR.out]
      rw [HRR.out] at hRR
      exact keyStore_run (K8.of xs) hRR (by decide)
    have H2 := Lib.hid (And.intro hTR hRR)
    clear hTR hRR
    go_wp2
    refine bodyPost_ret (results_cell_row rfl _ _ w.heap.size 24 R (0, 0) _ rfl (setRow_heap _ _ _ _ _ _ H2.out.2) Try.underlying24 rfl (by rw [keySize, HRR.out]; rfl)) rfl ?_
    refine ⟨by rw [HRR.out], ?_, ?_⟩
    · have := HH.out.2
      exact (setRow_mod R).obj ((setRow_mod R).obj HR1.out.1 (by omega)) (by omega)
    · exact (HR1.out.2.2.2.trans' (setRow_mod R) (fun i hi f => by omega)).trans' (setRow_mod R) (fun i hi f => by omega)
end

section
attribute [local go_sem] stPair gtPair gtK8 gtM6 run_store_func
attribute [local go_sem high] neqPair eqK8 eqM6
attribute [local go_sem ↓] load_fold store_fold alloc_fold slice_op_fold con_load_fold chg_load_fold ten_zero_fold con_alloc_fold con_store_fold con_zero_fold chg_alloc_fold chg_store_fold chg_zero_fold chg_put_fold macLoad_fold macStore_fold keyLoad_fold keyStore_fold
open Go.RowKit
set_option linter.unusedVariables false
set_option linter.unusedSimpArgs false
theorem wrap_u32 {n : Nat} (h : n < 256 ^ 4) : IntKind.u32.wrap (n : Int) = n := by simp [IntKind.wrap, IntKind.bits, IntKind.signed]; omega
set_option maxRecDepth 100000 in
set_option maxHeartbeats 2000000 in
theorem rr_pairs {S : Nat → Prop} {w : World} {C : Nat} {A : Option Addr} {c : Nat} {s0 : St} (B : List UInt8) (hb : w.heap[C]? = some (rrObj A B.length c s0.1 s0.2)) (hrow : RowAt S w A (bcells B)) (hat : s0.1 ≤ B.length) (hc : B.length ≤ c) (hB : B.length ≤ 100000000) (hS : ¬ S C) (n : Nat) (hn : n ≤ 1000) :
    Calls Try.prog 53 #[.pointer (some ⟨C, 0, none⟩), .int .i64 n] w fun e w' => ∃ v, e = .returned v ∧ w'.heap[C]? = some (rrObj A B.length c (rmany (rpr B) n s0).2.1 (rmany (rpr B) n s0).2.2) ∧
      w'.ownsRow w.heap.size 116 2 v (rmany (rpr B) n s0).1.length (prCells (rmany (rpr B) n s0).1) ∧ Mod (fun b => b = C) w w' := by
  obtain ⟨i0, hi, hz0, hz1, hz2⟩ := info_parts infopr
  have hlC := lt_of_block hb
  have hn4 : ∀ (W : World) (s : St), Mod (fun b => b = C) w W → W.heap[C]? = some (rrObj A B.length c s.1 s.2) → s.1 ≤ B.length → Calls Try.prog 39 #[.pointer (some ⟨C, 0, none⟩), .int .i64 4] W fun e W' => e = .returned (.int .u64 ((rnum B 4 s).1 : Nat)) ∧ W'.heap[C]? = some (rrObj A B.length c (rnum B 4 s).2.1 (rnum B 4 s).2.2) ∧ Mod (fun b => b = C) W W' :=
    fun W s hW h1 h2 => rr_n B h1 (hrow.keeps (hW.keeps (fun b _ hs e => hS (by subst e; exact hs)))) h2 hc hB 4 (by omega) hS
  have H0 := Lib.hid (And.intro hb (And.intro hat hlC))
  have HE := Lib.hid hn4
  clear hb hrow hat hn4 hlC
  go_enter Try.func53, Try.ntmps53
  go_wp2
  go_loopw [5, 6] (fun u i wr => ∃ (j : Nat) (acc : List Pr) (s : St) (v : Value), v = u ∧ i = .int .i64 j ∧ j ≤ n ∧ acc.length ≤ j ∧ rmany (rpr B) n s0 = (acc ++ (rmany (rpr B) (n - j) s).1, (rmany (rpr B) (n - j) s).2) ∧ s.1 ≤ B.length ∧
    wr.heap[C]? = some (rrObj A B.length c s.1 s.2) ∧ wr.ownsRow w.heap.size 116 2 v acc.length (prCells acc) ∧ Mod (fun b => b = C) w wr) (fun _ i _ => n - (intOf i).toNat)
  case atStart => exact ⟨0, [], s0, _, rfl, rfl, by omega, by simp, by simp, H0.out.2.1, H0.out.1, ⟨rfl, .inl ⟨rfl, rfl⟩⟩, Mod.refl _ _⟩
  case round =>
    obtain ⟨j, acc, s, v, rfl, rfl, hj, hacc, hsp, hs8, hbC, hown, hmw⟩ := hrel
    obtain ⟨at_, sh⟩ := s
    have d2 := blk_cell hbC 2
    simp at d2
    by_cases hlt : j < n
    · have p1 : (0:Int) ≤ j := by omega
      have p2 : (j:Int) < n := by omega
      cases sh
      · have hc1 := HE.out wr (at_, false) hmw hbC hs8
        have hnx : n - j = (n - (j + 1)) + 1 := by omega
        rw [hnx, rmany_step _ _ rfl] at hsp
        have hwl := hmw.size
        obtain ⟨s1, hs1⟩ : ∃ s1, s1 = (rnum B 4 (at_, false)).2 := ⟨_, rfl⟩
        have hs18 : s1.1 ≤ B.length := by rw [hs1]; exact rnum_le B 4 (at_, false) hs8
        obtain ⟨ya, hya⟩ : ∃ ya, ya = (rnum B 4 (at_, false)).1 := ⟨_, rfl⟩
        obtain ⟨yb, hyb⟩ : ∃ yb, yb = (rnum B 4 s1).1 := ⟨_, rfl⟩
        obtain ⟨s2, hs2⟩ : ∃ s2, s2 = (rnum B 4 s1).2 := ⟨_, rfl⟩
        have hs28 : s2.1 ≤ B.length := by rw [hs2]; exact rnum_le B 4 s1 hs18
        have hrp : rpr B (at_, false) = (⟨ya, yb⟩, s2) := by rw [hya, hyb, hs2, hs1]; rfl
        rw [hrp] at hsp
        have wa := wrap_u32 (n := ya) (by rw [hya]; exact rnum_lt B 4 _)
        have wb := wrap_u32 (n := yb) (by rw [hyb]; exact rnum_lt B 4 _)
        rw [← hya, ← hs1] at hc1
        have hc2 : ∀ W, Mod (fun b => b = C) w W → W.heap[C]? = some (rrObj A B.length c s1.1 s1.2) → Calls Try.prog 39 #[.pointer (some ⟨C, 0, none⟩), .int .i64 4] W fun e W' => e = .returned (.int .u64 (yb : Nat)) ∧ W'.heap[C]? = some (rrObj A B.length c s2.1 s2.2) ∧ Mod (fun b => b = C) W W' := by
          intro W hW h1
          rw [hyb, hs2]
          exact HE.out W s1 hW h1 hs18
        have hlC' : v.ownBlock ≠ some C := by
          intro e
          have hCl := H0.out.2.2
          rcases hown.2 with ⟨rfl, _⟩ | ⟨g, cap, cur, rfl, hg, _⟩
          · simp [Value.ownBlock] at e
          · obtain rfl : g = C := by simpa [Value.ownBlock] using e
            omega
        have HC1 := Lib.hid hc1
        have HC2 := Lib.hid hc2
        have HR := Lib.hid (And.intro hsp (And.intro hown (And.intro hmw (And.intro hs28 hbC))))
        have hacc8 : acc.length ≤ 1000 := by omega
        have HA8 := Lib.hid (And.intro hacc8 hwl)
        clear hc1 hc2 hsp hbC hmw hs8 hya hyb hs1 hs2 hown hs28 hs18 hrp hacc8 hwl
        go_wp2_with (first
          | (go_at_call 39; refine HC1.out.mono ?_; rintro e w5 ⟨rfl, k1, k3⟩; have HK5 := Lib.hid (And.intro k1 k3); clear HC1 k1 k3)
          | (go_at_call 39; refine (HC2.out _ (HR.out.2.2.1.trans HK5.out.2) HK5.out.1).mono ?_; rintro e w6 ⟨rfl, k1, k3⟩; (have hown6 : w6.ownsRow w.heap.size 116 2 v acc.length (prCells acc) := own_mod (own_mod HR.out.2.1 HK5.out.2 (fun k hk f => hlC' (by rw [← f]; exact hk))) k3 (fun k hk f => hlC' (by rw [← f]; exact hk))); have hsz6 := k3.size; have hsz5 := HK5.out.2.size; have HK6 := Lib.hid (And.intro k1 (And.intro k3 (And.intro hown6 (Nat.le_trans (Nat.le_trans HA8.out.2 hsz5) hsz6)))); clear HC2 k1 k3 hown6 hsz6 hsz5)
          | (at_builtin; refine wpList_append_lies _ (by rfl) _ _ 31 (by rfl) w.heap.size 116 i0 _ 2 8 Try.underlying31 hi hz0 hz1 hz2 (by rfl) (by decide) v acc.length (prCells acc) (by rfl) ?_ _ _ _ (Pr.cells ⟨ya, yb⟩) (by rfl) (by rfl) ?_ (by simp [Pr.cells, Value.oneCell']) (by decide) ?_ ?_ ?_ _ (by rfl) ?_;
             (exact own_mod HK6.out.2.2.1 ((Mod.refl No _).alloc _) (fun _ _ f => f));
             (exact World.news_of_block (at10 _ _));
             (have := HA8.out.1; unfold maxLen; omega);
             (have := HA8.out.1; omega);
             (have := HK6.out.2.2.2; simp; omega);
             intro g cap w7 own7 gr7 hat7 hlt7;
             have m7 : Mod (fun b => v.ownBlock = some b) w6 w7 := Mod.grown (((Mod.refl _ w6)).mono (fun _ f => f) |> (fun h => by repeat (first | with_reducible exact h | refine Mod.alloc ?_ _ | refine Mod.drew ?_))) gr7 (fun k hk => .inr hk);
             have H7 := Lib.hid (And.intro own7 m7); clear own7 m7 hat7 gr7)
          | fail)
        refine ⟨⟨j + 1, acc ++ [⟨ya, yb⟩], s2, _, rfl, by go_num, by omega, by simp; omega, ?_, HR.out.2.2.2.1, ?_, ?_, ?_⟩, by simp [intOf]; omega⟩
        · rw [HR.out.1]; simp
        · exact H7.out.2.obj HK6.out.1 hlC'
        · have := H7.out.1
          simpa [prCells] using this
        · have m6 : Mod (fun b => b = C) w w6 := (HR.out.2.2.1.trans HK5.out.2).trans HK6.out.2.1
          refine m6.trans' H7.out.2 (fun i hi f => ?_)
          rcases HR.out.2.1.2 with ⟨rfl, _⟩ | ⟨g', cap', cur', rfl, hg', _⟩
          · simp [Value.ownBlock] at f
          · obtain rfl : g' = i := by simpa [Value.ownBlock] using f
            omega
      · have HR := Lib.hid (And.intro hsp (And.intro hbC (And.intro hown hmw)))
        clear hsp hbC hown hmw
        go_wp2
        go_ret
        obtain ⟨h5, h6, h8, h9⟩ := HR.out
        rw [rmany_short (rpr B) (n - j) (s := (at_, true)) rfl] at h5
        rw [h5]
        exact ⟨v, rfl, h6, by simpa using h8, h9⟩
    · obtain rfl : n = j := by omega
      have HR := Lib.hid (And.intro hsp (And.intro hbC (And.intro hown hmw)))
      clear hsp hbC hown hmw
      go_wp2
      go_ret
      obtain ⟨h5, h6, h8, h9⟩ := HR.out
      rw [Nat.sub_self] at h5
      rw [h5]
      exact ⟨v, rfl, h6, by simpa [rmany] using h8, h9⟩
end

section
attribute [local go_sem] stPair gtPair gtK8 gtM6 run_store_func
attribute [local go_sem high] neqPair eqK8 eqM6
attribute [local go_sem ↓] load_fold store_fold alloc_fold slice_op_fold con_load_fold chg_load_fold ten_zero_fold con_alloc_fold con_store_fold con_zero_fold chg_alloc_fold chg_store_fold chg_zero_fold chg_put_fold macLoad_fold macStore_fold keyLoad_fold keyStore_fold
open Go.RowKit
set_option linter.unusedVariables false
set_option linter.unusedSimpArgs false
abbrev nilv : Value := .slice none 0 0
/-- The state of 'tenant' between two steps: its blocks are the first two that are new. -/
structure RT (w : World) (C : Nat) (A : Option Addr) (c : Nat) (B : List UInt8) (S : Nat → Prop) (t : Ten) (s : St) (vp vs vt : Value) (W : World) : Prop where
  rd : W.heap[C]? = some (rrObj A B.length c s.1 s.2)
  le : s.1 ≤ B.length
  ten : W.heap[w.heap.size + 1]? = some (.cells (t.cells vp vs vt) 33 (0, 0))
  res : W.heap[w.heap.size]? = some (.cells zTen 33 (0, 0))
  row : RowAt S W A (bcells B)
  mod : Mod (fun b => b = C) w W
  sz : w.heap.size + 2 ≤ W.heap.size
  hc : B.length ≤ c
  hB : B.length ≤ 100000000
  SC : ¬ S C
  Slt : ∀ b, S b → b < w.heap.size
  Clt : C < w.heap.size
theorem ten_csize (t : Ten) (vp vs vt : Value) : (t.cells vp vs vt).size = 33 := rfl
section
variable {w : World} {C : Nat} {A : Option Addr} {c : Nat} {B : List UInt8} {S : Nat → Prop} {t : Ten} {s : St} {vp vs vt : Value} {W : World}
theorem RT.call (h : RT w C A c B S t s vp vs vt W) {W' : World} (hm : Mod (fun b => b = C) W W') {s' : St} (hrd : W'.heap[C]? = some (rrObj A B.length c s'.1 s'.2)) (hle : s'.1 ≤ B.length) : RT w C A c B S t s' vp vs vt W' := by
  have := h.Clt
  exact ⟨hrd, hle, hm.obj h.ten (by omega), hm.obj h.res (by omega), h.row.keeps (hm.keeps (fun b _ hb f => h.SC (by subst f; exact hb))), h.mod.trans hm, Nat.le_trans h.sz hm.size, h.hc, h.hB, h.SC, h.Slt, h.Clt⟩
theorem RT.keep (h : RT w C A c B S t s vp vs vt W) {W' : World} {F : Nat → Prop} (hm : Mod F W W') (hF : ∀ b, F b → w.heap.size + 2 ≤ b) : RT w C A c B S t s vp vs vt W' := by
  have := h.Clt
  refine ⟨hm.obj h.rd (fun f => ?_), h.le, hm.obj h.ten (fun f => ?_), hm.obj h.res (fun f => ?_), h.row.keeps (hm.keeps (fun b _ hb f => ?_)), h.mod.trans' hm (fun i hi f => ?_), Nat.le_trans h.sz hm.size, h.hc, h.hB, h.SC, h.Slt, h.Clt⟩
  · have := hF _ f; omega
  · have := hF _ f; omega
  · have := hF _ f; omega
  · have := hF _ f; have := h.Slt b hb; omega
  · have := hF _ f; omega
theorem RT.into (h : RT w C A c B S t s vp vs vt W) {W' : World} (hm : Mod (fun b => b = w.heap.size + 1) W W') {t' : Ten} {s' : St} {vp' vs' vt' : Value} (ht : W'.heap[w.heap.size + 1]? = some (.cells (t'.cells vp' vs' vt') 33 (0, 0))) (hs : s' = s) : RT w C A c B S t' s' vp' vs' vt' W' := by
  have := h.Clt
  subst hs
  refine ⟨hm.obj h.rd (by omega), h.le, ht, hm.obj h.res (by omega), h.row.keeps (hm.keeps (fun b _ hb f => ?_)), h.mod.trans' hm (fun i hi f => by omega), Nat.le_trans h.sz hm.size, h.hc, h.hB, h.SC, h.Slt, h.Clt⟩
  have := h.Slt b hb; omega
theorem RT.retag (h : RT w C A c B S t s vp vs vt W) {t' : Ten} (he : t'.cells vp vs vt = t.cells vp vs vt) : RT w C A c B S t' s vp vs vt W :=
  ⟨h.rd, h.le, by rw [he]; exact h.ten, h.res, h.row, h.mod, h.sz, h.hc, h.hB, h.SC, h.Slt, h.Clt⟩
theorem RT.set (h : RT w C A c B S t s vp vs vt W) (o : Nat) (V : Value) {t' : Ten} {s' : St} {vp' vs' vt' : Value} (he : (t.cells vp vs vt).setIfInBounds o V = t'.cells vp' vs' vt') (hs : s' = s) : RT w C A c B S t' s' vp' vs' vt' (W.setCell ⟨w.heap.size + 1, o, none⟩ V) :=
  h.into (Mod.setCell (p := ⟨w.heap.size + 1, o, none⟩) (Mod.refl (fun b => b = w.heap.size + 1) W) (.inr rfl) V) (by rw [heap_setCell_row h.ten, he]) hs
theorem RT.spl (h : RT w C A c B S t s vp vs vt W) (o : Nat) (xs : List Value) {t' : Ten} {s' : St} {vp' vs' vt' : Value} (he : splice (t.cells vp vs vt).toList o xs = (t'.cells vp' vs' vt').toList) (hs : s' = s) : RT w C A c B S t' s' vp' vs' vt' (W.setRow (w.heap.size + 1) (splice (t.cells vp vs vt).toList o xs).toArray) :=
  h.into (setRow_mod _) (by rw [setRow_heap _ _ _ _ _ _ h.ten, he]) hs
theorem RT.cell (h : RT w C A c B S t s vp vs vt W) (o : Nat) (ho : o < 33) : W.frozen? ⟨w.heap.size + 1, o, none⟩ = false ∧ ∃ u, W.cell? ⟨w.heap.size + 1, o, none⟩ = some u :=
  ⟨blk_free h.ten o, _, (blk_cell h.ten o).trans (Array.getElem?_eq_getElem (by rw [ten_csize]; exact ho))⟩
theorem RT.num (h : RT w C A c B S t s vp vs vt W) (k : Nat) (hk : k ≤ 7) (o : Nat) (ho : o < 33) : Calls Try.prog 39 #[.pointer (some ⟨C, 0, none⟩), .int .i64 k] W fun e w' => e = .returned (.int .u64 ((rnum B k s).1 : Nat)) ∧ RT w C A c B S t (rnum B k s).2 vp vs vt w' ∧ Mod (fun b => b = C) W w' ∧ w'.frozen? ⟨w.heap.size + 1, o, none⟩ = false ∧ ∃ u, w'.cell? ⟨w.heap.size + 1, o, none⟩ = some u := by
  refine (rr_n B h.rd h.row h.le h.hc h.hB k hk h.SC).mono ?_
  rintro e w' ⟨he, hb, hm⟩
  have h' := h.call hm hb (rnum_le B k s h.le)
  exact ⟨he, h', hm, h'.cell o ho⟩
theorem RT.name (h : RT w C A c B S t s vp vs vt W) : Calls Try.prog 41 #[.pointer (some ⟨C, 0, none⟩)] W fun e w' => e = .returned (.string (str (rname B s).1)) ∧ RT w C A c B S t (rname B s).2 vp vs vt w' ∧ w'.frozen? ⟨w.heap.size + 1, 0, none⟩ = false ∧ ∃ u, w'.cell? ⟨w.heap.size + 1, 0, none⟩ = some u := by
  refine (rr_name B h.rd h.row h.le h.hc h.hB h.SC).mono ?_
  rintro e w' ⟨he, hb, hm⟩
  have h' := h.call hm hb (rtake_le B _ _ (rnum_le B 1 s h.le))
  exact ⟨he, h', h'.cell 0 (by omega)⟩
theorem RT.mac (h : RT w C A c B S t s vp vs vt W) (o : Nat) (ho : o + 6 ≤ 33) : Calls Try.prog 42 #[.pointer (some ⟨C, 0, none⟩)] W fun e w' => e = .returned (.agg (bcells (M6.of (rtake B s 6).1).l).toArray) ∧ RT w C A c B S t (rtake B s 6).2 vp vs vt w' ∧
    (macStore (.pointer (some ⟨w.heap.size + 1, o, none⟩)) (.agg (bcells (M6.of (rtake B s 6).1).l).toArray)).run Try.prog w' = .ok () (w'.setRow (w.heap.size + 1) (splice (t.cells vp vs vt).toList o (bcells (M6.of (rtake B s 6).1).l)).toArray) := by
  refine (rr_mac B h.rd h.row h.le h.hc h.hB h.SC).mono ?_
  rintro e w' ⟨he, hb, hm⟩
  have h' := h.call hm hb (rtake_le B s 6 h.le)
  exact ⟨he, h', macStore_run _ h'.ten (by rw [ten_csize]; exact ho)⟩
theorem RT.key (h : RT w C A c B S t s vp vs vt W) (o : Nat) (ho : o + 8 ≤ 33) : Calls Try.prog 43 #[.pointer (some ⟨C, 0, none⟩)] W fun e w' => e = .returned (.agg (bcells (K8.of (rtake B s 8).1).l).toArray) ∧ RT w C A c B S t (rtake B s 8).2 vp vs vt w' ∧
    (keyStore (.pointer (some ⟨w.heap.size + 1, o, none⟩)) (.agg (bcells (K8.of (rtake B s 8).1).l).toArray)).run Try.prog w' = .ok () (w'.setRow (w.heap.size + 1) (splice (t.cells vp vs vt).toList o (bcells (K8.of (rtake B s 8).1).l)).toArray) := by
  refine (rr_key B h.rd h.row h.le h.hc h.hB h.SC).mono ?_
  rintro e w' ⟨he, hb, hm⟩
  have h' := h.call hm hb (rtake_le B s 8 h.le)
  exact ⟨he, h', keyStore_run _ h'.ten (by rw [ten_csize]; exact ho)⟩
theorem RT.prs (h : RT w C A c B S t s vp vs vt W) (n : Nat) (hn : n ≤ 1000) (o : Nat) (ho : o < 33) : Calls Try.prog 53 #[.pointer (some ⟨C, 0, none⟩), .int .i64 n] W fun e w' => ∃ P p, e = .returned (.slice P (rmany (rpr B) n s).1.length p) ∧ RowAt (fun b => w.heap.size + 2 ≤ b) w' P (prCells (rmany (rpr B) n s).1) ∧ RT w C A c B S t (rmany (rpr B) n s).2 vp vs vt w' ∧ Mod (fun b => b = C) W w' ∧ w'.frozen? ⟨w.heap.size + 1, o, none⟩ = false ∧ ∃ u, w'.cell? ⟨w.heap.size + 1, o, none⟩ = some u := by
  refine (rr_pairs B h.rd h.row h.le h.hc h.hB h.SC n hn).mono ?_
  rintro e w' ⟨v, he, hb, hown, hm⟩
  obtain ⟨P, p, hv, hr⟩ := own_rowAt hown
  have h' := h.call hm hb (rmany_le (rpr_le B) n s h.le)
  have := h.sz
  exact ⟨P, p, by rw [he, hv], hr.mono (fun b _ hb => by omega), h', hm, h'.cell o ho⟩
end
/-- A call as one step of a region that draws its order: for 'go_region_law'. -/
theorem step_calls_at {P : Program} {ops : Array Oper} {o : Oper} {a : Act} {w : World} {K : Act → World → Prop} {Q : Exit → Act → World → Prop} {E : Prop} {f : Nat} {args : Array Value} {R : Value → World → Prop} (hgd : o.guard = none) (hr : (execOp a.eval o).run P w = .ok (.enter f args) w)
    (hc : Calls P f args w fun e w' => ∃ v, e = .returned v ∧ R v w') (h : ∀ v w', R v w' → K (a.put o.dst v) w') : if Region.wanted o (yielded ops a.tmps) = true then Oper.wp P o a w K Q else E := by
  rw [if_pos (by simp [Region.wanted, hgd])]
  unfold Oper.wp
  rw [hr]
  show Calls P f args w _
  refine hc.mono ?_
  rintro e w' ⟨v, rfl, hR⟩
  exact h v w' hR
theorem wrap_u16 {n : Nat} (h : n < 256 ^ 2) : IntKind.u16.wrap (n : Int) = n := by simp [IntKind.wrap, IntKind.bits, IntKind.signed]; omega
theorem wrap_i64 {n : Nat} (h : n < 256 ^ 2) : IntKind.i64.wrap (n : Int) = n := by simp [IntKind.wrap, IntKind.bits, IntKind.signed]; omega
end

end Go.Proofs.Ytpkieilmlnlpkaa
