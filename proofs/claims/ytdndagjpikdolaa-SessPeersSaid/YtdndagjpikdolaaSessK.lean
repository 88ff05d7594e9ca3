/-
  The reference's Allows and Peer come to what the package's come to.
  Conditions: none.
-/
import Derived.Test.YtdndagjpikdolaaSessG
namespace Go.Proofs.Ytdndagjpikdolaa
open Go.RowKit
set_option linter.unusedVariables false

/-- What the reference's loop asks of a point. -/
def asked (f : Int) (p x : Point) : Bool := x.ip == p.ip && (f == 1 || x.port == p.port)
theorem allows_asked (f : Int) (l : List Point) (p : Point) (hf : f = 1 ∨ f = 2) : allows f l p = l.any (asked f p) := by
  rcases hf with rfl | rfl
  · have e : asked 1 p = fun x => x.ip == p.ip := by funext x; simp [asked]
    rw [e]
    simp [allows]
  · simp only [allows, if_neg (show ¬ (2 : Int) = 1 by decide), if_true]
    congr 1
    funext x
    rw [← point_beq p x]
    simp only [asked, show ((2 : Int) == 1) = false from rfl, Bool.false_or]
    rw [show (p.ip == x.ip) = (x.ip == p.ip) from BEq.comm, show (p.port == x.port) = (x.port == p.port) from BEq.comm]

theorem asked_is (f : Int) (p x : Point) (bi bp : Bool) (h : (x.ip == p.ip) = bi) (h' : (x.port == p.port) = bp) : asked f p x = (bi && (f == 1 || bp)) := by rw [asked, h, h']

theorem refAllows_ok {S : Nat → Prop} (f : Int) (p : Point) (A : Option Addr) (c n : Nat) (l : List Point) (w : World) (hx : RowAt S w A (ptCells l)) (hn : n = l.length) (hl : n ≤ 9223372036854775807) :
    Calls Try.prog 18 #[.int .i64 f, .slice A n c, p.val] w fun e w' => e = .returned (.bool (allows f l p)) ∧ Mod No w w' := by
  have HX := Lib.hid (hx.mono (S' := fun b => S b ∧ b < w.heap.size) (fun b hb hs => ⟨hs, hb⟩))
  have HN := Lib.hid hn
  clear hx hn
  by_cases hf : f = 1 ∨ f = 2
  · obtain ⟨q, hq⟩ : ∃ q, q = asked f p := ⟨_, rfl⟩
    have HA := Lib.hid (hq ▸ allows_asked f l p hf)
    have HQQ : Hid (∀ (x : Point) (bi bp : Bool), (x.ip == p.ip) = bi → (x.port == p.port) = bp → q x = (bi && (f == 1 || bp))) := fun x bi bp h h' => by rw [hq]; exact asked_is f p x bi bp h h'
    clear hq
    unfold Point.val
    rcases hf with rfl | rfl
    all_goals
      go_enter Try.func18, Try.ntmps18
      go_wp2_with fail
      go_loopw [7] (fun i wr => ∃ k : Nat, i = .int .i64 k ∧ k ≤ n ∧ (∀ j y, j < k → l[j]? = some y → q y = false) ∧ ∃ m, wr = (w.alloc (.cells #[.int .u32 p.ip, .int .u16 p.port] 32)).drewN m) (fun i _ => n - (intOf i).toNat)
      case atStart => exact ⟨0, rfl, by omega, by omega, 0, rfl⟩
      case round =>
        obtain ⟨k, rfl, hk, hpre, m, rfl⟩ := hrel
        have HP := Lib.hid hpre
        clear hpre
        by_cases hlt : k < n
        · obtain ⟨x, hp⟩ : ∃ x, l[k]? = some x := ⟨_, List.getElem?_eq_getElem (by have := HN.out; omega)⟩
          obtain ⟨b, o, rfl, _, _, hx0, hx1⟩ := pts_at HX.out hp
          have HK := Lib.hid hp
          have p1 : (0:Int) ≤ k := by omega
          have p2 : (k:Int) < n := by omega
          clear hp
          obtain ⟨bi, hbi⟩ : ∃ b, (x.ip == p.ip) = b := ⟨_, rfl⟩
          obtain ⟨bp, hbp⟩ : ∃ b, (x.port == p.port) = b := ⟨_, rfl⟩
          have HQ := Lib.hid (HQQ.out x bi bp hbi hbp)
          cases bi <;> cases bp
          all_goals
            go_wp2
            go_quiet (fail)
            go_wp2
            all_goals first
              | (exfalso; simp_all; done)
              | (go_ret
                 exact ⟨by rw [HA.out, List.any_eq_true.2 ⟨x, List.mem_of_getElem? HK.out, HQ.out⟩]; rfl, ((Mod.refl _ _).alloc _).trans (by repeat (first | with_reducible exact Mod.refl _ _ | refine Mod.drewN ?_ _ | refine Mod.drew ?_))⟩)
              | (refine ⟨⟨k + 1, by go_num, by omega, ?_, _, rfl⟩, by simp [intOf]; omega⟩
                 intro j y hj hy
                 rcases Nat.lt_or_ge j k with h | h
                 · exact HP.out j y h hy
                 · obtain rfl : j = k := by omega
                   have := HK.out
                   rw [hy] at this
                   cases this
                   exact HQ.out)
        · have hk' : k = n := by omega
          subst hk'
          have HI : Hid (l.any q = false) := List.any_eq_false.2 (fun x hx => by
            obtain ⟨j, hj⟩ := List.getElem?_of_mem hx
            have := HP.out j x (by have := (List.getElem?_eq_some_iff.1 hj).1; have := HN.out; omega) hj
            simp [this])
          go_wp2
          go_ret
          exact ⟨by rw [HA.out, HI.out]; rfl, ((Mod.refl _ _).alloc _).trans (by repeat (first | with_reducible exact Mod.refl _ _ | refine Mod.drewN ?_ _ | refine Mod.drew ?_))⟩
  · have HA : Hid (allows f l p = true) := by show _ = _; rw [allows, if_neg (fun h => hf (.inl h)), if_neg (fun h => hf (.inr h))]
    have b1 : (f != 1) = true := by simpa using fun h => hf (.inl h)
    have b2 : (f != 2) = true := by simpa using fun h => hf (.inr h)
    clear hf
    unfold Point.val
    go_enter Try.func18, Try.ntmps18
    go_wp2_with fail
    go_ret
    exact ⟨by rw [HA.out]; rfl, (Mod.refl _ _).alloc _⟩

theorem keep_take_succ {q : Point → Bool} {l : List Point} {k : Nat} {x : Point} (h : l[k]? = some x) : keep q (l.take (k + 1)) = keep q (l.take k) ++ (if q x = true then [] else [x]) := by
  rw [List.take_add_one, h, keep, keep, List.filter_append]
  congr 1
  cases hq : q x <;> simp [hq]

set_option maxRecDepth 100000 in
theorem wpList_append_pt {w : World} {ops : Array Oper} {rest : List Oper} {o : Oper} {a : Act} {Q : Exit → Act → World → Prop} (hgd : o.guard = none) (s x : Operand)
    (ho : o.op = .call { callee := .builtin .append, args := #[s, x], argTypes := #[30, 30] }) (v : Value) (l : List Point) (base : Nat) (hs : a.eval s = v) (hown : w.ownsRow base 32 2 v l.length (ptCells l)) (hl : l.length ≤ 65000)
    (b c : Nat) (p : Point) (hx : a.eval x = .slice (some ⟨b, 0, none⟩) 1 c) (hb : w.heap[b]? = some (.cells #[.int .u32 p.ip, .int .u16 p.port] 32 (0, 0))) (hbase : base ≤ w.heap.size)
    (h : ∀ g cap w', w'.ownsRow base 32 2 (.slice (some ⟨g, 0, none⟩) (l.length + 1) cap) (l.length + 1) (ptCells (l ++ [p])) → w.grownBy w' v.ownBlock → wpList Try.prog ops Q rest (a.put o.dst (.slice (some ⟨g, 0, none⟩) (l.length + 1) cap)) w') :
    wpList Try.prog ops Q (o :: rest) a w := by
  obtain ⟨i0, hi, hz0, hz1, hz2⟩ := info_parts infoPoint
  have e : ptCells (l ++ [p]) = ptCells l ++ [.int .u32 p.ip, .int .u16 p.port] := by rw [ptCells, List.flatMap_append]; rfl
  refine wpList_append_lies w hgd s x _ ho base 32 i0 _ 2 8 Try.underlying30 hi hz0 hz1 hz2 rfl (by decide) v l.length (ptCells l) hs hown ⟨b, 0, none⟩ 1 c [.int .u32 p.ip, .int .u16 p.port] hx rfl (World.news_of_block hb) ?_ (by decide) ?_ ?_ hbase _ rfl ?_
  · intro u hu
    simp only [List.mem_cons, List.not_mem_nil, or_false] at hu
    rcases hu with rfl | rfl <;> rfl
  · unfold maxLen; omega
  · omega
  · intro g cap w' h1 h2 _ _
    rw [← e] at h1
    exact h g cap w' h1 h2

theorem own_cap {w : World} {base : Nat} {e : TypeId} {size : Nat} {A : Option Addr} {n c : Nat} {xs : List Value} (h : w.ownsRow base e size (.slice A (n + 1) c) (n + 1) xs) : (n : Int) + 1 ≤ c := by
  obtain ⟨A', c', he, hcap, _⟩ := RowAt.of_owns h
  cases he
  omega
theorem own_row {w : World} {base : Nat} {e : TypeId} {size : Nat} {A : Option Addr} {n m c : Nat} {xs : List Value} (h : w.ownsRow base e size (.slice A m c) n xs) : RowAt (fun b => base ≤ b) w A xs := by
  obtain ⟨A', c', he, _, hrow⟩ := RowAt.of_owns h
  cases he
  exact hrow

set_option maxHeartbeats 1600000 in
set_option maxRecDepth 100000 in
theorem refPeer_ok {S : Nat → Prop} (A : Option Addr) (c n : Nat) (l : List Point) (p : Point) (w : World) (hx : RowAt S w A (ptCells l)) (hn : n = l.length) (hl : n ≤ 60000) :
    Calls Try.prog 15 #[.slice A n c, p.val] w fun e w' => ∃ A' c', e = .returned (.slice A' (peer l p).length c') ∧ RowAt (fun b => w.heap.size ≤ b) w' A' (ptCells (peer l p)) ∧ Mod No w w' := by
  have HX := Lib.hid (hx.mono (S' := fun b => S b ∧ b < w.heap.size) (fun b hb hs => ⟨hs, hb⟩))
  have HN := Lib.hid hn
  clear hx hn
  unfold Point.val
  go_enter Try.func15, Try.ntmps15
  go_wp2_with fail
  go_loopw [5, 6] (fun s5 i wr => ∃ (k : Nat) (M : List Point), i = .int .i64 k ∧ k ≤ n ∧ M = keep (fun x => decide (x = p)) (l.take k) ∧ wr.ownsRow (w.heap.size + 1) 32 2 s5 M.length (ptCells M) ∧ Mod No (w.alloc (.cells #[.int .u32 p.ip, .int .u16 p.port] 32)) wr) (fun _ i _ => n - (intOf i).toNat)
  case atStart => exact ⟨0, [], rfl, by omega, by simp [keep], World.ownsRow_nil _ _ _ _, Mod.refl _ _⟩
  case round =>
    obtain ⟨k, M, rfl, hk, hM, hown, hm⟩ := hrel
    by_cases hlt : k < n
    · obtain ⟨x, hp⟩ : ∃ x, l[k]? = some x := ⟨_, List.getElem?_eq_getElem (by have := HN.out; omega)⟩
      obtain ⟨b, o, rfl, _, _, hx0, hx1⟩ := pts_at (HX.out.keeps ((((Mod.refl No w).alloc _).trans hm).keeps (fun _ _ _ => id))) hp
      have B1 := hm.obj (at10 w _) id
      have k0 : wr.cell? ⟨w.heap.size, 0, none⟩ = some (.int .u32 p.ip) := (blk_cell B1 0).trans rfl
      have k1 : wr.cell? ⟨w.heap.size, 1, none⟩ = some (.int .u16 p.port) := (blk_cell B1 1).trans rfl
      have HK := Lib.hid hp
      have HM := Lib.hid hm
      have HO := Lib.hid hown
      have HMM := Lib.hid hM
      have p1 : (0:Int) ≤ k := by omega
      have p2 : (k:Int) < n := by omega
      have hpq := point_beq x p
      have HLM := Lib.hid (show M.length ≤ 65000 from by have h1 := congrArg List.length hM; have h2 := keep_le (fun x => decide (x = p)) (l.take k); have h3 := List.length_take_le k l; omega)
      have HZ := Lib.hid (show w.heap.size + 1 ≤ wr.heap.size from by have := hm.size; simpa using this)
      clear hp hm hown hM B1
      by_cases hd : x = p
      · have hb : (x.ip == p.ip && x.port == p.port) = true := by rw [hpq]; simpa using hd
        have HD := Lib.hid hd
        clear hpq hd
        go_wp2
        go_quiet (fail)
        go_wp2
        all_goals first
          | (exfalso; simp_all; done)
          | (refine ⟨⟨k + 1, M, by go_num, by omega, ?_, own_mod HO.out (F := No) (Mod.drewN (Mod.refl _ _) _) (fun _ _ => id), HM.out.drewN _⟩, by simp [intOf]; omega⟩
             rw [keep_take_succ HK.out, ← HMM.out, if_pos (by simpa using HD.out), List.append_nil])
      · have hb : (x.ip == p.ip && x.port == p.port) = false := by rw [hpq]; simpa using hd
        have HD := Lib.hid hd
        clear hpq hd
        go_wp2
        go_quiet (fail)
        go_wp2_with (at_builtin; refine wpList_append_pt rfl _ _ rfl _ M _ rfl (own_mod HO.out (F := No) ?_ (fun _ _ => id)) ?_ _ _ x rfl ?_ ?_ ?_; (repeat (first | with_reducible exact Mod.refl _ _ | refine Mod.alloc ?_ _ | refine Mod.drewN ?_ _ | refine Mod.drew ?_)); exact HLM.out; exact at10 _ _; (refine Nat.le_trans HZ.out (Mod.size (F := No) ?_); repeat (first | with_reducible exact Mod.refl _ _ | refine Mod.alloc ?_ _ | refine Mod.drewN ?_ _ | refine Mod.drew ?_)); intro g cap w5 own5 hgrow; have HO5 := Lib.hid own5; have H5 : Hid (Mod No (w.alloc (.cells #[.int .u32 p.ip, .int .u16 p.port] 32)) w5) := Mod.grown (by repeat (first | with_reducible exact HM.out | refine Mod.alloc ?_ _ | refine Mod.drewN ?_ _ | refine Mod.drew ?_)) hgrow (fun k hk => .inl (by have := (HO.out.lt _ hk).1; simp; omega)); clear own5 hgrow)
        all_goals first
          | (exfalso; simp_all; done)
          | (refine ⟨⟨k + 1, M ++ [x], by go_num, by omega, ?_, by rw [List.length_append]; exact HO5.out, H5.out⟩, by simp [intOf]; omega⟩
             rw [keep_take_succ HK.out, ← HMM.out, if_neg (by simpa using HD.out)])
    · have hk' : k = n := by omega
      subst hk'
      have HLM := Lib.hid (show M.length ≤ 65000 from by have h1 := congrArg List.length hM; have h2 := keep_le (fun x => decide (x = p)) (l.take k); have h3 := List.length_take_le k l; omega)
      have HMM : Hid (M = keep (fun x => decide (x = p)) l) := by have h := HN.out; show _ = _; rw [hM, h, List.take_length]
      have B1 := hm.obj (at10 w _) id
      have k0 : wr.cell? ⟨w.heap.size, 0, none⟩ = some (.int .u32 p.ip) := (blk_cell B1 0).trans rfl
      have k1 : wr.cell? ⟨w.heap.size, 1, none⟩ = some (.int .u16 p.port) := (blk_cell B1 1).trans rfl
      have HM := Lib.hid hm
      have HO := Lib.hid hown
      have HZ := Lib.hid (show w.heap.size + 1 ≤ wr.heap.size from by have := hm.size; simpa using this)
      clear hm hown hM B1
      have hMI : (M.length : Int) ≤ 65000 := by have := HLM.out; omega
      have hMI0 : (0 : Int) ≤ M.length := by omega
      have hpl : (peer l p).length = M.length + 1 - (M.length + 1 - 8) := by rw [peer, List.length_drop, List.length_append, ← HMM.out]; rfl
      have hpr : ∀ (w5 : World) (g : Nat), RowAt (fun b => w.heap.size + 1 ≤ b) w5 (some ⟨g, 0, none⟩) (ptCells (M ++ [p])) → RowAt (fun b => w.heap.size ≤ b) w5 (some ⟨g, (M.length + 1 - 8) * 2, none⟩) (ptCells (peer l p)) := by
        intro w5 g h
        rw [peer, ← HMM.out]
        have h' := row_drop h (M.length + 1 - 8)
        rw [Nat.zero_add] at h'
        exact h'.mono (fun b _ hb => by omega)
      have HPL := Lib.hid hpl
      have HPR := Lib.hid hpr
      clear hpl hpr
      by_cases h8 : M.length + 1 ≤ 8
      · have h8i : ¬ (8 < (M.length : Int) + 1) := by omega
        go_wp2_with (at_builtin; refine wpList_append_pt rfl _ _ rfl _ M _ rfl (own_mod HO.out (F := No) ?_ (fun _ _ => id)) ?_ _ _ p rfl ?_ ?_ ?_; (repeat (first | with_reducible exact Mod.refl _ _ | refine Mod.alloc ?_ _ | refine Mod.drewN ?_ _ | refine Mod.drew ?_)); exact HLM.out; exact at10 _ _; (refine Nat.le_trans HZ.out (Mod.size (F := No) ?_); repeat (first | with_reducible exact Mod.refl _ _ | refine Mod.alloc ?_ _ | refine Mod.drewN ?_ _ | refine Mod.drew ?_)); intro g cap w5 own5 hgrow; have hcI : (M.length : Int) + 1 ≤ cap := own_cap own5; have HROW := Lib.hid (own_row own5); have HO5 := Lib.hid own5; have H5 : Hid (Mod No (w.alloc (.cells #[.int .u32 p.ip, .int .u16 p.port] 32)) w5) := Mod.grown (by repeat (first | with_reducible exact HM.out | refine Mod.alloc ?_ _ | refine Mod.drewN ?_ _ | refine Mod.drew ?_)) hgrow (fun k hk => .inl (by have := (HO.out.lt _ hk).1; simp; omega)); clear own5 hgrow)
        go_ret
        have e0 : M.length + 1 - 8 = 0 := by omega
        refine ⟨some ⟨g, 0, none⟩, ⟨cap, ?_⟩, ?_, ((Mod.refl _ _).alloc _).trans H5.out⟩
        · rw [HPL.out, e0, Nat.sub_zero]; rfl
        · have h := HPR.out _ _ HROW.out
          rwa [e0, Nat.zero_mul] at h
      · have h8i : 8 < (M.length : Int) + 1 := by omega
        go_wp2_with (at_builtin; refine wpList_append_pt rfl _ _ rfl _ M _ rfl (own_mod HO.out (F := No) ?_ (fun _ _ => id)) ?_ _ _ p rfl ?_ ?_ ?_; (repeat (first | with_reducible exact Mod.refl _ _ | refine Mod.alloc ?_ _ | refine Mod.drewN ?_ _ | refine Mod.drew ?_)); exact HLM.out; exact at10 _ _; (refine Nat.le_trans HZ.out (Mod.size (F := No) ?_); repeat (first | with_reducible exact Mod.refl _ _ | refine Mod.alloc ?_ _ | refine Mod.drewN ?_ _ | refine Mod.drew ?_)); intro g cap w5 own5 hgrow; have hcI : (M.length : Int) + 1 ≤ cap := own_cap own5; have HROW := Lib.hid (own_row own5); have HO5 := Lib.hid own5; have H5 : Hid (Mod No (w.alloc (.cells #[.int .u32 p.ip, .int .u16 p.port] 32)) w5) := Mod.grown (by repeat (first | with_reducible exact HM.out | refine Mod.alloc ?_ _ | refine Mod.drewN ?_ _ | refine Mod.drew ?_)) hgrow (fun k hk => .inl (by have := (HO.out.lt _ hk).1; simp; omega)); clear own5 hgrow)
        go_ret
        refine ⟨some ⟨g, (M.length + 1 - 8) * 2, none⟩, cap - (M.length + 1 - 8), ?_, HPR.out _ _ HROW.out, ((Mod.refl _ _).alloc _).trans H5.out⟩
        rw [HPL.out]; rfl

end Go.Proofs.Ytdndagjpikdolaa
