/-
  SessPeers: the walk: the last eight that were spoken to are kept, and who may answer by each filter.
  Conditions: none.
-/
import Derived.Test.YtdndagjpikdolaaSessH
import Derived.Test.YtdndagjpikdolaaSessK
namespace Go.Proofs.Ytdndagjpikdolaa
open Go.RowKit
set_option linter.unusedVariables false

/-- What is kept of those that were spoken to, from first to last. -/
def spoken (l : List Point) : List Point := l.foldl peer []
theorem peer_len (l : List Point) (p : Point) : (peer l p).length ≤ 8 := by
  rw [peer, List.length_drop, List.length_append, List.length_singleton]; omega
theorem spoken_succ {l : List Point} {k : Nat} {x : Point} (h : l[k]? = some x) : spoken (l.take (k + 1)) = peer (spoken (l.take k)) x := by
  rw [List.take_add_one, h, spoken, List.foldl_append]; rfl
theorem spoken_len (l : List Point) : (spoken l).length ≤ 8 := by
  rw [spoken]
  rcases List.eq_nil_or_concat l with rfl | ⟨r, x, rfl⟩
  · simp
  · rw [List.concat_eq_append, List.foldl_append]; exact peer_len _ _

set_option maxHeartbeats 16000000 in
set_option maxRecDepth 100000 in
theorem peers_walk {S : Nat → Prop} (A : Option Addr) (c n : Nat) (l : List Point) (p q : Point) (f : Int) (w : World) (hx : RowAt S w A (ptCells l)) (hn : l.length = n) (hl : n ≤ 9223372036854775807) :
    Calls Try.prog 5 #[.slice A n c, p.val, q.val, .int .i64 f] w fun e w' => e = .returned (.bool true) ∧ Mod No w w' := by
  have HKN := Lib.hid known_ok
  have HN := Lib.hid hn
  have HX := Lib.hid (hx.mono (S' := fun b => S b ∧ b < w.heap.size) (fun b hb hs => ⟨hs, hb⟩))
  clear hn hx
  unfold Point.val
  by_cases hbig : 40 < n
  · go_enter Try.func5, Try.ntmps5
    go_wp2_with (go_at_call 9; refine (HKN.out _).mono ?_; rintro e w1 ⟨rfl, hm⟩; have HM := Lib.hid hm; clear hm)
    go_ret
    exact ⟨rfl, (((Mod.refl _ _).alloc _).alloc _).trans HM.out⟩
  · go_enter Try.func5, Try.ntmps5
    go_wp2_with (go_at_call 9; refine (HKN.out _).mono ?_; rintro e w1 ⟨rfl, hm⟩; have HM := Lib.hid hm; clear hm)
    have B1 := HM.out.obj (at20 w _ _) id
    have B2 := HM.out.obj (at21 w _ _) id
    have HB1 := Lib.hid B1
    have HB2 := Lib.hid B2
    have HMW := Lib.hid ((((Mod.refl No w).alloc _).alloc _).trans HM.out)
    clear B1 B2 HM
    go_loopw [9, 10, 11] (fun a b i wr => ∃ (k : Nat) (A1 A2 : Option Addr) (c1 c2 : Nat), i = .int .i64 k ∧ k ≤ n ∧ a = .slice A1 (spoken (l.take k)).length c1 ∧ b = .slice A2 (spoken (l.take k)).length c2 ∧ RowAt (fun _ => True) wr A1 (ptCells (spoken (l.take k))) ∧ RowAt (fun _ => True) wr A2 (ptCells (spoken (l.take k))) ∧ Mod No w1 wr) (fun _ _ i _ => n - (intOf i).toNat)
    case atStart => exact ⟨0, none, none, 0, 0, rfl, by omega, rfl, rfl, .nil _ _ _, .nil _ _ _, Mod.refl _ _⟩
    case round =>
      obtain ⟨k, A1, A2, c1, c2, rfl, hk, rfl, rfl, hr1, hr2, hm⟩ := hrel
      by_cases hlt : k < n
      · obtain ⟨x, hp⟩ : ∃ x, l[k]? = some x := ⟨_, List.getElem?_eq_getElem (by have := HN.out; omega)⟩
        obtain ⟨bb, o, rfl, _, _, hx0, hx1⟩ := pts_at (HX.out.keeps ((HMW.out.trans hm).keeps (fun _ _ _ => id))) hp
        have hm0 := hm
        have HO := Lib.hid (fun w' (h : Mod No wr w') => And.intro (h.cell hx0 id) (h.cell hx1 id))
        have HP1 : Hid (∀ W, Mod No wr W → Calls Try.prog 14 #[.slice A1 (spoken (l.take k)).length c1, .agg #[.int .u32 x.ip, .int .u16 x.port]] W fun e w' => ∃ A' c', e = .returned (.slice A' (spoken (l.take (k + 1))).length c') ∧ RowAt (fun _ => True) w' A' (ptCells (spoken (l.take (k + 1)))) ∧ Mod No W w') := fun W h => by
          rw [spoken_succ hp]
          refine (peer_ok A1 c1 _ x W (hr1.keeps (h.keeps (fun _ _ _ => id))) (by have := spoken_len (l.take k); omega)).mono ?_
          rintro e w' ⟨v, rfl, hown, hm⟩
          obtain ⟨A', c', rfl, _, hr⟩ := RowAt.of_owns hown
          exact ⟨A', c', rfl, hr.mono (fun _ _ _ => trivial), hm⟩
        have HP2 : Hid (∀ W, Mod No wr W → Calls Try.prog 15 #[.slice A2 (spoken (l.take k)).length c2, .agg #[.int .u32 x.ip, .int .u16 x.port]] W fun e w' => ∃ A' c', e = .returned (.slice A' (spoken (l.take (k + 1))).length c') ∧ RowAt (fun _ => True) w' A' (ptCells (spoken (l.take (k + 1)))) ∧ Mod No W w') := fun W h => by
          rw [spoken_succ hp]
          refine (refPeer_ok A2 c2 _ _ x W (hr2.keeps (h.keeps (fun _ _ _ => id))) rfl (by have := spoken_len (l.take k); omega)).mono ?_
          rintro e w' ⟨A', c', rfl, hr, hm⟩
          exact ⟨A', c', rfl, hr.mono (fun _ _ _ => trivial), hm⟩
        have HM1 := Lib.hid hm
        have p1 : (0:Int) ≤ k := by omega
        have p2 : (k:Int) < n := by omega
        clear hm hm0 hr1 hr2 hp
        go_wp2_with fail
        go_region_held3 (fun w' => w'.cell? ⟨bb, o + k * 2, none⟩ = some (.int .u32 x.ip) ∧ w'.cell? ⟨bb, o + k * 2 + 1, none⟩ = some (.int .u16 x.port))
          ((refine HO.out _ ?_; (repeat (first | with_reducible exact Mod.refl _ _ | with_reducible exact hz3 | with_reducible exact hz4 | refine Mod.alloc ?_ _ | refine Mod.drew ?_))))
          (first | (go_at_call 14; refine (HP1.out _ ?_).mono ?_; (repeat (first | with_reducible exact Mod.refl _ _ | with_reducible exact hz3 | with_reducible exact hz4 | refine Mod.alloc ?_ _ | refine Mod.drew ?_)); rintro e w3 ⟨A3, c3, rfl, r3, hm3⟩; have hz3 : Mod No wr w3 := Mod.trans (by (repeat (first | with_reducible exact Mod.refl _ _ | with_reducible exact hz3 | with_reducible exact hz4 | refine Mod.alloc ?_ _ | refine Mod.drew ?_))) hm3) | (go_at_call 15; refine (HP2.out _ ?_).mono ?_; (repeat (first | with_reducible exact Mod.refl _ _ | with_reducible exact hz3 | with_reducible exact hz4 | refine Mod.alloc ?_ _ | refine Mod.drew ?_)); rintro e w4 ⟨A4, c4, rfl, r4, hm4⟩; have hz4 : Mod No wr w4 := Mod.trans (by (repeat (first | with_reducible exact Mod.refl _ _ | with_reducible exact hz3 | with_reducible exact hz4 | refine Mod.alloc ?_ _ | refine Mod.drew ?_))) hm4) | fail)
        all_goals
          go_wp2_with fail
          exact ⟨⟨k + 1, A3, A4, c3, c4, by go_num, by omega, rfl, rfl, r3.keeps (Mod.keeps (Mod.trans (by (repeat (first | with_reducible exact Mod.refl _ _ | refine Mod.drew ?_))) hm4) (fun _ _ _ => id)), r4, HM1.out.trans hz4⟩, by simp [intOf]; omega⟩
      · have e : l.take k = l := List.take_of_length_le (by have := HN.out; omega)
        rw [e] at hr1 hr2 ⊢
        clear e
        have HWW := Lib.hid (HMW.out.trans hm)
        have hrow : ∀ W, Mod No wr W → RowAt (fun b => S b ∧ b < w.heap.size) W A (ptCells l) := fun W h => HX.out.keeps ((HWW.out.trans h).keeps (fun _ _ _ => id))
        have hle : n ≤ 40 := by omega
        have HPT : Hid (∀ W, Mod No wr W → Calls Try.prog 16 #[.slice A1 (spoken l).length c1, .slice A2 (spoken l).length c2] W fun e w' => e = .returned (.bool true) ∧ Mod No W w') := fun W h =>
          (points_ok A1 A2 c1 c2 (spoken l) (spoken l) W (hr1.keeps (h.keeps (fun _ _ _ => id))) (hr2.keeps (h.keeps (fun _ _ _ => id))) (by have := spoken_len l; omega)).mono fun e w' ⟨he, m, hw⟩ => ⟨by simpa using he, hw ▸ (Mod.refl _ _).drewN m⟩
        have HPG : Hid (∀ W B1 d1 B2 d2, RowAt (fun _ => True) W B1 (ptCells (peer l p)) → RowAt (fun _ => True) W B2 (ptCells (peer l p)) → Calls Try.prog 16 #[.slice B1 (peer l p).length d1, .slice B2 (peer l p).length d2] W fun e w' => e = .returned (.bool true) ∧ Mod No W w') := fun W B1 d1 B2 d2 h1 h2 =>
          (points_ok B1 B2 d1 d2 (peer l p) (peer l p) W h1 h2 (by have := peer_len l p; omega)).mono fun e w' ⟨he, m, hw⟩ => ⟨by simpa using he, hw ▸ (Mod.refl _ _).drewN m⟩
        have HP1 : Hid (∀ W, Mod No wr W → Calls Try.prog 14 #[.slice A n c, .agg #[.int .u32 p.ip, .int .u16 p.port]] W fun e w' => ∃ A' c', e = .returned (.slice A' (peer l p).length c') ∧ RowAt (fun _ => True) w' A' (ptCells (peer l p)) ∧ Mod No W w') := fun W h => by
          rw [← HN.out]
          refine (peer_ok A c l p W (hrow W h) (by have := HN.out; omega)).mono ?_
          rintro e w' ⟨v, rfl, hown, hm⟩
          obtain ⟨A', c', rfl, _, hr⟩ := RowAt.of_owns hown
          exact ⟨A', c', rfl, hr.mono (fun _ _ _ => trivial), hm⟩
        have HP2 : Hid (∀ W, Mod No wr W → Calls Try.prog 15 #[.slice A n c, .agg #[.int .u32 p.ip, .int .u16 p.port]] W fun e w' => ∃ A' c', e = .returned (.slice A' (peer l p).length c') ∧ RowAt (fun _ => True) w' A' (ptCells (peer l p)) ∧ Mod No W w') := fun W h => by
          refine (refPeer_ok A c n l p W (hrow W h) HN.out.symm (by omega)).mono ?_
          rintro e w' ⟨A', c', rfl, hr, hm⟩
          exact ⟨A', c', rfl, hr.mono (fun _ _ _ => trivial), hm⟩
        have HA1 : Hid (∀ W, Mod No wr W → Calls Try.prog 17 #[.int .i64 f, .slice A1 (spoken l).length c1, .agg #[.int .u32 q.ip, .int .u16 q.port]] W fun e w' => e = .returned (.bool (allows f (spoken l) q)) ∧ Mod No W w') := fun W h =>
          allows_ok f q A1 c1 (spoken l) W (hr1.keeps (h.keeps (fun _ _ _ => id))) (by have := spoken_len l; omega)
        have HA2 : Hid (∀ W, Mod No wr W → Calls Try.prog 18 #[.int .i64 f, .slice A1 (spoken l).length c1, .agg #[.int .u32 q.ip, .int .u16 q.port]] W fun e w' => e = .returned (.bool (allows f (spoken l) q)) ∧ Mod No W w') := fun W h =>
          refAllows_ok f q A1 c1 _ (spoken l) W (hr1.keeps (h.keeps (fun _ _ _ => id))) rfl (by have := spoken_len l; omega)
        have HA3 : Hid (∀ W g, Mod No wr W → Calls Try.prog 17 #[.int .i64 g, .slice A n c, .agg #[.int .u32 q.ip, .int .u16 q.port]] W fun e w' => e = .returned (.bool (allows g l q)) ∧ Mod No W w') := fun W g h => by
          rw [← HN.out]
          exact allows_ok g q A c l W (hrow W h) (by have := HN.out; omega)
        have HA4 : Hid (∀ W g, Mod No wr W → Calls Try.prog 18 #[.int .i64 g, .slice A n c, .agg #[.int .u32 q.ip, .int .u16 q.port]] W fun e w' => e = .returned (.bool (allows g l q)) ∧ Mod No W w') := fun W g h =>
          refAllows_ok g q A c n l W (hrow W h) HN.out.symm hl
        have HO := Lib.hid (fun w' (h : Mod No wr w') => And.intro ((blk_cell ((hm.trans h).obj HB1.out id) 0).trans rfl : w'.cell? ⟨w.heap.size, 0, none⟩ = some (.int .u32 p.ip)) (And.intro ((blk_cell ((hm.trans h).obj HB1.out id) 1).trans rfl : w'.cell? ⟨w.heap.size, 1, none⟩ = some (.int .u16 p.port)) (And.intro ((blk_cell ((hm.trans h).obj HB2.out id) 0).trans rfl : w'.cell? ⟨w.heap.size + 1, 0, none⟩ = some (.int .u32 q.ip)) ((blk_cell ((hm.trans h).obj HB2.out id) 1).trans rfl : w'.cell? ⟨w.heap.size + 1, 1, none⟩ = some (.int .u16 q.port)))))
        have hlt' : ¬ (k : Int) < n := by omega
        clear hm hr1 hr2 hrow
        generalize hsp : spoken l = sp at HPT HA1 HA2 ⊢
        generalize hpp : peer l p = pp at HPG HP1 HP2
        clear hsp hpp
        go_wp2_with fail
        go_region_held3 (fun w' => w'.cell? ⟨w.heap.size, 0, none⟩ = some (.int .u32 p.ip) ∧ w'.cell? ⟨w.heap.size, 1, none⟩ = some (.int .u16 p.port) ∧ w'.cell? ⟨w.heap.size + 1, 0, none⟩ = some (.int .u32 q.ip) ∧ w'.cell? ⟨w.heap.size + 1, 1, none⟩ = some (.int .u16 q.port))
          ((refine HO.out _ ?_; (repeat (first | with_reducible exact Mod.refl _ _ | with_reducible exact z8 | with_reducible exact z7 | with_reducible exact z6 | with_reducible exact z5 | with_reducible exact z4 | with_reducible exact z3 | with_reducible exact z2 | with_reducible exact z1 | refine Mod.alloc ?_ _ | refine Mod.drew ?_))))
          (first | (go_at_call 16; have gd := r4; clear gd; refine (HPG.out _ _ _ _ _ r3' r4).mono ?_; rintro e x4 ⟨rfl, m4⟩; have z4 : Mod No wr x4 := Mod.trans (by (repeat (first | with_reducible exact Mod.refl _ _ | with_reducible exact z8 | with_reducible exact z7 | with_reducible exact z6 | with_reducible exact z5 | with_reducible exact z4 | with_reducible exact z3 | with_reducible exact z2 | with_reducible exact z1 | refine Mod.alloc ?_ _ | refine Mod.drew ?_))) m4; clear m4) | (go_at_call 16; refine (HPT.out _ ?_).mono ?_; (repeat (first | with_reducible exact Mod.refl _ _ | with_reducible exact z8 | with_reducible exact z7 | with_reducible exact z6 | with_reducible exact z5 | with_reducible exact z4 | with_reducible exact z3 | with_reducible exact z2 | with_reducible exact z1 | refine Mod.alloc ?_ _ | refine Mod.drew ?_)); rintro e x1 ⟨rfl, m1⟩; have z1 : Mod No wr x1 := Mod.trans (by (repeat (first | with_reducible exact Mod.refl _ _ | with_reducible exact z8 | with_reducible exact z7 | with_reducible exact z6 | with_reducible exact z5 | with_reducible exact z4 | with_reducible exact z3 | with_reducible exact z2 | with_reducible exact z1 | refine Mod.alloc ?_ _ | refine Mod.drew ?_))) m1; clear m1) | (go_at_call 14; refine (HP1.out _ ?_).mono ?_; (repeat (first | with_reducible exact Mod.refl _ _ | with_reducible exact z8 | with_reducible exact z7 | with_reducible exact z6 | with_reducible exact z5 | with_reducible exact z4 | with_reducible exact z3 | with_reducible exact z2 | with_reducible exact z1 | refine Mod.alloc ?_ _ | refine Mod.drew ?_)); rintro e x2 ⟨A3, c3, rfl, r3, m2⟩; have z2 : Mod No wr x2 := Mod.trans (by (repeat (first | with_reducible exact Mod.refl _ _ | with_reducible exact z8 | with_reducible exact z7 | with_reducible exact z6 | with_reducible exact z5 | with_reducible exact z4 | with_reducible exact z3 | with_reducible exact z2 | with_reducible exact z1 | refine Mod.alloc ?_ _ | refine Mod.drew ?_))) m2; clear m2) | (go_at_call 15; refine (HP2.out _ ?_).mono ?_; (repeat (first | with_reducible exact Mod.refl _ _ | with_reducible exact z8 | with_reducible exact z7 | with_reducible exact z6 | with_reducible exact z5 | with_reducible exact z4 | with_reducible exact z3 | with_reducible exact z2 | with_reducible exact z1 | refine Mod.alloc ?_ _ | refine Mod.drew ?_)); rintro e x3 ⟨A4, c4, rfl, r4, m3⟩; have z3 : Mod No wr x3 := Mod.trans (by (repeat (first | with_reducible exact Mod.refl _ _ | with_reducible exact z8 | with_reducible exact z7 | with_reducible exact z6 | with_reducible exact z5 | with_reducible exact z4 | with_reducible exact z3 | with_reducible exact z2 | with_reducible exact z1 | refine Mod.alloc ?_ _ | refine Mod.drew ?_))) m3; have r3' := r3.keeps (Mod.keeps (Mod.trans (by (repeat (first | with_reducible exact Mod.refl _ _ | refine Mod.drew ?_))) m3) (fun _ _ _ => id)); clear m3 r3) | (go_at_call 17; have gd := z6; clear gd; refine (HA3.out _ _ ?_).mono ?_; (repeat (first | with_reducible exact Mod.refl _ _ | with_reducible exact z8 | with_reducible exact z7 | with_reducible exact z6 | with_reducible exact z5 | with_reducible exact z4 | with_reducible exact z3 | with_reducible exact z2 | with_reducible exact z1 | refine Mod.alloc ?_ _ | refine Mod.drew ?_)); rintro e x7 ⟨rfl, m7⟩; have z7 : Mod No wr x7 := Mod.trans (by (repeat (first | with_reducible exact Mod.refl _ _ | with_reducible exact z8 | with_reducible exact z7 | with_reducible exact z6 | with_reducible exact z5 | with_reducible exact z4 | with_reducible exact z3 | with_reducible exact z2 | with_reducible exact z1 | refine Mod.alloc ?_ _ | refine Mod.drew ?_))) m7; clear m7) | (go_at_call 17; refine (HA1.out _ ?_).mono ?_; (repeat (first | with_reducible exact Mod.refl _ _ | with_reducible exact z8 | with_reducible exact z7 | with_reducible exact z6 | with_reducible exact z5 | with_reducible exact z4 | with_reducible exact z3 | with_reducible exact z2 | with_reducible exact z1 | refine Mod.alloc ?_ _ | refine Mod.drew ?_)); rintro e x5 ⟨rfl, m5⟩; have z5 : Mod No wr x5 := Mod.trans (by (repeat (first | with_reducible exact Mod.refl _ _ | with_reducible exact z8 | with_reducible exact z7 | with_reducible exact z6 | with_reducible exact z5 | with_reducible exact z4 | with_reducible exact z3 | with_reducible exact z2 | with_reducible exact z1 | refine Mod.alloc ?_ _ | refine Mod.drew ?_))) m5; clear m5) | (go_at_call 18; have gd := z7; clear gd; refine (HA4.out _ _ ?_).mono ?_; (repeat (first | with_reducible exact Mod.refl _ _ | with_reducible exact z8 | with_reducible exact z7 | with_reducible exact z6 | with_reducible exact z5 | with_reducible exact z4 | with_reducible exact z3 | with_reducible exact z2 | with_reducible exact z1 | refine Mod.alloc ?_ _ | refine Mod.drew ?_)); rintro e x8 ⟨rfl, m8⟩; have z8 : Mod No wr x8 := Mod.trans (by (repeat (first | with_reducible exact Mod.refl _ _ | with_reducible exact z8 | with_reducible exact z7 | with_reducible exact z6 | with_reducible exact z5 | with_reducible exact z4 | with_reducible exact z3 | with_reducible exact z2 | with_reducible exact z1 | refine Mod.alloc ?_ _ | refine Mod.drew ?_))) m8; clear m8) | (go_at_call 18; refine (HA2.out _ ?_).mono ?_; (repeat (first | with_reducible exact Mod.refl _ _ | with_reducible exact z8 | with_reducible exact z7 | with_reducible exact z6 | with_reducible exact z5 | with_reducible exact z4 | with_reducible exact z3 | with_reducible exact z2 | with_reducible exact z1 | refine Mod.alloc ?_ _ | refine Mod.drew ?_)); rintro e x6 ⟨rfl, m6⟩; have z6 : Mod No wr x6 := Mod.trans (by (repeat (first | with_reducible exact Mod.refl _ _ | with_reducible exact z8 | with_reducible exact z7 | with_reducible exact z6 | with_reducible exact z5 | with_reducible exact z4 | with_reducible exact z3 | with_reducible exact z2 | with_reducible exact z1 | refine Mod.alloc ?_ _ | refine Mod.drew ?_))) m6; clear m6) | fail)
        all_goals
          go_wp2_with fail
          go_ret
          exact ⟨by first | rfl | simp, HWW.out.trans z8⟩

end Go.Proofs.Ytdndagjpikdolaa
