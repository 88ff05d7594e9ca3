/-
  What is written is read back, from wherever it stands; what bytes were read as, they are read as with more behind. No program in sight.
-/
import Derived.Test.YtcnemhhbihhcfaaRdP
import Derived.Test.YtcnemhhbihhcfaaCfgT
namespace Go.Proofs.Ytcnemhhbihhcfaa
open Go.RowKit
set_option linter.unusedVariables false
set_option linter.unusedSimpArgs false

/-! ### read back -/
theorem rtake_at (P X Q : List UInt8) (k : Nat) (hk : k = X.length) : rtake (P ++ X ++ Q) (P.length, false) k = (X, ((P ++ X).length, false)) := by
  subst hk
  unfold rtake
  rw [if_neg (by simp)]
  simp only [List.append_assoc, List.length_append, Prod.mk.injEq, and_true]
  rw [List.drop_left, List.take_left]
theorem beval_be : ∀ (k n : Nat) (m : Nat), (be k n).foldl (fun n x => n * 256 + x.toNat) m = m * 256 ^ k + n % 256 ^ k
  | 0, n, m => by simp [be, Nat.mod_one]
  | k + 1, n, m => by
    rw [be, List.foldl_cons, beval_be k n]
    simp only [UInt8.toNat_ofNat']
    have h1 : n % 256 ^ (k + 1) = 256 ^ k * (n / 256 ^ k % 256) + n % 256 ^ k := by
      rw [Nat.pow_succ, Nat.mod_mul]
      omega
    have h2 : 256 ^ (k + 1) = 256 * 256 ^ k := by rw [Nat.pow_succ, Nat.mul_comm]
    rw [h1, h2, Nat.add_mul, Nat.mul_comm (256 ^ k) (n / 256 ^ k % 256), ← Nat.mul_assoc m 256, Nat.add_assoc]
theorem rnum_at (P Q : List UInt8) (k n : Nat) (h : n < 256 ^ k) : rnum (P ++ be k n ++ Q) k (P.length, false) = (n, ((P ++ be k n).length, false)) := by
  unfold rnum
  rw [rtake_at P (be k n) Q k (be_length k n).symm]
  simp only [beval, beval_be, Nat.zero_mul, Nat.zero_add, Nat.mod_eq_of_lt h]
theorem rname_at (P Q l : List UInt8) (h : l.length ≤ 255) : rname (P ++ nameB' l ++ Q) (P.length, false) = (l, ((P ++ nameB' l).length, false)) := by
  have e : nameB' l = be 1 l.length ++ l := by rw [nameB', Nat.min_eq_left h, List.take_of_length_le h]
  have h1 : rnum (P ++ nameB' l ++ Q) 1 (P.length, false) = (l.length, ((P ++ be 1 l.length).length, false)) := by
    rw [e, show P ++ (be 1 l.length ++ l) ++ Q = P ++ be 1 l.length ++ (l ++ Q) by simp]
    exact rnum_at P (l ++ Q) 1 l.length (by omega)
  have h2 : rname (P ++ nameB' l ++ Q) (P.length, false) = rtake (P ++ nameB' l ++ Q) (rnum (P ++ nameB' l ++ Q) 1 (P.length, false)).2 (rnum (P ++ nameB' l ++ Q) 1 (P.length, false)).1 := rfl
  rw [h2, h1, e]
  have h3 := rtake_at (P ++ be 1 l.length) l Q l.length rfl
  simpa using h3
theorem rnums_at : ∀ (l : List Nat) (P Q : List UInt8), (∀ x ∈ l, x < 4294967296) → rmany (rnum (P ++ nums4 l ++ Q) 4) l.length (P.length, false) = (l, ((P ++ nums4 l).length, false))
  | [], P, Q, _ => by simp [rmany, nums4]
  | x :: l, P, Q, h => by
    have e : P ++ nums4 (x :: l) ++ Q = P ++ be 4 x ++ (nums4 l ++ Q) := by simp [nums4]
    have e2 : P ++ nums4 (x :: l) ++ Q = (P ++ be 4 x) ++ nums4 l ++ Q := by simp [nums4]
    have h1 : rnum (P ++ nums4 (x :: l) ++ Q) 4 (P.length, false) = (x, ((P ++ be 4 x).length, false)) := by rw [e]; exact rnum_at P _ 4 x (h x (by simp))
    rw [List.length_cons, rmany_step _ _ rfl, h1]
    have ih := rnums_at l (P ++ be 4 x) Q (fun y hy => h y (by simp [hy]))
    rw [← e2] at ih
    simp only [ih]
    simp [nums4]
theorem rprs_at : ∀ (l : List Pr) (P Q : List UInt8), (∀ x ∈ l, x.a < 4294967296 ∧ x.b < 4294967296) → rmany (rpr (P ++ prs8 l ++ Q)) l.length (P.length, false) = (l, ((P ++ prs8 l).length, false))
  | [], P, Q, _ => by simp [rmany, prs8]
  | x :: l, P, Q, h => by
    have e : P ++ prs8 (x :: l) ++ Q = P ++ be 4 x.a ++ (be 4 x.b ++ prs8 l ++ Q) := by simp [prs8]
    have e1 : P ++ prs8 (x :: l) ++ Q = (P ++ be 4 x.a) ++ be 4 x.b ++ (prs8 l ++ Q) := by simp [prs8]
    have e2 : P ++ prs8 (x :: l) ++ Q = (P ++ be 4 x.a ++ be 4 x.b) ++ prs8 l ++ Q := by simp [prs8]
    have h1 : rnum (P ++ prs8 (x :: l) ++ Q) 4 (P.length, false) = (x.a, ((P ++ be 4 x.a).length, false)) := by rw [e]; exact rnum_at P _ 4 x.a (h x (by simp)).1
    have h2 : rnum (P ++ prs8 (x :: l) ++ Q) 4 ((P ++ be 4 x.a).length, false) = (x.b, ((P ++ be 4 x.a ++ be 4 x.b).length, false)) := by rw [e1]; exact rnum_at _ _ 4 x.b (h x (by simp)).2
    have h3 : rpr (P ++ prs8 (x :: l) ++ Q) (P.length, false) = (x, ((P ++ be 4 x.a ++ be 4 x.b).length, false)) := by
      unfold rpr
      rw [h1]
      simp only [h2]
    rw [List.length_cons, rmany_step _ _ rfl, h3]
    have ih := rprs_at l (P ++ be 4 x.a ++ be 4 x.b) Q (fun y hy => h y (by simp [hy]))
    rw [← e2] at ih
    simp only [ih]
    simp [prs8]
theorem flat_split (l : List (List UInt8)) (L R : List UInt8) (k : Nat) (X : List UInt8) (h : l[k]? = some X) :
    L ++ l.flatten ++ R = (L ++ (l.take k).flatten) ++ X ++ ((l.drop (k + 1)).flatten ++ R) ∧ L ++ (l.take (k + 1)).flatten = (L ++ (l.take k).flatten) ++ X := by
  obtain ⟨hlt, e⟩ := List.getElem?_eq_some_iff.1 h
  have h1 : (l.take (k + 1)).flatten = (l.take k).flatten ++ X := by
    rw [List.take_succ_eq_append_getElem hlt, e]; simp
  have h2 : l.flatten = (l.take (k + 1)).flatten ++ (l.drop (k + 1)).flatten := by rw [← List.flatten_append, List.take_append_drop]
  exact ⟨by rw [h2, h1]; simp, by rw [h1]; simp⟩

/-- Nothing is cut off. -/
structure Ten.Fits (t : Ten) : Prop where
  name : t.name.length ≤ 255
  pool : t.pool.length ≤ 255
  statics : t.statics.length ≤ 255
  twices : t.twices.length ≤ 255
  filter : 0 ≤ t.filter ∧ t.filter ≤ 255
  sess : 0 ≤ t.sess ∧ t.sess ≤ 65535
  queue : 0 ≤ t.queue ∧ t.queue ≤ 65535
theorem u64n_of {z : Int} (h0 : 0 ≤ z) (h1 : z < 18446744073709551616) : (u64n z : Int) = z := by
  rw [← u64n_cast]
  simp [IntKind.wrap, IntKind.bits, IntKind.signed]
  omega
theorem K8.of_l (k : K8) : K8.of k.l = k := rfl
theorem M6.of_l (m : M6) : M6.of m.l = m := rfl

/-- Where field k begins. -/
def pos (L : List UInt8) (t : Ten) (k : Nat) : St := ((L ++ ((wfields t).take k).flatten).length, false)
set_option maxHeartbeats 1000000 in
theorem rten_at (t : Ten) (hok : t.Ok) (hf : t.Fits) (L R : List UInt8) : rten (L ++ wten t ++ R) (L.length, false) = (t, ((L ++ wten t).length, false)) := by
  obtain ⟨B, hB⟩ : ∃ B, B = L ++ wten t ++ R := ⟨_, rfl⟩
  rw [← hB]
  have hsp := fun k X h => flat_split (wfields t) L R k X h
  have e0 : (L.length, false) = pos L t 0 := by simp [pos]
  rw [e0]
  have m1 : min t.pool.length 255 = t.pool.length := Nat.min_eq_left hf.pool
  have m2 : min t.statics.length 255 = t.statics.length := Nat.min_eq_left hf.statics
  have m3 : min t.twices.length 255 = t.twices.length := Nat.min_eq_left hf.twices
  have k1 : t.pool.take 255 = t.pool := List.take_of_length_le hf.pool
  have k2 : t.statics.take 255 = t.statics := List.take_of_length_le hf.statics
  have k3 : t.twices.take 255 = t.twices := List.take_of_length_le hf.twices
  have n0 : rname B (pos L t 0) = (t.name, pos L t 1) := by
    obtain ⟨h1, h2⟩ := hsp 0 (nameB' t.name) (rfl)
    unfold pos
    rw [hB, wten, h1, h2]
    exact rname_at _ _ _ hf.name
  have n1 : rnum B 4 (pos L t 1) = (t.vni, pos L t 2) := by
    obtain ⟨h1, h2⟩ := hsp 1 (be 4 t.vni) (rfl)
    unfold pos
    rw [hB, wten, h1, h2]
    exact rnum_at _ _ 4 _ hok.vni
  have n2 : rtake B (pos L t 2) 8 = (t.key.l, pos L t 3) := by
    obtain ⟨h1, h2⟩ := hsp 2 (t.key.l) (rfl)
    unfold pos
    rw [hB, wten, h1, h2]
    exact rtake_at _ _ _ 8 rfl
  have n3 : rnum B 4 (pos L t 3) = (t.vtep, pos L t 4) := by
    obtain ⟨h1, h2⟩ := hsp 3 (be 4 t.vtep) (rfl)
    unfold pos
    rw [hB, wten, h1, h2]
    exact rnum_at _ _ 4 _ hok.vtep
  have n4 : rtake B (pos L t 4) 6 = (t.vmac.l, pos L t 5) := by
    obtain ⟨h1, h2⟩ := hsp 4 (t.vmac.l) (rfl)
    unfold pos
    rw [hB, wten, h1, h2]
    exact rtake_at _ _ _ 6 rfl
  have n5 : rtake B (pos L t 5) 6 = (t.host.l, pos L t 6) := by
    obtain ⟨h1, h2⟩ := hsp 5 (t.host.l) (rfl)
    unfold pos
    rw [hB, wten, h1, h2]
    exact rtake_at _ _ _ 6 rfl
  have n6 : rnum B 2 (pos L t 6) = (t.lo, pos L t 7) := by
    obtain ⟨h1, h2⟩ := hsp 6 (be 2 t.lo) (rfl)
    unfold pos
    rw [hB, wten, h1, h2]
    exact rnum_at _ _ 2 _ hok.lo
  have n7 : rnum B 2 (pos L t 7) = (t.hi, pos L t 8) := by
    obtain ⟨h1, h2⟩ := hsp 7 (be 2 t.hi) (rfl)
    unfold pos
    rw [hB, wten, h1, h2]
    exact rnum_at _ _ 2 _ hok.hi
  have n8 : rnum B 1 (pos L t 8) = (u64n t.filter, pos L t 9) := by
    obtain ⟨h1, h2⟩ := hsp 8 (be 1 (u64n t.filter)) (rfl)
    unfold pos
    rw [hB, wten, h1, h2]
    exact rnum_at _ _ 1 _ (by have := hf.filter; have := u64n_of (z := t.filter) (by omega) (by omega); omega)
  have n9 : rnum B 2 (pos L t 9) = (u64n t.sess, pos L t 10) := by
    obtain ⟨h1, h2⟩ := hsp 9 (be 2 (u64n t.sess)) (rfl)
    unfold pos
    rw [hB, wten, h1, h2]
    exact rnum_at _ _ 2 _ (by have := hf.sess; have := u64n_of (z := t.sess) (by omega) (by omega); omega)
  have n10 : rnum B 2 (pos L t 10) = (u64n t.queue, pos L t 11) := by
    obtain ⟨h1, h2⟩ := hsp 10 (be 2 (u64n t.queue)) (rfl)
    unfold pos
    rw [hB, wten, h1, h2]
    exact rnum_at _ _ 2 _ (by have := hf.queue; have := u64n_of (z := t.queue) (by omega) (by omega); omega)
  have n11 : rnum B 4 (pos L t 11) = (t.rate, pos L t 12) := by
    obtain ⟨h1, h2⟩ := hsp 11 (be 4 t.rate) (rfl)
    unfold pos
    rw [hB, wten, h1, h2]
    exact rnum_at _ _ 4 _ hok.rate
  have n12 : rnum B 4 (pos L t 12) = (t.burst, pos L t 13) := by
    obtain ⟨h1, h2⟩ := hsp 12 (be 4 t.burst) (rfl)
    unfold pos
    rw [hB, wten, h1, h2]
    exact rnum_at _ _ 4 _ hok.burst
  have n13 : rnum B 1 (pos L t 13) = (t.pool.length, pos L t 14) := by
    obtain ⟨h1, h2⟩ := hsp 13 (be 1 t.pool.length) (by simp only [wfields, m1, m2, m3, k1, k2, k3]; rfl)
    unfold pos
    rw [hB, wten, h1, h2]
    exact rnum_at _ _ 1 _ (by have := hf.pool; omega)
  have n14 : rnum B 1 (pos L t 14) = (t.statics.length, pos L t 15) := by
    obtain ⟨h1, h2⟩ := hsp 14 (be 1 t.statics.length) (by simp only [wfields, m1, m2, m3, k1, k2, k3]; rfl)
    unfold pos
    rw [hB, wten, h1, h2]
    exact rnum_at _ _ 1 _ (by have := hf.statics; omega)
  have n15 : rnum B 1 (pos L t 15) = (t.twices.length, pos L t 16) := by
    obtain ⟨h1, h2⟩ := hsp 15 (be 1 t.twices.length) (by simp only [wfields, m1, m2, m3, k1, k2, k3]; rfl)
    unfold pos
    rw [hB, wten, h1, h2]
    exact rnum_at _ _ 1 _ (by have := hf.twices; omega)
  have n16 : rmany (rnum B 4) t.pool.length (pos L t 16) = (t.pool, pos L t 17) := by
    obtain ⟨h1, h2⟩ := hsp 16 (nums4 t.pool) (by simp only [wfields, m1, m2, m3, k1, k2, k3]; rfl)
    unfold pos
    rw [hB, wten, h1, h2]
    exact rnums_at _ _ _ hok.pool
  have n17 : rmany (rpr B) t.statics.length (pos L t 17) = (t.statics, pos L t 18) := by
    obtain ⟨h1, h2⟩ := hsp 17 (prs8 t.statics) (by simp only [wfields, m1, m2, m3, k1, k2, k3]; rfl)
    unfold pos
    rw [hB, wten, h1, h2]
    exact rprs_at _ _ _ hok.statics
  have n18 : rmany (rpr B) t.twices.length (pos L t 18) = (t.twices, pos L t 19) := by
    obtain ⟨h1, h2⟩ := hsp 18 (prs8 t.twices) (by simp only [wfields, m1, m2, m3, k1, k2, k3]; rfl)
    unfold pos
    rw [hB, wten, h1, h2]
    exact rprs_at _ _ _ hok.twices
  have s0 : rk B (pos L t 0) 0 = (⟨Ten.zero, 0, 0, 0, pos L t 0⟩ : RS) := rfl
  have s1 : rk B (pos L t 0) 1 = (⟨{ Ten.zero with name := t.name }, 0, 0, 0, pos L t 1⟩ : RS) := by
    have hk : rk B (pos L t 0) 1 = (fun r => { r with t := { r.t with name := (rname B r.s).1 }, s := (rname B r.s).2 }) (rk B (pos L t 0) 0) := rfl
    rw [hk, s0]
    simp only [n0, K8.of_l, M6.of_l]
  have s2 : rk B (pos L t 0) 2 = (⟨{ Ten.zero with name := t.name, vni := t.vni }, 0, 0, 0, pos L t 2⟩ : RS) := by
    have hk : rk B (pos L t 0) 2 = (fun r => { r with t := { r.t with vni := (rnum B 4 r.s).1 }, s := (rnum B 4 r.s).2 }) (rk B (pos L t 0) 1) := rfl
    rw [hk, s1]
    simp only [n1, K8.of_l, M6.of_l]
  have s3 : rk B (pos L t 0) 3 = (⟨{ Ten.zero with name := t.name, vni := t.vni, key := t.key }, 0, 0, 0, pos L t 3⟩ : RS) := by
    have hk : rk B (pos L t 0) 3 = (fun r => { r with t := { r.t with key := K8.of (rtake B r.s 8).1 }, s := (rtake B r.s 8).2 }) (rk B (pos L t 0) 2) := rfl
    rw [hk, s2]
    simp only [n2, K8.of_l, M6.of_l]
  have s4 : rk B (pos L t 0) 4 = (⟨{ Ten.zero with name := t.name, vni := t.vni, key := t.key, vtep := t.vtep }, 0, 0, 0, pos L t 4⟩ : RS) := by
    have hk : rk B (pos L t 0) 4 = (fun r => { r with t := { r.t with vtep := (rnum B 4 r.s).1 }, s := (rnum B 4 r.s).2 }) (rk B (pos L t 0) 3) := rfl
    rw [hk, s3]
    simp only [n3, K8.of_l, M6.of_l]
  have s5 : rk B (pos L t 0) 5 = (⟨{ Ten.zero with name := t.name, vni := t.vni, key := t.key, vtep := t.vtep, vmac := t.vmac }, 0, 0, 0, pos L t 5⟩ : RS) := by
    have hk : rk B (pos L t 0) 5 = (fun r => { r with t := { r.t with vmac := M6.of (rtake B r.s 6).1 }, s := (rtake B r.s 6).2 }) (rk B (pos L t 0) 4) := rfl
    rw [hk, s4]
    simp only [n4, K8.of_l, M6.of_l]
  have s6 : rk B (pos L t 0) 6 = (⟨{ Ten.zero with name := t.name, vni := t.vni, key := t.key, vtep := t.vtep, vmac := t.vmac, host := t.host }, 0, 0, 0, pos L t 6⟩ : RS) := by
    have hk : rk B (pos L t 0) 6 = (fun r => { r with t := { r.t with host := M6.of (rtake B r.s 6).1 }, s := (rtake B r.s 6).2 }) (rk B (pos L t 0) 5) := rfl
    rw [hk, s5]
    simp only [n5, K8.of_l, M6.of_l]
  have s7 : rk B (pos L t 0) 7 = (⟨{ Ten.zero with name := t.name, vni := t.vni, key := t.key, vtep := t.vtep, vmac := t.vmac, host := t.host, lo := t.lo }, 0, 0, 0, pos L t 7⟩ : RS) := by
    have hk : rk B (pos L t 0) 7 = (fun r => { r with t := { r.t with lo := (rnum B 2 r.s).1 }, s := (rnum B 2 r.s).2 }) (rk B (pos L t 0) 6) := rfl
    rw [hk, s6]
    simp only [n6, K8.of_l, M6.of_l]
  have s8 : rk B (pos L t 0) 8 = (⟨{ Ten.zero with name := t.name, vni := t.vni, key := t.key, vtep := t.vtep, vmac := t.vmac, host := t.host, lo := t.lo, hi := t.hi }, 0, 0, 0, pos L t 8⟩ : RS) := by
    have hk : rk B (pos L t 0) 8 = (fun r => { r with t := { r.t with hi := (rnum B 2 r.s).1 }, s := (rnum B 2 r.s).2 }) (rk B (pos L t 0) 7) := rfl
    rw [hk, s7]
    simp only [n7, K8.of_l, M6.of_l]
  have s9 : rk B (pos L t 0) 9 = (⟨{ Ten.zero with name := t.name, vni := t.vni, key := t.key, vtep := t.vtep, vmac := t.vmac, host := t.host, lo := t.lo, hi := t.hi, filter := ((u64n t.filter : Nat) : Int) }, 0, 0, 0, pos L t 9⟩ : RS) := by
    have hk : rk B (pos L t 0) 9 = (fun r => { r with t := { r.t with filter := (rnum B 1 r.s).1 }, s := (rnum B 1 r.s).2 }) (rk B (pos L t 0) 8) := rfl
    rw [hk, s8]
    simp only [n8, K8.of_l, M6.of_l]
  have s10 : rk B (pos L t 0) 10 = (⟨{ Ten.zero with name := t.name, vni := t.vni, key := t.key, vtep := t.vtep, vmac := t.vmac, host := t.host, lo := t.lo, hi := t.hi, filter := ((u64n t.filter : Nat) : Int), sess := ((u64n t.sess : Nat) : Int) }, 0, 0, 0, pos L t 10⟩ : RS) := by
    have hk : rk B (pos L t 0) 10 = (fun r => { r with t := { r.t with sess := (rnum B 2 r.s).1 }, s := (rnum B 2 r.s).2 }) (rk B (pos L t 0) 9) := rfl
    rw [hk, s9]
    simp only [n9, K8.of_l, M6.of_l]
  have s11 : rk B (pos L t 0) 11 = (⟨{ Ten.zero with name := t.name, vni := t.vni, key := t.key, vtep := t.vtep, vmac := t.vmac, host := t.host, lo := t.lo, hi := t.hi, filter := ((u64n t.filter : Nat) : Int), sess := ((u64n t.sess : Nat) : Int), queue := ((u64n t.queue : Nat) : Int) }, 0, 0, 0, pos L t 11⟩ : RS) := by
    have hk : rk B (pos L t 0) 11 = (fun r => { r with t := { r.t with queue := (rnum B 2 r.s).1 }, s := (rnum B 2 r.s).2 }) (rk B (pos L t 0) 10) := rfl
    rw [hk, s10]
    simp only [n10, K8.of_l, M6.of_l]
  have s12 : rk B (pos L t 0) 12 = (⟨{ Ten.zero with name := t.name, vni := t.vni, key := t.key, vtep := t.vtep, vmac := t.vmac, host := t.host, lo := t.lo, hi := t.hi, filter := ((u64n t.filter : Nat) : Int), sess := ((u64n t.sess : Nat) : Int), queue := ((u64n t.queue : Nat) : Int), rate := t.rate }, 0, 0, 0, pos L t 12⟩ : RS) := by
    have hk : rk B (pos L t 0) 12 = (fun r => { r with t := { r.t with rate := (rnum B 4 r.s).1 }, s := (rnum B 4 r.s).2 }) (rk B (pos L t 0) 11) := rfl
    rw [hk, s11]
    simp only [n11, K8.of_l, M6.of_l]
  have s13 : rk B (pos L t 0) 13 = (⟨{ Ten.zero with name := t.name, vni := t.vni, key := t.key, vtep := t.vtep, vmac := t.vmac, host := t.host, lo := t.lo, hi := t.hi, filter := ((u64n t.filter : Nat) : Int), sess := ((u64n t.sess : Nat) : Int), queue := ((u64n t.queue : Nat) : Int), rate := t.rate, burst := t.burst }, 0, 0, 0, pos L t 13⟩ : RS) := by
    have hk : rk B (pos L t 0) 13 = (fun r => { r with t := { r.t with burst := (rnum B 4 r.s).1 }, s := (rnum B 4 r.s).2 }) (rk B (pos L t 0) 12) := rfl
    rw [hk, s12]
    simp only [n12, K8.of_l, M6.of_l]
  have s14 : rk B (pos L t 0) 14 = (⟨{ Ten.zero with name := t.name, vni := t.vni, key := t.key, vtep := t.vtep, vmac := t.vmac, host := t.host, lo := t.lo, hi := t.hi, filter := ((u64n t.filter : Nat) : Int), sess := ((u64n t.sess : Nat) : Int), queue := ((u64n t.queue : Nat) : Int), rate := t.rate, burst := t.burst }, t.pool.length, 0, 0, pos L t 14⟩ : RS) := by
    have hk : rk B (pos L t 0) 14 = (fun r => { r with np := (rnum B 1 r.s).1, s := (rnum B 1 r.s).2 }) (rk B (pos L t 0) 13) := rfl
    rw [hk, s13]
    simp only [n13, K8.of_l, M6.of_l]
  have s15 : rk B (pos L t 0) 15 = (⟨{ Ten.zero with name := t.name, vni := t.vni, key := t.key, vtep := t.vtep, vmac := t.vmac, host := t.host, lo := t.lo, hi := t.hi, filter := ((u64n t.filter : Nat) : Int), sess := ((u64n t.sess : Nat) : Int), queue := ((u64n t.queue : Nat) : Int), rate := t.rate, burst := t.burst }, t.pool.length, t.statics.length, 0, pos L t 15⟩ : RS) := by
    have hk : rk B (pos L t 0) 15 = (fun r => { r with ns := (rnum B 1 r.s).1, s := (rnum B 1 r.s).2 }) (rk B (pos L t 0) 14) := rfl
    rw [hk, s14]
    simp only [n14, K8.of_l, M6.of_l]
  have s16 : rk B (pos L t 0) 16 = (⟨{ Ten.zero with name := t.name, vni := t.vni, key := t.key, vtep := t.vtep, vmac := t.vmac, host := t.host, lo := t.lo, hi := t.hi, filter := ((u64n t.filter : Nat) : Int), sess := ((u64n t.sess : Nat) : Int), queue := ((u64n t.queue : Nat) : Int), rate := t.rate, burst := t.burst }, t.pool.length, t.statics.length, t.twices.length, pos L t 16⟩ : RS) := by
    have hk : rk B (pos L t 0) 16 = (fun r => { r with nt := (rnum B 1 r.s).1, s := (rnum B 1 r.s).2 }) (rk B (pos L t 0) 15) := rfl
    rw [hk, s15]
    simp only [n15, K8.of_l, M6.of_l]
  have s17 : rk B (pos L t 0) 17 = (⟨{ Ten.zero with name := t.name, vni := t.vni, key := t.key, vtep := t.vtep, vmac := t.vmac, host := t.host, lo := t.lo, hi := t.hi, filter := ((u64n t.filter : Nat) : Int), sess := ((u64n t.sess : Nat) : Int), queue := ((u64n t.queue : Nat) : Int), rate := t.rate, burst := t.burst, pool := t.pool }, t.pool.length, t.statics.length, t.twices.length, pos L t 17⟩ : RS) := by
    have hk : rk B (pos L t 0) 17 = (fun r => { r with t := { r.t with pool := (rmany (rnum B 4) r.np r.s).1 }, s := (rmany (rnum B 4) r.np r.s).2 }) (rk B (pos L t 0) 16) := rfl
    rw [hk, s16]
    simp only [n16, K8.of_l, M6.of_l]
  have s18 : rk B (pos L t 0) 18 = (⟨{ Ten.zero with name := t.name, vni := t.vni, key := t.key, vtep := t.vtep, vmac := t.vmac, host := t.host, lo := t.lo, hi := t.hi, filter := ((u64n t.filter : Nat) : Int), sess := ((u64n t.sess : Nat) : Int), queue := ((u64n t.queue : Nat) : Int), rate := t.rate, burst := t.burst, pool := t.pool, statics := t.statics }, t.pool.length, t.statics.length, t.twices.length, pos L t 18⟩ : RS) := by
    have hk : rk B (pos L t 0) 18 = (fun r => { r with t := { r.t with statics := (rmany (rpr B) r.ns r.s).1 }, s := (rmany (rpr B) r.ns r.s).2 }) (rk B (pos L t 0) 17) := rfl
    rw [hk, s17]
    simp only [n17, K8.of_l, M6.of_l]
  have s19 : rk B (pos L t 0) 19 = (⟨{ Ten.zero with name := t.name, vni := t.vni, key := t.key, vtep := t.vtep, vmac := t.vmac, host := t.host, lo := t.lo, hi := t.hi, filter := ((u64n t.filter : Nat) : Int), sess := ((u64n t.sess : Nat) : Int), queue := ((u64n t.queue : Nat) : Int), rate := t.rate, burst := t.burst, pool := t.pool, statics := t.statics, twices := t.twices }, t.pool.length, t.statics.length, t.twices.length, pos L t 19⟩ : RS) := by
    have hk : rk B (pos L t 0) 19 = (fun r => { r with t := { r.t with twices := (rmany (rpr B) r.nt r.s).1 }, s := (rmany (rpr B) r.nt r.s).2 }) (rk B (pos L t 0) 18) := rfl
    rw [hk, s18]
    simp only [n18, K8.of_l, M6.of_l]
  have e : (L ++ wten t).length = (pos L t 19).1 := by
    show _ = (L ++ ((wfields t).take 19).flatten).length
    rfl
  unfold rten
  rw [s19, e]
  have hfi := u64n_of (z := t.filter) hf.filter.1 (by have := hf.filter.2; omega)
  have hse := u64n_of (z := t.sess) hf.sess.1 (by have := hf.sess.2; omega)
  have hqu := u64n_of (z := t.queue) hf.queue.1 (by have := hf.queue.2; omega)
  simp only [hfi, hse, hqu]
  rfl

/-! ### with more behind -/
theorem rtake_ext (B R : List UInt8) (s : St) (k : Nat) (h : (rtake B s k).2.2 = false) : s.2 = false ∧ rtake (B ++ R) s k = rtake B s k := by
  obtain ⟨at_, sh⟩ := s
  unfold rtake at h ⊢
  by_cases hc : sh = true ∨ B.length - at_ < k
  · rw [if_pos hc] at h; simp at h
  · rw [if_neg hc] at h ⊢
    have hs : sh = false := by cases sh <;> simp_all
    refine ⟨hs, ?_⟩
    by_cases hk : k = 0
    · subst hk
      rw [if_neg (by simp [hs])]
      simp
    · have hle : at_ + k ≤ B.length := by simp [hs] at hc; omega
      rw [if_neg (by simp [hs]; omega)]
      simp only [Prod.mk.injEq, and_true]
      rw [List.drop_append_of_le_length (by omega), List.take_append_of_le_length (by simp; omega)]
theorem rnum_ext (B R : List UInt8) (s : St) (k : Nat) (h : (rnum B k s).2.2 = false) : s.2 = false ∧ rnum (B ++ R) k s = rnum B k s := by
  have := rtake_ext B R s k h
  exact ⟨this.1, by unfold rnum; rw [this.2]⟩
theorem rname_ext (B R : List UInt8) (s : St) (h : (rname B s).2.2 = false) : s.2 = false ∧ rname (B ++ R) s = rname B s := by
  have h2 := rtake_ext B R _ _ h
  have h1 := rtake_ext B R s 1 h2.1
  exact ⟨h1.1, by unfold rname; rw [h1.2, h2.2]⟩
theorem rpr_ext (B R : List UInt8) (s : St) (h : (rpr B s).2.2 = false) : s.2 = false ∧ rpr (B ++ R) s = rpr B s := by
  have h2 := rnum_ext B R _ 4 h
  have h1 := rnum_ext B R s 4 h2.1
  exact ⟨h1.1, by unfold rpr; rw [h1.2, h2.2]⟩
theorem rmany_ext {α : Type} {rd rd' : St → α × St} (he : ∀ s, (rd s).2.2 = false → s.2 = false ∧ rd' s = rd s) : ∀ n s, (rmany rd n s).2.2 = false → s.2 = false ∧ rmany rd' n s = rmany rd n s
  | 0, s, h => ⟨h, rfl⟩
  | n + 1, s, h => by
    cases hs : s.2 with
    | true => rw [rmany_short _ _ hs] at h; rw [h] at hs; simp at hs
    | false =>
      rw [rmany_step _ _ hs] at h
      have h1 := rmany_ext he n _ h
      have h2 := he s h1.1
      refine ⟨rfl, ?_⟩
      rw [rmany_step _ _ hs, rmany_step _ _ hs, h2.2, h1.2]
theorem rstep_ext (B R : List UInt8) (k : Nat) (f f' : RS → RS) (hf : (rsteps B)[k]? = some f) (hf' : (rsteps (B ++ R))[k]? = some f') (r : RS) (h : (f r).s.2 = false) : r.s.2 = false ∧ f' r = f r := by
  have hk : k < 19 := (List.getElem?_eq_some_iff.1 hf).1
  have hor : k = 0 ∨ k = 1 ∨ k = 2 ∨ k = 3 ∨ k = 4 ∨ k = 5 ∨ k = 6 ∨ k = 7 ∨ k = 8 ∨ k = 9 ∨ k = 10 ∨ k = 11 ∨ k = 12 ∨ k = 13 ∨ k = 14 ∨ k = 15 ∨ k = 16 ∨ k = 17 ∨ k = 18 := by omega
  clear hk
  rcases hor with rfl | rfl | rfl | rfl | rfl | rfl | rfl | rfl | rfl | rfl | rfl | rfl | rfl | rfl | rfl | rfl | rfl | rfl | rfl
  · obtain rfl := Option.some.inj hf
    obtain rfl := Option.some.inj hf'
    have := rname_ext B R _ h
    exact ⟨this.1, by simp only [this.2]⟩
  · obtain rfl := Option.some.inj hf
    obtain rfl := Option.some.inj hf'
    have := rnum_ext B R _ _ h
    exact ⟨this.1, by simp only [this.2]⟩
  · obtain rfl := Option.some.inj hf
    obtain rfl := Option.some.inj hf'
    have := rtake_ext B R _ 8 h
    exact ⟨this.1, by simp only [this.2]⟩
  · obtain rfl := Option.some.inj hf
    obtain rfl := Option.some.inj hf'
    have := rnum_ext B R _ _ h
    exact ⟨this.1, by simp only [this.2]⟩
  · obtain rfl := Option.some.inj hf
    obtain rfl := Option.some.inj hf'
    have := rtake_ext B R _ 6 h
    exact ⟨this.1, by simp only [this.2]⟩
  · obtain rfl := Option.some.inj hf
    obtain rfl := Option.some.inj hf'
    have := rtake_ext B R _ 6 h
    exact ⟨this.1, by simp only [this.2]⟩
  · obtain rfl := Option.some.inj hf
    obtain rfl := Option.some.inj hf'
    have := rnum_ext B R _ _ h
    exact ⟨this.1, by simp only [this.2]⟩
  · obtain rfl := Option.some.inj hf
    obtain rfl := Option.some.inj hf'
    have := rnum_ext B R _ _ h
    exact ⟨this.1, by simp only [this.2]⟩
  · obtain rfl := Option.some.inj hf
    obtain rfl := Option.some.inj hf'
    have := rnum_ext B R _ _ h
    exact ⟨this.1, by simp only [this.2]⟩
  · obtain rfl := Option.some.inj hf
    obtain rfl := Option.some.inj hf'
    have := rnum_ext B R _ _ h
    exact ⟨this.1, by simp only [this.2]⟩
  · obtain rfl := Option.some.inj hf
    obtain rfl := Option.some.inj hf'
    have := rnum_ext B R _ _ h
    exact ⟨this.1, by simp only [this.2]⟩
  · obtain rfl := Option.some.inj hf
    obtain rfl := Option.some.inj hf'
    have := rnum_ext B R _ _ h
    exact ⟨this.1, by simp only [this.2]⟩
  · obtain rfl := Option.some.inj hf
    obtain rfl := Option.some.inj hf'
    have := rnum_ext B R _ _ h
    exact ⟨this.1, by simp only [this.2]⟩
  · obtain rfl := Option.some.inj hf
    obtain rfl := Option.some.inj hf'
    have := rnum_ext B R _ _ h
    exact ⟨this.1, by simp only [this.2]⟩
  · obtain rfl := Option.some.inj hf
    obtain rfl := Option.some.inj hf'
    have := rnum_ext B R _ _ h
    exact ⟨this.1, by simp only [this.2]⟩
  · obtain rfl := Option.some.inj hf
    obtain rfl := Option.some.inj hf'
    have := rnum_ext B R _ _ h
    exact ⟨this.1, by simp only [this.2]⟩
  · obtain rfl := Option.some.inj hf
    obtain rfl := Option.some.inj hf'
    have := rmany_ext (rd' := rnum (B ++ R) 4) (fun s hs => rnum_ext B R s 4 hs) _ _ h
    exact ⟨this.1, by simp only [this.2]⟩
  · obtain rfl := Option.some.inj hf
    obtain rfl := Option.some.inj hf'
    have := rmany_ext (rd' := rpr (B ++ R)) (fun s hs => rpr_ext B R s hs) _ _ h
    exact ⟨this.1, by simp only [this.2]⟩
  · obtain rfl := Option.some.inj hf
    obtain rfl := Option.some.inj hf'
    have := rmany_ext (rd' := rpr (B ++ R)) (fun s hs => rpr_ext B R s hs) _ _ h
    exact ⟨this.1, by simp only [this.2]⟩
theorem rk_ext (B R : List UInt8) (s : St) : ∀ k, k ≤ 19 → (rk B s k).s.2 = false → s.2 = false ∧ rk (B ++ R) s k = rk B s k
  | 0, _, h => ⟨h, rfl⟩
  | k + 1, hk, h => by
    obtain ⟨f, hf⟩ : ∃ f, (rsteps B)[k]? = some f := ⟨_, List.getElem?_eq_getElem (by show k < 19; omega)⟩
    obtain ⟨f', hf'⟩ : ∃ f, (rsteps (B ++ R))[k]? = some f := ⟨_, List.getElem?_eq_getElem (by show k < 19; omega)⟩
    have e : ∀ (B : List UInt8) (f : RS → RS), (rsteps B)[k]? = some f → rk B s (k + 1) = f (rk B s k) := by
      intro B f hf
      obtain ⟨hlt, e⟩ := List.getElem?_eq_some_iff.1 hf
      unfold rk
      rw [List.take_succ_eq_append_getElem hlt, e, List.foldl_append]
      rfl
    rw [e B f hf] at h ⊢
    rw [e (B ++ R) f' hf']
    have h1 := rstep_ext B R k f f' hf hf' _ h
    have h2 := rk_ext B R s k (by omega) h1.1
    refine ⟨h2.1, ?_⟩
    rw [h2.2]
    exact h1.2
theorem rten_ext (B R : List UInt8) (s : St) (h : (rten B s).2.2 = false) : s.2 = false ∧ rten (B ++ R) s = rten B s := by
  have := rk_ext B R s 19 (Nat.le_refl _) h
  exact ⟨this.1, by unfold rten; rw [this.2]⟩
theorem rten_le' (B : List UInt8) (s : St) (h : s.1 ≤ B.length) : (rten B s).2.1 ≤ B.length := by
  have a : ∀ r : RS, r.s.1 ≤ B.length → ∀ f ∈ rsteps B, (f r).s.1 ≤ B.length := by
    intro r hr f hf
    simp only [rsteps, List.mem_cons, List.mem_nil_iff, or_false] at hf
    rcases hf with rfl | rfl | rfl | rfl | rfl | rfl | rfl | rfl | rfl | rfl | rfl | rfl | rfl | rfl | rfl | rfl | rfl | rfl | rfl <;> first | exact rname_le B _ hr | exact rnum_le B _ _ hr | exact rtake_le B _ _ hr | exact rmany_le (rnum_le B 4) _ _ hr | exact rmany_le (rpr_le B) _ _ hr
  have b : ∀ (l : List (RS → RS)) (r : RS), (∀ f ∈ l, f ∈ rsteps B) → r.s.1 ≤ B.length → (l.foldl (fun r f => f r) r).s.1 ≤ B.length := by
    intro l
    induction l with
    | nil => intro r _ hr; exact hr
    | cons f l ih => intro r hl hr; exact ih (f r) (fun g hg => hl g (by simp [hg])) (a r hr f (hl f (by simp)))
  exact b _ _ (fun f hf => List.mem_of_mem_take hf) h
/-- Cut off anywhere: the bytes end. -/
theorem rten_cut (t : Ten) (hok : t.Ok) (hf : t.Fits) (L : List UInt8) (m : Nat) (hm : m < (wten t).length) : (rten (L ++ (wten t).take m) (L.length, false)).2.2 = true := by
  cases h : (rten (L ++ (wten t).take m) (L.length, false)).2.2 with
  | true => rfl
  | false =>
    exfalso
    have h1 := rten_ext _ ((wten t).drop m) _ h
    have h2 := rten_at t hok hf L []
    rw [List.append_assoc, List.take_append_drop] at h1
    rw [List.append_nil] at h2
    have h3 := congrArg (fun q => q.2.1) (h1.2.symm.trans h2)
    have h4 := rten_le' (L ++ (wten t).take m) (L.length, false) (by simp)
    simp only [List.length_append] at h3 h4
    have h5 : ((wten t).take m).length = m := by rw [List.length_take]; omega
    omega

end Go.Proofs.Ytcnemhhbihhcfaa
