/-
  Settings, changes that are written are read back; with a byte more, or one less, they aren't read. No program in sight.
-/
import Derived.Test.YtcnemhhbihhcfaaRdQ
import Derived.Test.YtcnemhhbihhcfaaLawP
namespace Go.Proofs.Ytcnemhhbihhcfaa
open Go.RowKit
set_option linter.unusedVariables false
set_option linter.unusedSimpArgs false

theorem rtens_at : ∀ (l : List TV) (P Q : List UInt8), (∀ x ∈ l, x.t.Ok ∧ x.t.Fits) → rmany (rten (P ++ wtens l ++ Q)) l.length (P.length, false) = (l.map (·.t), ((P ++ wtens l).length, false))
  | [], P, Q, _ => by simp [rmany, wtens]
  | x :: l, P, Q, h => by
    have e : P ++ wtens (x :: l) ++ Q = P ++ wten x.t ++ (wtens l ++ Q) := by simp [wtens]
    have e2 : P ++ wtens (x :: l) ++ Q = (P ++ wten x.t) ++ wtens l ++ Q := by simp [wtens]
    have h1 : rten (P ++ wtens (x :: l) ++ Q) (P.length, false) = (x.t, ((P ++ wten x.t).length, false)) := by
      rw [e]; exact rten_at x.t (h x (by simp)).1 (h x (by simp)).2 P _
    rw [List.length_cons, rmany_step _ _ rfl, h1]
    have ih := rtens_at l (P ++ wten x.t) Q (fun y hy => h y (by simp [hy]))
    rw [← e2] at ih
    simp only [ih]
    simp [wtens]
def cpos (c : Con) (l : List TV) (k : Nat) : St := ((((cfields c l).take k).flatten).length, false)
theorem rcon_at (c : Con) (l : List TV) (R : List UInt8) (hip : c.ip < 4294967296) (hdr : c.drain < 4294967296) (hl : l.length ≤ 255) (h : ∀ x ∈ l, x.t.Ok ∧ x.t.Fits) :
    rcon (wcon c l ++ R) (0, false) = ⟨c, l.length, l.map (·.t), ((wcon c l).length, false)⟩ := by
  obtain ⟨B, hB⟩ : ∃ B, B = wcon c l ++ R := ⟨_, rfl⟩
  rw [← hB]
  have hsp := fun k X h => flat_split (cfields c l) [] R k X h
  have e0 : ((0, false) : St) = cpos c l 0 := by simp [cpos]
  rw [e0]
  have m1 : min l.length 255 = l.length := Nat.min_eq_left hl
  have k1 : l.take 255 = l := List.take_of_length_le hl
  have step : ∀ (k : Nat) (X : List UInt8), (cfields c l)[k]? = some X → ∃ P Q, B = P ++ X ++ Q ∧ cpos c l k = (P.length, false) ∧ cpos c l (k + 1) = ((P ++ X).length, false) := by
    intro k X hk
    obtain ⟨h1, h2⟩ := hsp k X hk
    simp only [List.nil_append] at h1 h2
    exact ⟨((cfields c l).take k).flatten, ((cfields c l).drop (k + 1)).flatten ++ R, by rw [hB, wcon, h1], rfl, by unfold cpos; rw [h2]⟩
  have n0 : rnum B 4 (cpos c l 0) = (c.ip, cpos c l 1) := by
    obtain ⟨P, Q, e, p, q⟩ := step 0 _ rfl
    rw [e, p, q]; exact rnum_at _ _ 4 _ hip
  have n1 : rtake B (cpos c l 1) 6 = (c.mac.l, cpos c l 2) := by
    obtain ⟨P, Q, e, p, q⟩ := step 1 _ rfl
    rw [e, p, q]; exact rtake_at _ _ _ 6 rfl
  have n2 : rtake B (cpos c l 2) 6 = (c.omac.l, cpos c l 3) := by
    obtain ⟨P, Q, e, p, q⟩ := step 2 _ rfl
    rw [e, p, q]; exact rtake_at _ _ _ 6 rfl
  have n3 : rtake B (cpos c l 3) 6 = (c.nmac.l, cpos c l 4) := by
    obtain ⟨P, Q, e, p, q⟩ := step 3 _ rfl
    rw [e, p, q]; exact rtake_at _ _ _ 6 rfl
  have n4 : rtake B (cpos c l 4) 8 = (c.key.l, cpos c l 5) := by
    obtain ⟨P, Q, e, p, q⟩ := step 4 _ rfl
    rw [e, p, q]; exact rtake_at _ _ _ 8 rfl
  have n5 : rnum B 4 (cpos c l 5) = (c.drain, cpos c l 6) := by
    obtain ⟨P, Q, e, p, q⟩ := step 5 _ rfl
    rw [e, p, q]; exact rnum_at _ _ 4 _ hdr
  have n6 : rnum B 1 (cpos c l 6) = (l.length, cpos c l 7) := by
    obtain ⟨P, Q, e, p, q⟩ := step 6 (be 1 l.length) (by simp only [cfields, m1]; rfl)
    rw [e, p, q]; exact rnum_at _ _ 1 _ (by omega)
  have n7 : rmany (rten B) l.length (cpos c l 7) = (l.map (·.t), cpos c l 8) := by
    obtain ⟨P, Q, e, p, q⟩ := step 7 (wtens l) (by simp only [cfields, k1]; rfl)
    rw [e, p, q]; exact rtens_at _ _ _ h
  have e8 : cpos c l 8 = ((wcon c l).length, false) := rfl
  have hr : rcon B (cpos c l 0) = ck B (cpos c l 0) 8 := rfl
  rw [hr, ← e8]
  have s0 : ck B (cpos c l 0) 0 = (⟨Con.zero, 0, [], cpos c l 0⟩ : CS) := rfl
  have s1 : ck B (cpos c l 0) 1 = (⟨{ Con.zero with ip := c.ip }, 0, [], cpos c l 1⟩ : CS) := by
    have hk : ck B (cpos c l 0) 1 = (fun r : CS => ({ r with c := { r.c with ip := (rnum B 4 r.s).1 }, s := (rnum B 4 r.s).2 } : CS)) (ck B (cpos c l 0) 0) := rfl
    rw [hk, s0]
    simp only [n0, K8.of_l, M6.of_l]
  have s2 : ck B (cpos c l 0) 2 = (⟨{ Con.zero with ip := c.ip, mac := c.mac }, 0, [], cpos c l 2⟩ : CS) := by
    have hk : ck B (cpos c l 0) 2 = (fun r : CS => ({ r with c := { r.c with mac := M6.of (rtake B r.s 6).1 }, s := (rtake B r.s 6).2 } : CS)) (ck B (cpos c l 0) 1) := rfl
    rw [hk, s1]
    simp only [n1, K8.of_l, M6.of_l]
  have s3 : ck B (cpos c l 0) 3 = (⟨{ Con.zero with ip := c.ip, mac := c.mac, omac := c.omac }, 0, [], cpos c l 3⟩ : CS) := by
    have hk : ck B (cpos c l 0) 3 = (fun r : CS => ({ r with c := { r.c with omac := M6.of (rtake B r.s 6).1 }, s := (rtake B r.s 6).2 } : CS)) (ck B (cpos c l 0) 2) := rfl
    rw [hk, s2]
    simp only [n2, K8.of_l, M6.of_l]
  have s4 : ck B (cpos c l 0) 4 = (⟨{ Con.zero with ip := c.ip, mac := c.mac, omac := c.omac, nmac := c.nmac }, 0, [], cpos c l 4⟩ : CS) := by
    have hk : ck B (cpos c l 0) 4 = (fun r : CS => ({ r with c := { r.c with nmac := M6.of (rtake B r.s 6).1 }, s := (rtake B r.s 6).2 } : CS)) (ck B (cpos c l 0) 3) := rfl
    rw [hk, s3]
    simp only [n3, K8.of_l, M6.of_l]
  have s5 : ck B (cpos c l 0) 5 = (⟨{ Con.zero with ip := c.ip, mac := c.mac, omac := c.omac, nmac := c.nmac, key := c.key }, 0, [], cpos c l 5⟩ : CS) := by
    have hk : ck B (cpos c l 0) 5 = (fun r : CS => ({ r with c := { r.c with key := K8.of (rtake B r.s 8).1 }, s := (rtake B r.s 8).2 } : CS)) (ck B (cpos c l 0) 4) := rfl
    rw [hk, s4]
    simp only [n4, K8.of_l, M6.of_l]
  have s6 : ck B (cpos c l 0) 6 = (⟨{ Con.zero with ip := c.ip, mac := c.mac, omac := c.omac, nmac := c.nmac, key := c.key, drain := c.drain }, 0, [], cpos c l 6⟩ : CS) := by
    have hk : ck B (cpos c l 0) 6 = (fun r : CS => ({ r with c := { r.c with drain := (rnum B 4 r.s).1 }, s := (rnum B 4 r.s).2 } : CS)) (ck B (cpos c l 0) 5) := rfl
    rw [hk, s5]
    simp only [n5, K8.of_l, M6.of_l]
  have s7 : ck B (cpos c l 0) 7 = (⟨{ Con.zero with ip := c.ip, mac := c.mac, omac := c.omac, nmac := c.nmac, key := c.key, drain := c.drain }, l.length, [], cpos c l 7⟩ : CS) := by
    have hk : ck B (cpos c l 0) 7 = (fun r : CS => ({ r with nt := (rnum B 1 r.s).1, s := (rnum B 1 r.s).2 } : CS)) (ck B (cpos c l 0) 6) := rfl
    rw [hk, s6]
    simp only [n6, K8.of_l, M6.of_l]
  have s8 : ck B (cpos c l 0) 8 = (⟨{ Con.zero with ip := c.ip, mac := c.mac, omac := c.omac, nmac := c.nmac, key := c.key, drain := c.drain }, l.length, l.map (·.t), cpos c l 8⟩ : CS) := by
    have hk : ck B (cpos c l 0) 8 = (fun r : CS => ({ r with l := (rmany (rten B) r.nt r.s).1, s := (rmany (rten B) r.nt r.s).2 } : CS)) (ck B (cpos c l 0) 7) := rfl
    rw [hk, s7]
    simp only [n7, K8.of_l, M6.of_l]
  exact s8

/-! ### with more behind -/
theorem cstep_ext (B R : List UInt8) (k : Nat) (f f' : CS → CS) (hf : (csteps B)[k]? = some f) (hf' : (csteps (B ++ R))[k]? = some f') (r : CS) (h : (f r).s.2 = false) : r.s.2 = false ∧ f' r = f r := by
  have hk : k < 8 := (List.getElem?_eq_some_iff.1 hf).1
  have hor : k = 0 ∨ k = 1 ∨ k = 2 ∨ k = 3 ∨ k = 4 ∨ k = 5 ∨ k = 6 ∨ k = 7 := by omega
  clear hk
  rcases hor with rfl | rfl | rfl | rfl | rfl | rfl | rfl | rfl
  · obtain rfl := Option.some.inj hf
    obtain rfl := Option.some.inj hf'
    have := rnum_ext B R _ _ h
    exact ⟨this.1, by simp only [this.2]⟩
  · obtain rfl := Option.some.inj hf
    obtain rfl := Option.some.inj hf'
    have := rtake_ext B R _ 6 h
    exact ⟨this.1, by simp only [this.2]⟩
  · obtain rfl := Option.some.inj hf
    obtain rfl := Option.some.inj hf'
    have := rtake_ext B R _ 6 h
    exact ⟨this.1, by simp only [this.2]⟩
  · obtain rfl := Option.some.inj hf
    obtain rfl := Option.some.inj hf'
    have := rtake_ext B R _ 6 h
    exact ⟨this.1, by simp only [this.2]⟩
  · obtain rfl := Option.some.inj hf
    obtain rfl := Option.some.inj hf'
    have := rtake_ext B R _ 8 h
    exact ⟨this.1, by simp only [this.2]⟩
  · obtain rfl := Option.some.inj hf
    obtain rfl := Option.some.inj hf'
    have := rnum_ext B R _ _ h
    exact ⟨this.1, by simp only [this.2]⟩
  · obtain rfl := Option.some.inj hf
    obtain rfl := Option.some.inj hf'
    have := rnum_ext B R _ _ h
    exact ⟨this.1, by simp only [this.2]⟩
  · obtain rfl := Option.some.inj hf
    obtain rfl := Option.some.inj hf'
    have := rmany_ext (rd' := rten (B ++ R)) (fun s hs => rten_ext B R s hs) _ _ h
    exact ⟨this.1, by simp only [this.2]⟩
theorem ck_ext (B R : List UInt8) (s : St) : ∀ k, k ≤ 8 → (ck B s k).s.2 = false → s.2 = false ∧ ck (B ++ R) s k = ck B s k
  | 0, _, h => ⟨h, rfl⟩
  | k + 1, hk, h => by
    obtain ⟨f, hf⟩ : ∃ f, (csteps B)[k]? = some f := ⟨_, List.getElem?_eq_getElem (by show k < 8; omega)⟩
    obtain ⟨f', hf'⟩ : ∃ f, (csteps (B ++ R))[k]? = some f := ⟨_, List.getElem?_eq_getElem (by show k < 8; omega)⟩
    have e : ∀ (B : List UInt8) (f : CS → CS), (csteps B)[k]? = some f → ck B s (k + 1) = f (ck B s k) := by
      intro B f hf
      obtain ⟨hlt, e⟩ := List.getElem?_eq_some_iff.1 hf
      unfold ck
      rw [List.take_succ_eq_append_getElem hlt, e, List.foldl_append]
      rfl
    rw [e B f hf] at h ⊢
    rw [e (B ++ R) f' hf']
    have h1 := cstep_ext B R k f f' hf hf' _ h
    have h2 := ck_ext B R s k (by omega) h1.1
    refine ⟨h2.1, ?_⟩
    rw [h2.2]
    exact h1.2
theorem rcon_le (B : List UInt8) (s : St) (h : s.1 ≤ B.length) : (rcon B s).s.1 ≤ B.length := by
  have a : ∀ r : CS, r.s.1 ≤ B.length → ∀ f ∈ csteps B, (f r).s.1 ≤ B.length := by
    intro r hr f hf
    simp only [csteps, List.mem_cons, List.mem_nil_iff, or_false] at hf
    rcases hf with rfl | rfl | rfl | rfl | rfl | rfl | rfl | rfl <;> first | exact rnum_le B _ _ hr | exact rtake_le B _ _ hr | exact rmany_le (rten_le B) _ _ hr
  have b : ∀ (l : List (CS → CS)) (r : CS), (∀ f ∈ l, f ∈ csteps B) → r.s.1 ≤ B.length → (l.foldl (fun r f => f r) r).s.1 ≤ B.length := by
    intro l
    induction l with
    | nil => intro r _ hr; exact hr
    | cons f l ih => intro r hl hr; exact ih (f r) (fun g hg => hl g (by simp [hg])) (a r hr f (hl f (by simp)))
  exact b _ _ (fun f hf => List.mem_of_mem_take hf) h

section
variable (c : Con) (l : List TV) (hip : c.ip < 4294967296) (hdr : c.drain < 4294967296) (hl : l.length ≤ 255) (h : ∀ x ∈ l, x.t.Ok ∧ x.t.Fits)
include hip hdr hl h
theorem ocf_at : ocf (wcon c l) = (c, l.map (·.t), 0) := by
  have := rcon_at c l [] hip hdr hl h
  rw [List.append_nil] at this
  unfold ocf
  rw [this, if_pos ⟨rfl, rfl⟩]
theorem ocf_more (b : UInt8) : (ocf (wcon c l ++ [b])).2.2 = 70 := by
  have := rcon_at c l [b] hip hdr hl h
  unfold ocf
  rw [this, if_neg (by simp)]
theorem ocf_cut : (ocf ((wcon c l).take ((wcon c l).length - 1))).2.2 = 70 := by
  have hne : 0 < (wcon c l).length := by simp [wcon, cfields, be_length]; omega
  unfold ocf
  rw [if_neg]
  rintro ⟨h1, h2⟩
  have hx := ck_ext ((wcon c l).take ((wcon c l).length - 1)) ((wcon c l).drop ((wcon c l).length - 1)) (0, false) 8 (Nat.le_refl _) h1
  rw [List.take_append_drop] at hx
  have h3 := rcon_at c l [] hip hdr hl h
  rw [List.append_nil] at h3
  have h4 : rcon (wcon c l) (0, false) = rcon ((wcon c l).take ((wcon c l).length - 1)) (0, false) := hx.2
  rw [h4] at h3
  rw [h3] at h2
  simp only [List.length_take] at h2
  omega
end
theorem ocg_at (put : Bool) (name : List UInt8) (t : Ten) (hok : t.Ok) (hf : t.Fits) (hn : name.length ≤ 255) : ocg (wchg put name t) = (put, if put then t.name else name, if put then t else .zero, 0) := by
  cases put with
  | true =>
    have h1 := rten_at t hok hf [1] []
    simp only [List.append_nil, List.cons_append, List.nil_append, List.length_cons, List.length_nil] at h1
    simp only [wchg, if_true]
    simp only [ocg]
    rw [if_neg (by decide), if_pos trivial]
    rw [Nat.zero_add] at h1
    rw [h1, if_pos rfl]
  | false =>
    have h1 := rname_at [0] [] name hn
    simp only [List.append_nil, List.cons_append, List.nil_append, List.length_cons, List.length_nil] at h1
    simp only [wchg, Bool.false_eq_true, if_false]
    simp only [ocg]
    rw [if_neg (by decide), if_neg (by decide)]
    rw [Nat.zero_add] at h1
    have e : nameB name = nameB' name := rfl
    rw [e, h1, if_pos rfl]
theorem otn_more (t : Ten) (hok : t.Ok) (hf : t.Fits) (b : UInt8) : otn (wten t ++ [b]) = (t, (wten t).length, 0) := by
  have h1 := rten_at t hok hf [] [b]
  simp only [List.nil_append, List.length_nil] at h1
  unfold otn
  rw [h1]
  rfl

end Go.Proofs.Ytcnemhhbihhcfaa
