/-
  Package cfg: a tenant read: the nineteen steps.
-/
import Derived.Test.YtcnemhhbihhcfaaRdP
import Derived.Test.YtcnemhhbihhcfaaRdB
namespace Go.Proofs.Ytcnemhhbihhcfaa
open Go.RowKit
set_option linter.unusedVariables false

theorem splice_mid {pre X post : List Value} {o j : Nat} (ho : pre.length = o) (ys : List Value) (hj : j + ys.length ≤ X.length) : splice (pre ++ X ++ post) (o + j) ys = pre ++ splice X j ys ++ post := by
  unfold splice
  subst ho
  simp only [List.append_assoc, Nat.add_assoc]
  rw [List.take_length_add_append, List.drop_length_add_append, List.take_append_of_le_length (by omega), List.drop_append_of_le_length (by omega)]
  simp only [List.append_assoc]
theorem key_splice (t : Ten) (vp vs vt : Value) (xs : List UInt8) (h : xs.length = 8) : splice (t.cells vp vs vt).toList 2 (bcells xs) = (({ t with key := K8.of xs } : Ten).cells vp vs vt).toList := by
  match xs, h with
  | [a, b, c, d, e, f, g, i], _ => rfl
theorem vmac_splice (t : Ten) (vp vs vt : Value) (xs : List UInt8) (h : xs.length = 6) : splice (t.cells vp vs vt).toList 11 (bcells xs) = (({ t with vmac := M6.of xs } : Ten).cells vp vs vt).toList := by
  match xs, h with
  | [a, b, c, d, e, f], _ => rfl
theorem host_splice (t : Ten) (vp vs vt : Value) (xs : List UInt8) (h : xs.length = 6) : splice (t.cells vp vs vt).toList 17 (bcells xs) = (({ t with host := M6.of xs } : Ten).cells vp vs vt).toList := by
  match xs, h with
  | [a, b, c, d, e, f], _ => rfl

/-- What the call was given, and the walk's first world. -/
structure RG (w0 : World) (n C T o : Nat) (A : Option Addr) (c : Nat) (B : List UInt8) (S : Nat → Prop) (pre : List Value) : Prop where
  bx : Boxes w0 n (n + 1) C T o
  pr : w0.heap[n + 5]? = some (.cells #[.func (.func 49) #[] #[bxv n]] 97 (0, 0))
  rw6 : w0.heap[n + 6]? = some (.cells (tenRow n).toArray 1 (0, 0))
  C_lt : C < n
  T_lt : T < n
  TC : T ≠ C
  ho : pre.length = o
  row : RowAt S w0 A (bcells B)
  S_lt : ∀ b, S b → b < n
  SC : ¬ S C
  ST : ¬ S T
  hc : B.length ≤ c
  hB : B.length ≤ 100000000
/-- The state behind some steps. -/
structure TR (w0 : World) (n C T : Nat) (A : Option Addr) (c : Nat) (B : List UInt8) (pre post : List Value) (tt : TypeId) (r : RS) (vp vs vt : Value) (w : World) : Prop where
  rd : w.heap[C]? = some (rdObj A B.length c r.s.1 r.s.2)
  le : r.s.1 ≤ B.length
  ten : w.heap[T]? = some (.cells (pre ++ (r.t.cells vp vs vt).toList ++ post).toArray tt (0, 0))
  mod : Mod (fun b => b = C ∨ b = T ∨ n + 2 ≤ b ∧ b ≤ n + 4) w0 w
  hp : w.heap[n + 2]? = some (.cells #[.int .i64 (r.np : Int)] 3 (0, 0))
  hs : w.heap[n + 3]? = some (.cells #[.int .i64 (r.ns : Int)] 3 (0, 0))
  ht : w.heap[n + 4]? = some (.cells #[.int .i64 (r.nt : Int)] 3 (0, 0))
  cnt : r.np < 256 ∧ r.ns < 256 ∧ r.nt < 256
  rows : ∃ P p Q q R r', vp = .slice P r.t.pool.length p ∧ vs = .slice Q r.t.statics.length q ∧ vt = .slice R r.t.twices.length r' ∧ RowAt (fun b => n + 7 ≤ b) w P (numCells r.t.pool) ∧ RowAt (fun b => n + 7 ≤ b) w Q (prCells r.t.statics) ∧ RowAt (fun b => n + 7 ≤ b) w R (prCells r.t.twices)

section
variable {w0 : World} {n C T o : Nat} {A : Option Addr} {c : Nat} {B : List UInt8} {S : Nat → Prop} {pre post : List Value} {tt : TypeId} {r : RS} {vp vs vt : Value} {w : World}
theorem RG.gt (g : RG w0 n C T o A c B S pre) : n + 6 < w0.heap.size := lt_of_block g.rw6
theorem TR.keep (h : TR w0 n C T A c B pre post tt r vp vs vt w) (g : RG w0 n C T o A c B S pre) {b : Nat} {ob : Obj} (hb : w0.heap[b]? = some ob) (h1 : n ≤ b) (h2 : b < n + 2 ∨ n + 4 < b) : w.heap[b]? = some ob := by
  refine h.mod.obj hb ?_
  have := g.C_lt
  have := g.T_lt
  rintro (f | f | f) <;> omega
theorem TR.boxes (h : TR w0 n C T A c B pre post tt r vp vs vt w) (g : RG w0 n C T o A c B S pre) : Boxes w n (n + 1) C T o := ⟨h.keep g g.bx.c (by omega) (by omega), h.keep g g.bx.t (by omega) (by omega)⟩
theorem TR.row (h : TR w0 n C T A c B pre post tt r vp vs vt w) (g : RG w0 n C T o A c B S pre) : RowAt S w A (bcells B) := g.row.keeps (h.mod.keeps fun b hb hs f => by
  have := g.S_lt b hs
  rcases f with f | f | f
  · exact g.SC (by rw [← f]; exact hs)
  · exact g.ST (by rw [← f]; exact hs)
  · omega)
theorem TR.mod' (h : TR w0 n C T A c B pre post tt r vp vs vt w) {w' : World} (hm : Mod (fun b => b = C ∨ b = T) w w') : Mod (fun b => b = C ∨ b = T ∨ n + 2 ≤ b ∧ b ≤ n + 4) w0 w' :=
  h.mod.trans (hm.mono fun b f => by rcases f with f | f; exact .inl f; exact .inr (.inl f))
theorem TR.rows' (h : TR w0 n C T A c B pre post tt r vp vs vt w) (g : RG w0 n C T o A c B S pre) {w' : World} (hm : Mod (fun b => b < n + 7) w w') :
    ∃ P p Q q R r', vp = .slice P r.t.pool.length p ∧ vs = .slice Q r.t.statics.length q ∧ vt = .slice R r.t.twices.length r' ∧ RowAt (fun b => n + 7 ≤ b) w' P (numCells r.t.pool) ∧ RowAt (fun b => n + 7 ≤ b) w' Q (prCells r.t.statics) ∧ RowAt (fun b => n + 7 ≤ b) w' R (prCells r.t.twices) := by
  obtain ⟨P, p, Q, q, R, r', e1, e2, e3, r1, r2, r3⟩ := h.rows
  have hk : Keeps (fun b => n + 7 ≤ b) w w' := hm.keeps fun b hb hs f => by omega
  exact ⟨P, p, Q, q, R, r', e1, e2, e3, r1.keeps hk, r2.keeps hk, r3.keeps hk⟩
/-- A step that turns the coder and one field. -/
theorem TR.next (h : TR w0 n C T A c B pre post tt r vp vs vt w) (g : RG w0 n C T o A c B S pre) {w' : World} {t' : Ten} {s' : St} (hs : s'.1 ≤ B.length) (hrd : w'.heap[C]? = some (rdObj A B.length c s'.1 s'.2)) (ht : w'.heap[T]? = some (.cells (pre ++ (t'.cells vp vs vt).toList ++ post).toArray tt (0, 0)))
    (hm : Mod (fun b => b = C ∨ b = T) w w') (hl : t'.pool = r.t.pool ∧ t'.statics = r.t.statics ∧ t'.twices = r.t.twices) : TR w0 n C T A c B pre post tt { r with t := t', s := s' } vp vs vt w' := by
  have k1 := g.C_lt
  have k2 := g.T_lt
  have hob : ∀ b o, w.heap[b]? = some o → n ≤ b → w'.heap[b]? = some o := fun b o hb hn => hm.obj hb (by rintro (f | f) <;> omega)
  refine ⟨hrd, hs, ht, h.mod' hm, hob _ _ h.hp (by omega), hob _ _ h.hs (by omega), hob _ _ h.ht (by omega), h.cnt, ?_⟩
  simp only [hl.1, hl.2.1, hl.2.2]
  exact h.rows' g (hm.mono fun b f => by rcases f with f | f <;> omega)
theorem TR.cell (h : TR w0 n C T A c B pre post tt r vp vs vt w) (g : RG w0 n C T o A c B S pre) {j : Nat} {u : Value} (hj : j < 33) (hu : (r.t.cells vp vs vt).toList[j]? = some u) : w.cell? ⟨T, o + j, none⟩ = some u := by
  rw [blk_cell h.ten, List.getElem?_toArray, mid_get g.ho (by simpa [Ten.cells] using hj), hu]
theorem set_mid (hlen : pre.length = o) {X : List Value} {j : Nat} (hj : j < X.length) (v : Value) {t : TypeId} : (Obj.cells ((pre ++ X ++ post).toArray.setIfInBounds (o + j) v) t) = .cells (pre ++ X.set j v ++ post).toArray t := by
  rw [List.setIfInBounds_toArray, mid_set hlen hj]
theorem size_mid (hlen : pre.length = o) {X : List Value} (hX : X.length = 33) {j : Nat} (hj : j < 33) : o + j < (pre ++ X ++ post).toArray.size := by
  simp; omega
theorem ten_len (t : Ten) (vp vs vt : Value) : (t.cells vp vs vt).toList.length = 33 := rfl
/-- The state's invariant. -/
def RI (w0 : World) (n C T : Nat) (A : Option Addr) (c : Nat) (B : List UInt8) (pre post : List Value) (tt : TypeId) (s : St) (k : Nat) (w : World) : Prop := ∃ vp vs vt, TR w0 n C T A c B pre post tt (rk B s k) vp vs vt w
theorem own_rowAt {w : World} {base : Nat} {e : TypeId} {size : Nat} {v : Value} {m : Nat} {xs : List Value} (h : w.ownsRow base e size v m xs) : ∃ P p, v = .slice P m p ∧ RowAt (fun b => base ≤ b) w P xs := by
  obtain ⟨P, p, e, _, r⟩ := RowAt.of_owns h
  exact ⟨P, p, e, r⟩
end

section
variable {w0 : World} {n C T o : Nat} {A : Option Addr} {c : Nat} {B : List UInt8} {S : Nat → Prop} {pre post : List Value} {tt : TypeId} {s : St} {w : World}
theorem ri_0 (g : RG w0 n C T o A c B S pre) (h : RI w0 n C T A c B pre post tt s 0 w) :
    Calls Try.prog 51 #[bxv n, bxv (n + 1)] w fun e w' => e = .returned (.tuple #[]) ∧ RI w0 n C T A c B pre post tt s 1 w' := by
  obtain ⟨vp, vs, vt, h⟩ := h
  have hk : rk B s 1 = (fun r : RS => ({ r with t := { r.t with name := (rname B r.s).1 }, s := (rname B r.s).2 } : RS)) (rk B s 0) := rfl
  unfold RI
  rw [hk]
  have hn : (rk B s 0).t.name = [] := rfl
  generalize rk B s 0 = r at h hn ⊢
  clear hk
  refine (ten_name_rd B h.rd (h.row g) h.le g.hc g.hB g.SC (h.boxes g) r.t.name (by rw [hn]; decide) h.ten (by rw [List.getElem?_toArray]; exact mid_get (j := 0) g.ho (by rw [ten_len]; decide)) g.TC).mono fun e w' ⟨he, a1, a2, a3⟩ => ⟨he, vp, vs, vt, h.next g (rname_le B _ h.le) a1 ?_ a3 ⟨rfl, rfl, rfl⟩⟩
  rw [a2]
  exact congrArg some (set_mid (j := 0) g.ho (by rw [ten_len]; decide) _)
theorem ri_1 (g : RG w0 n C T o A c B S pre) (h : RI w0 n C T A c B pre post tt s 1 w) :
    Calls Try.prog 52 #[bxv n, bxv (n + 1)] w fun e w' => e = .returned (.tuple #[]) ∧ RI w0 n C T A c B pre post tt s 2 w' := by
  obtain ⟨vp, vs, vt, h⟩ := h
  have hk : rk B s 2 = (fun r : RS => ({ r with t := { r.t with vni := (rnum B 4 r.s).1 }, s := (rnum B 4 r.s).2 } : RS)) (rk B s 1) := rfl
  unfold RI
  rw [hk]
  generalize rk B s 1 = r at h ⊢
  clear hk
  refine (ten_vni_rd B h.rd (h.row g) h.le g.hc g.hB g.SC (h.boxes g) h.ten (size_mid g.ho (ten_len _ _ _ _) (by decide)) g.TC).mono fun e w' ⟨he, a1, a2, a3⟩ => ⟨he, vp, vs, vt, h.next g (rnum_le B 4 _ h.le) a1 ?_ a3 ⟨rfl, rfl, rfl⟩⟩
  rw [a2]
  exact congrArg some (set_mid (j := 1) g.ho (by rw [ten_len]; decide) _)
theorem ri_2 (g : RG w0 n C T o A c B S pre) (h : RI w0 n C T A c B pre post tt s 2 w) :
    Calls Try.prog 53 #[bxv n, bxv (n + 1)] w fun e w' => e = .returned (.tuple #[]) ∧ RI w0 n C T A c B pre post tt s 3 w' := by
  obtain ⟨vp, vs, vt, h⟩ := h
  have hk : rk B s 3 = (fun r : RS => ({ r with t := { r.t with key := K8.of (rtake B r.s 8).1 }, s := (rtake B r.s 8).2 } : RS)) (rk B s 2) := rfl
  unfold RI
  rw [hk]
  generalize rk B s 2 = r at h ⊢
  clear hk
  refine (ten_key_rd B h.rd (h.row g) h.le g.hc g.hB g.SC (h.boxes g) h.ten (by simp only [List.length_append, ten_len, g.ho]; omega) g.TC).mono fun e w' ⟨he, a1, a2, a3⟩ => ⟨he, vp, vs, vt, h.next g (rtake_le B _ 8 h.le) a1 ?_ a3 ⟨rfl, rfl, rfl⟩⟩
  rw [a2, splice_mid g.ho _ (by rw [bcells_length, rtake_length, ten_len]; decide), key_splice _ _ _ _ _ (rtake_length _ _ _)]
theorem ri_3 (g : RG w0 n C T o A c B S pre) (h : RI w0 n C T A c B pre post tt s 3 w) :
    Calls Try.prog 55 #[bxv n, bxv (n + 1)] w fun e w' => e = .returned (.tuple #[]) ∧ RI w0 n C T A c B pre post tt s 4 w' := by
  obtain ⟨vp, vs, vt, h⟩ := h
  have hk : rk B s 4 = (fun r : RS => ({ r with t := { r.t with vtep := (rnum B 4 r.s).1 }, s := (rnum B 4 r.s).2 } : RS)) (rk B s 3) := rfl
  unfold RI
  rw [hk]
  generalize rk B s 3 = r at h ⊢
  clear hk
  refine (ten_vtep_rd B h.rd (h.row g) h.le g.hc g.hB g.SC (h.boxes g) h.ten (size_mid g.ho (ten_len _ _ _ _) (by decide)) g.TC).mono fun e w' ⟨he, a1, a2, a3⟩ => ⟨he, vp, vs, vt, h.next g (rnum_le B 4 _ h.le) a1 ?_ a3 ⟨rfl, rfl, rfl⟩⟩
  rw [a2]
  exact congrArg some (set_mid (j := 10) g.ho (by rw [ten_len]; decide) _)
theorem ri_4 (g : RG w0 n C T o A c B S pre) (h : RI w0 n C T A c B pre post tt s 4 w) :
    Calls Try.prog 56 #[bxv n, bxv (n + 1)] w fun e w' => e = .returned (.tuple #[]) ∧ RI w0 n C T A c B pre post tt s 5 w' := by
  obtain ⟨vp, vs, vt, h⟩ := h
  have hk : rk B s 5 = (fun r : RS => ({ r with t := { r.t with vmac := M6.of (rtake B r.s 6).1 }, s := (rtake B r.s 6).2 } : RS)) (rk B s 4) := rfl
  unfold RI
  rw [hk]
  generalize rk B s 4 = r at h ⊢
  clear hk
  refine (ten_vmac_rd B h.rd (h.row g) h.le g.hc g.hB g.SC (h.boxes g) h.ten (by simp only [List.length_append, ten_len, g.ho]; omega) g.TC).mono fun e w' ⟨he, a1, a2, a3⟩ => ⟨he, vp, vs, vt, h.next g (rtake_le B _ 6 h.le) a1 ?_ a3 ⟨rfl, rfl, rfl⟩⟩
  rw [a2, splice_mid g.ho _ (by rw [bcells_length, rtake_length, ten_len]; decide), vmac_splice _ _ _ _ _ (rtake_length _ _ _)]
theorem ri_5 (g : RG w0 n C T o A c B S pre) (h : RI w0 n C T A c B pre post tt s 5 w) :
    Calls Try.prog 57 #[bxv n, bxv (n + 1)] w fun e w' => e = .returned (.tuple #[]) ∧ RI w0 n C T A c B pre post tt s 6 w' := by
  obtain ⟨vp, vs, vt, h⟩ := h
  have hk : rk B s 6 = (fun r : RS => ({ r with t := { r.t with host := M6.of (rtake B r.s 6).1 }, s := (rtake B r.s 6).2 } : RS)) (rk B s 5) := rfl
  unfold RI
  rw [hk]
  generalize rk B s 5 = r at h ⊢
  clear hk
  refine (ten_host_rd B h.rd (h.row g) h.le g.hc g.hB g.SC (h.boxes g) h.ten (by simp only [List.length_append, ten_len, g.ho]; omega) g.TC).mono fun e w' ⟨he, a1, a2, a3⟩ => ⟨he, vp, vs, vt, h.next g (rtake_le B _ 6 h.le) a1 ?_ a3 ⟨rfl, rfl, rfl⟩⟩
  rw [a2, splice_mid g.ho _ (by rw [bcells_length, rtake_length, ten_len]; decide), host_splice _ _ _ _ _ (rtake_length _ _ _)]
theorem ri_6 (g : RG w0 n C T o A c B S pre) (h : RI w0 n C T A c B pre post tt s 6 w) :
    Calls Try.prog 58 #[bxv n, bxv (n + 1)] w fun e w' => e = .returned (.tuple #[]) ∧ RI w0 n C T A c B pre post tt s 7 w' := by
  obtain ⟨vp, vs, vt, h⟩ := h
  have hk : rk B s 7 = (fun r : RS => ({ r with t := { r.t with lo := (rnum B 2 r.s).1 }, s := (rnum B 2 r.s).2 } : RS)) (rk B s 6) := rfl
  unfold RI
  rw [hk]
  generalize rk B s 6 = r at h ⊢
  clear hk
  refine (ten_lo_rd B h.rd (h.row g) h.le g.hc g.hB g.SC (h.boxes g) h.ten (size_mid g.ho (ten_len _ _ _ _) (by decide)) g.TC).mono fun e w' ⟨he, a1, a2, a3⟩ => ⟨he, vp, vs, vt, h.next g (rnum_le B 2 _ h.le) a1 ?_ a3 ⟨rfl, rfl, rfl⟩⟩
  rw [a2]
  exact congrArg some (set_mid (j := 24) g.ho (by rw [ten_len]; decide) _)
theorem ri_7 (g : RG w0 n C T o A c B S pre) (h : RI w0 n C T A c B pre post tt s 7 w) :
    Calls Try.prog 60 #[bxv n, bxv (n + 1)] w fun e w' => e = .returned (.tuple #[]) ∧ RI w0 n C T A c B pre post tt s 8 w' := by
  obtain ⟨vp, vs, vt, h⟩ := h
  have hk : rk B s 8 = (fun r : RS => ({ r with t := { r.t with hi := (rnum B 2 r.s).1 }, s := (rnum B 2 r.s).2 } : RS)) (rk B s 7) := rfl
  unfold RI
  rw [hk]
  generalize rk B s 7 = r at h ⊢
  clear hk
  refine (ten_hi_rd B h.rd (h.row g) h.le g.hc g.hB g.SC (h.boxes g) h.ten (size_mid g.ho (ten_len _ _ _ _) (by decide)) g.TC).mono fun e w' ⟨he, a1, a2, a3⟩ => ⟨he, vp, vs, vt, h.next g (rnum_le B 2 _ h.le) a1 ?_ a3 ⟨rfl, rfl, rfl⟩⟩
  rw [a2]
  exact congrArg some (set_mid (j := 25) g.ho (by rw [ten_len]; decide) _)
theorem ri_8 (g : RG w0 n C T o A c B S pre) (h : RI w0 n C T A c B pre post tt s 8 w) :
    Calls Try.prog 61 #[bxv n, bxv (n + 1)] w fun e w' => e = .returned (.tuple #[]) ∧ RI w0 n C T A c B pre post tt s 9 w' := by
  obtain ⟨vp, vs, vt, h⟩ := h
  have hk : rk B s 9 = (fun r : RS => ({ r with t := { r.t with filter := (rnum B 1 r.s).1 }, s := (rnum B 1 r.s).2 } : RS)) (rk B s 8) := rfl
  unfold RI
  rw [hk]
  generalize rk B s 8 = r at h ⊢
  clear hk
  refine (ten_filter_rd B h.rd (h.row g) h.le g.hc g.hB g.SC (h.boxes g) h.ten (size_mid g.ho (ten_len _ _ _ _) (by decide)) g.TC).mono fun e w' ⟨he, a1, a2, a3⟩ => ⟨he, vp, vs, vt, h.next g (rnum_le B 1 _ h.le) a1 ?_ a3 ⟨rfl, rfl, rfl⟩⟩
  rw [a2]
  exact congrArg some (set_mid (j := 26) g.ho (by rw [ten_len]; decide) _)
theorem ri_9 (g : RG w0 n C T o A c B S pre) (h : RI w0 n C T A c B pre post tt s 9 w) :
    Calls Try.prog 63 #[bxv n, bxv (n + 1)] w fun e w' => e = .returned (.tuple #[]) ∧ RI w0 n C T A c B pre post tt s 10 w' := by
  obtain ⟨vp, vs, vt, h⟩ := h
  have hk : rk B s 10 = (fun r : RS => ({ r with t := { r.t with sess := (rnum B 2 r.s).1 }, s := (rnum B 2 r.s).2 } : RS)) (rk B s 9) := rfl
  unfold RI
  rw [hk]
  generalize rk B s 9 = r at h ⊢
  clear hk
  refine (ten_sess_rd B h.rd (h.row g) h.le g.hc g.hB g.SC (h.boxes g) h.ten (size_mid g.ho (ten_len _ _ _ _) (by decide)) g.TC).mono fun e w' ⟨he, a1, a2, a3⟩ => ⟨he, vp, vs, vt, h.next g (rnum_le B 2 _ h.le) a1 ?_ a3 ⟨rfl, rfl, rfl⟩⟩
  rw [a2]
  exact congrArg some (set_mid (j := 29) g.ho (by rw [ten_len]; decide) _)
theorem ri_10 (g : RG w0 n C T o A c B S pre) (h : RI w0 n C T A c B pre post tt s 10 w) :
    Calls Try.prog 64 #[bxv n, bxv (n + 1)] w fun e w' => e = .returned (.tuple #[]) ∧ RI w0 n C T A c B pre post tt s 11 w' := by
  obtain ⟨vp, vs, vt, h⟩ := h
  have hk : rk B s 11 = (fun r : RS => ({ r with t := { r.t with queue := (rnum B 2 r.s).1 }, s := (rnum B 2 r.s).2 } : RS)) (rk B s 10) := rfl
  unfold RI
  rw [hk]
  generalize rk B s 10 = r at h ⊢
  clear hk
  refine (ten_queue_rd B h.rd (h.row g) h.le g.hc g.hB g.SC (h.boxes g) h.ten (size_mid g.ho (ten_len _ _ _ _) (by decide)) g.TC).mono fun e w' ⟨he, a1, a2, a3⟩ => ⟨he, vp, vs, vt, h.next g (rnum_le B 2 _ h.le) a1 ?_ a3 ⟨rfl, rfl, rfl⟩⟩
  rw [a2]
  exact congrArg some (set_mid (j := 30) g.ho (by rw [ten_len]; decide) _)
theorem ri_11 (g : RG w0 n C T o A c B S pre) (h : RI w0 n C T A c B pre post tt s 11 w) :
    Calls Try.prog 65 #[bxv n, bxv (n + 1)] w fun e w' => e = .returned (.tuple #[]) ∧ RI w0 n C T A c B pre post tt s 12 w' := by
  obtain ⟨vp, vs, vt, h⟩ := h
  have hk : rk B s 12 = (fun r : RS => ({ r with t := { r.t with rate := (rnum B 4 r.s).1 }, s := (rnum B 4 r.s).2 } : RS)) (rk B s 11) := rfl
  unfold RI
  rw [hk]
  generalize rk B s 11 = r at h ⊢
  clear hk
  refine (ten_rate_rd B h.rd (h.row g) h.le g.hc g.hB g.SC (h.boxes g) h.ten (size_mid g.ho (ten_len _ _ _ _) (by decide)) g.TC).mono fun e w' ⟨he, a1, a2, a3⟩ => ⟨he, vp, vs, vt, h.next g (rnum_le B 4 _ h.le) a1 ?_ a3 ⟨rfl, rfl, rfl⟩⟩
  rw [a2]
  exact congrArg some (set_mid (j := 31) g.ho (by rw [ten_len]; decide) _)
theorem ri_12 (g : RG w0 n C T o A c B S pre) (h : RI w0 n C T A c B pre post tt s 12 w) :
    Calls Try.prog 66 #[bxv n, bxv (n + 1)] w fun e w' => e = .returned (.tuple #[]) ∧ RI w0 n C T A c B pre post tt s 13 w' := by
  obtain ⟨vp, vs, vt, h⟩ := h
  have hk : rk B s 13 = (fun r : RS => ({ r with t := { r.t with burst := (rnum B 4 r.s).1 }, s := (rnum B 4 r.s).2 } : RS)) (rk B s 12) := rfl
  unfold RI
  rw [hk]
  generalize rk B s 12 = r at h ⊢
  clear hk
  refine (ten_burst_rd B h.rd (h.row g) h.le g.hc g.hB g.SC (h.boxes g) h.ten (size_mid g.ho (ten_len _ _ _ _) (by decide)) g.TC).mono fun e w' ⟨he, a1, a2, a3⟩ => ⟨he, vp, vs, vt, h.next g (rnum_le B 4 _ h.le) a1 ?_ a3 ⟨rfl, rfl, rfl⟩⟩
  rw [a2]
  exact congrArg some (set_mid (j := 32) g.ho (by rw [ten_len]; decide) _)
theorem ri_13 (g : RG w0 n C T o A c B S pre) (h : RI w0 n C T A c B pre post tt s 13 w) :
    Calls Try.prog 67 #[bxv n, bxv (n + 1), bxv (n + 2)] w fun e w' => e = .returned (.tuple #[]) ∧ RI w0 n C T A c B pre post tt s 14 w' := by
  obtain ⟨vp, vs, vt, h⟩ := h
  have hk : rk B s 14 = (fun r : RS => ({ r with np := (rnum B 1 r.s).1, s := (rnum B 1 r.s).2 } : RS)) (rk B s 13) := rfl
  unfold RI
  rw [hk]
  generalize rk B s 13 = r at h ⊢
  clear hk
  obtain ⟨P, p, Q, q, R, r', e1, e2, e3, r1, r2, r3⟩ := h.rows
  subst e1 e2 e3
  refine (ten_npool_rd B h.rd (h.row g) h.le g.hc g.hB g.SC (h.boxes g) (h.cell g (j := 23) (by decide) rfl) h.hp (by have := g.C_lt; omega)).mono fun e w' ⟨he, a1, a2, a3⟩ => ⟨he, .slice P r.t.pool.length p, .slice Q r.t.statics.length q, .slice R r.t.twices.length r', ?_⟩
  have k1 := g.C_lt
  have k2 := g.T_lt
  have hob : ∀ b o, w.heap[b]? = some o → b ≠ n + 2 → b ≠ C → w'.heap[b]? = some o := fun b o hb hn hc => a3.obj hb (by rintro (f | f) <;> omega)
  refine ⟨a1, rnum_le B 1 _ h.le, hob _ _ h.ten (by omega) g.TC, h.mod.trans (a3.mono fun b f => by rcases f with f | f; exact .inl f; exact .inr (.inr (by omega))), a2, hob _ _ h.hs (by omega) (by omega), hob _ _ h.ht (by omega) (by omega), ⟨rnum_lt B 1 _, h.cnt.2.1, h.cnt.2.2⟩, h.rows' g (a3.mono fun b f => by rcases f with f | f <;> omega)⟩
theorem ri_14 (g : RG w0 n C T o A c B S pre) (h : RI w0 n C T A c B pre post tt s 14 w) :
    Calls Try.prog 69 #[bxv n, bxv (n + 1), bxv (n + 3)] w fun e w' => e = .returned (.tuple #[]) ∧ RI w0 n C T A c B pre post tt s 15 w' := by
  obtain ⟨vp, vs, vt, h⟩ := h
  have hk : rk B s 15 = (fun r : RS => ({ r with ns := (rnum B 1 r.s).1, s := (rnum B 1 r.s).2 } : RS)) (rk B s 14) := rfl
  unfold RI
  rw [hk]
  generalize rk B s 14 = r at h ⊢
  clear hk
  obtain ⟨P, p, Q, q, R, r', e1, e2, e3, r1, r2, r3⟩ := h.rows
  subst e1 e2 e3
  refine (ten_nstatics_rd B h.rd (h.row g) h.le g.hc g.hB g.SC (h.boxes g) (h.cell g (j := 27) (by decide) rfl) h.hs (by have := g.C_lt; omega)).mono fun e w' ⟨he, a1, a2, a3⟩ => ⟨he, .slice P r.t.pool.length p, .slice Q r.t.statics.length q, .slice R r.t.twices.length r', ?_⟩
  have k1 := g.C_lt
  have k2 := g.T_lt
  have hob : ∀ b o, w.heap[b]? = some o → b ≠ n + 3 → b ≠ C → w'.heap[b]? = some o := fun b o hb hn hc => a3.obj hb (by rintro (f | f) <;> omega)
  refine ⟨a1, rnum_le B 1 _ h.le, hob _ _ h.ten (by omega) g.TC, h.mod.trans (a3.mono fun b f => by rcases f with f | f; exact .inl f; exact .inr (.inr (by omega))), hob _ _ h.hp (by omega) (by omega), a2, hob _ _ h.ht (by omega) (by omega), ⟨h.cnt.1, rnum_lt B 1 _, h.cnt.2.2⟩, h.rows' g (a3.mono fun b f => by rcases f with f | f <;> omega)⟩
theorem ri_15 (g : RG w0 n C T o A c B S pre) (h : RI w0 n C T A c B pre post tt s 15 w) :
    Calls Try.prog 70 #[bxv n, bxv (n + 1), bxv (n + 4)] w fun e w' => e = .returned (.tuple #[]) ∧ RI w0 n C T A c B pre post tt s 16 w' := by
  obtain ⟨vp, vs, vt, h⟩ := h
  have hk : rk B s 16 = (fun r : RS => ({ r with nt := (rnum B 1 r.s).1, s := (rnum B 1 r.s).2 } : RS)) (rk B s 15) := rfl
  unfold RI
  rw [hk]
  generalize rk B s 15 = r at h ⊢
  clear hk
  obtain ⟨P, p, Q, q, R, r', e1, e2, e3, r1, r2, r3⟩ := h.rows
  subst e1 e2 e3
  refine (ten_ntwices_rd B h.rd (h.row g) h.le g.hc g.hB g.SC (h.boxes g) (h.cell g (j := 28) (by decide) rfl) h.ht (by have := g.C_lt; omega)).mono fun e w' ⟨he, a1, a2, a3⟩ => ⟨he, .slice P r.t.pool.length p, .slice Q r.t.statics.length q, .slice R r.t.twices.length r', ?_⟩
  have k1 := g.C_lt
  have k2 := g.T_lt
  have hob : ∀ b o, w.heap[b]? = some o → b ≠ n + 4 → b ≠ C → w'.heap[b]? = some o := fun b o hb hn hc => a3.obj hb (by rintro (f | f) <;> omega)
  refine ⟨a1, rnum_le B 1 _ h.le, hob _ _ h.ten (by omega) g.TC, h.mod.trans (a3.mono fun b f => by rcases f with f | f; exact .inl f; exact .inr (.inr (by omega))), hob _ _ h.hp (by omega) (by omega), hob _ _ h.hs (by omega) (by omega), a2, ⟨h.cnt.1, h.cnt.2.1, rnum_lt B 1 _⟩, h.rows' g (a3.mono fun b f => by rcases f with f | f <;> omega)⟩
theorem ri_16 (g : RG w0 n C T o A c B S pre) (h : RI w0 n C T A c B pre post tt s 16 w) :
    Calls Try.prog 71 #[bxv n, bxv (n + 2), bxv (n + 1)] w fun e w' => e = .returned (.tuple #[]) ∧ RI w0 n C T A c B pre post tt s 17 w' := by
  obtain ⟨vp, vs, vt, h⟩ := h
  have hk : rk B s 17 = (fun r : RS => ({ r with t := { r.t with pool := (rmany (rnum B 4) r.np r.s).1 }, s := (rmany (rnum B 4) r.np r.s).2 } : RS)) (rk B s 16) := rfl
  unfold RI
  rw [hk]
  generalize rk B s 16 = r at h ⊢
  clear hk
  have k1 := g.C_lt
  have k2 := g.T_lt
  have hsz : n + 6 < w.heap.size := Nat.lt_of_lt_of_le g.gt h.mod.size
  refine (ten_lpool_rd B h.rd (h.row g) h.le g.hc g.hB g.SC g.ST (h.boxes g) (by omega) (by omega) (by have := h.cnt; omega) (fun b hb => by have := g.S_lt b hb; omega) h.hp h.ten (size_mid g.ho (ten_len _ _ _ _) (by decide)) g.TC).mono fun e w' ⟨he, a1, ⟨v, a2, a4⟩, a3⟩ => ⟨he, v, vs, vt, ?_⟩
  obtain ⟨P', p', e', r0'⟩ := own_rowAt a4
  have r1' := r0'.mono (S' := fun b => n + 7 ≤ b) (fun b _ hb => by omega)
  obtain ⟨P, p, Q, q, R, r', e1, e2, e3, r1, r2, r3⟩ := h.rows' g (a3.mono (G := fun b => b < n + 7) fun b f => by rcases f with f | f <;> omega)
  have hob : ∀ b o, w.heap[b]? = some o → n ≤ b → w'.heap[b]? = some o := fun b o hb hn => a3.obj hb (by rintro (f | f) <;> omega)
  refine ⟨a1, rmany_le (rnum_le B 4) _ _ h.le, ?_, h.mod' a3, hob _ _ h.hp (by omega), hob _ _ h.hs (by omega), hob _ _ h.ht (by omega), h.cnt, ⟨P', p', Q, q, R, r', e', e2, e3, r1', r2, r3⟩⟩
  rw [a2]
  exact congrArg some (set_mid (j := 23) g.ho (by rw [ten_len]; decide) _)
theorem ri_17 (g : RG w0 n C T o A c B S pre) (h : RI w0 n C T A c B pre post tt s 17 w) :
    Calls Try.prog 74 #[bxv n, bxv (n + 3), bxv (n + 1), bxv (n + 5)] w fun e w' => e = .returned (.tuple #[]) ∧ RI w0 n C T A c B pre post tt s 18 w' := by
  obtain ⟨vp, vs, vt, h⟩ := h
  have hk : rk B s 18 = (fun r : RS => ({ r with t := { r.t with statics := (rmany (rpr B) r.ns r.s).1 }, s := (rmany (rpr B) r.ns r.s).2 } : RS)) (rk B s 17) := rfl
  unfold RI
  rw [hk]
  generalize rk B s 17 = r at h ⊢
  clear hk
  have k1 := g.C_lt
  have k2 := g.T_lt
  have hsz : n + 6 < w.heap.size := Nat.lt_of_lt_of_le g.gt h.mod.size
  refine (ten_lstatics_rd B h.rd (h.row g) h.le g.hc g.hB g.SC g.ST (h.boxes g) (by omega) (by omega) (by have := h.cnt; omega) (fun b hb => by have := g.S_lt b hb; omega) h.hs (h.keep g g.pr (by omega) (by omega)) h.ten (size_mid g.ho (ten_len _ _ _ _) (by decide)) g.TC).mono fun e w' ⟨he, a1, ⟨v, a2, a4⟩, a3⟩ => ⟨he, vp, v, vt, ?_⟩
  obtain ⟨P', p', e', r0'⟩ := own_rowAt a4
  have r1' := r0'.mono (S' := fun b => n + 7 ≤ b) (fun b _ hb => by omega)
  obtain ⟨P, p, Q, q, R, r', e1, e2, e3, r1, r2, r3⟩ := h.rows' g (a3.mono (G := fun b => b < n + 7) fun b f => by rcases f with f | f <;> omega)
  have hob : ∀ b o, w.heap[b]? = some o → n ≤ b → w'.heap[b]? = some o := fun b o hb hn => a3.obj hb (by rintro (f | f) <;> omega)
  refine ⟨a1, rmany_le (rpr_le B) _ _ h.le, ?_, h.mod' a3, hob _ _ h.hp (by omega), hob _ _ h.hs (by omega), hob _ _ h.ht (by omega), h.cnt, ⟨P, p, P', p', R, r', e1, e', e3, r1, r1', r3⟩⟩
  rw [a2]
  exact congrArg some (set_mid (j := 27) g.ho (by rw [ten_len]; decide) _)
theorem ri_18 (g : RG w0 n C T o A c B S pre) (h : RI w0 n C T A c B pre post tt s 18 w) :
    Calls Try.prog 76 #[bxv n, bxv (n + 4), bxv (n + 1), bxv (n + 5)] w fun e w' => e = .returned (.tuple #[]) ∧ RI w0 n C T A c B pre post tt s 19 w' := by
  obtain ⟨vp, vs, vt, h⟩ := h
  have hk : rk B s 19 = (fun r : RS => ({ r with t := { r.t with twices := (rmany (rpr B) r.nt r.s).1 }, s := (rmany (rpr B) r.nt r.s).2 } : RS)) (rk B s 18) := rfl
  unfold RI
  rw [hk]
  generalize rk B s 18 = r at h ⊢
  clear hk
  have k1 := g.C_lt
  have k2 := g.T_lt
  have hsz : n + 6 < w.heap.size := Nat.lt_of_lt_of_le g.gt h.mod.size
  refine (ten_ltwices_rd B h.rd (h.row g) h.le g.hc g.hB g.SC g.ST (h.boxes g) (by omega) (by omega) (by have := h.cnt; omega) (fun b hb => by have := g.S_lt b hb; omega) h.ht (h.keep g g.pr (by omega) (by omega)) h.ten (size_mid g.ho (ten_len _ _ _ _) (by decide)) g.TC).mono fun e w' ⟨he, a1, ⟨v, a2, a4⟩, a3⟩ => ⟨he, vp, vs, v, ?_⟩
  obtain ⟨P', p', e', r0'⟩ := own_rowAt a4
  have r1' := r0'.mono (S' := fun b => n + 7 ≤ b) (fun b _ hb => by omega)
  obtain ⟨P, p, Q, q, R, r', e1, e2, e3, r1, r2, r3⟩ := h.rows' g (a3.mono (G := fun b => b < n + 7) fun b f => by rcases f with f | f <;> omega)
  have hob : ∀ b o, w.heap[b]? = some o → n ≤ b → w'.heap[b]? = some o := fun b o hb hn => a3.obj hb (by rintro (f | f) <;> omega)
  refine ⟨a1, rmany_le (rpr_le B) _ _ h.le, ?_, h.mod' a3, hob _ _ h.hp (by omega), hob _ _ h.hs (by omega), hob _ _ h.ht (by omega), h.cnt, ⟨P, p, Q, q, P', p', e1, e2, e', r1, r2, r1'⟩⟩
  rw [a2]
  exact congrArg some (set_mid (j := 28) g.ho (by rw [ten_len]; decide) _)
end

end Go.Proofs.Ytcnemhhbihhcfaa
