/-
  RdC, RdQ, CfgL, CfgV, RdD, CfgW, CfgX, OpenC, RefA, RefB, RefC, RdE, RdF, LawH, RdG, RdH in one text (pack.py).
-/
import Derived.Test.YtpkieilmlnlpkaaR2
import Derived.Deep.MidRow
import Derived.Great.BuildSlice
import Derived.Deep.Slices
import Derived.Lib.AppendStr
namespace Go.Proofs.Ytpkieilmlnlpkaa

section
attribute [local go_sem] stPair gtPair gtK8 gtM6 run_store_func
attribute [local go_sem high] neqPair eqK8 eqM6
open Go.RowKit
set_option linter.unusedVariables false
theorem splice_mid {pre X post : List Value} {o j : Nat} (ho : pre.length = o) (ys : List Value) (hj : j + ys.length ≤ X.length) : splice (pre ++ X ++ post) (o + j) ys = pre ++ splice X j ys ++ post := by
  unfold splice
  subst ho
  simp only [List.append_assoc, Nat.add_assoc]
  rw [List.take_length_add_append, List.drop_length_add_append, List.take_append_of_le_length (by omega), List.drop_append_of_le_length (by omega)]
  simp only [List.append_assoc]
theorem key_splice (t : Ten) (vp vs vt : Value) (xs : List UInt8) (h : xs.length = 8) : splice (t.cells vp vs vt).toList 2 (bcells xs) = (({ t with key := K8.of xs } : Ten).cells vp vs vt).toList := by
  match xs, h with
  | [a, b, c, d, e, f, g, i], _ => rfl
theorem vmac_splice (t : Ten) (vp vs vt : Value) (xs : List UInt8) (h : xs.length = 6) : splice (t.cells vp vs vt).toList 11 (bcells xs) = (({ t with vmac := M6.of xs } : Ten).cells vp vs vt).toList := by
  match xs, h with
  | [a, b, c, d, e, f], _ => rfl
theorem host_splice (t : Ten) (vp vs vt : Value) (xs : List UInt8) (h : xs.length = 6) : splice (t.cells vp vs vt).toList 17 (bcells xs) = (({ t with host := M6.of xs } : Ten).cells vp vs vt).toList := by
  match xs, h with
  | [a, b, c, d, e, f], _ => rfl
/-- What the call was given, and the walk's first world. -/
structure RG (w0 : World) (n C T o : Nat) (A : Option Addr) (c : Nat) (B : List UInt8) (S : Nat → Prop) (pre : List Value) : Prop where
  bx : Boxes w0 n (n + 1) C T o
  pr : w0.heap[n + 5]? = some (.cells #[.func (.func 56) #[] #[bxv n]] 117 (0, 0))
  rw6 : w0.heap[n + 6]? = some (.cells (tenRow n).toArray 1 (0, 0))
  C_lt : C < n
  T_lt : T < n
  TC : T ≠ C
  ho : pre.length = o
  row : RowAt S w0 A (bcells B)
  S_lt : ∀ b, S b → b < n
  SC : ¬ S C
  ST : ¬ S T
  hc : B.length ≤ c
  hB : B.length ≤ 100000000
/-- The state behind some steps. -/
structure TR (w0 : World) (n C T : Nat) (A : Option Addr) (c : Nat) (B : List UInt8) (pre post : List Value) (tt : TypeId) (r : RS) (vp vs vt : Value) (w : World) : Prop where
  rd : w.heap[C]? = some (rdObj A B.length c r.s.1 r.s.2)
  le : r.s.1 ≤ B.length
  ten : w.heap[T]? = some (.cells (pre ++ (r.t.cells vp vs vt).toList ++ post).toArray tt (0, 0))
  mod : Mod (fun b => b = C ∨ b = T ∨ n + 2 ≤ b ∧ b ≤ n + 4) w0 w
  hp : w.heap[n + 2]? = some (.cells #[.int .i64 (r.np : Int)] 3 (0, 0))
  hs : w.heap[n + 3]? = some (.cells #[.int .i64 (r.ns : Int)] 3 (0, 0))
  ht : w.heap[n + 4]? = some (.cells #[.int .i64 (r.nt : Int)] 3 (0, 0))
  cnt : r.np < 256 ∧ r.ns < 256 ∧ r.nt < 256
  rows : ∃ P p Q q R r', vp = .slice P r.t.pool.length p ∧ vs = .slice Q r.t.statics.length q ∧ vt = .slice R r.t.twices.length r' ∧ RowAt (fun b => n + 7 ≤ b) w P (numCells r.t.pool) ∧ RowAt (fun b => n + 7 ≤ b) w Q (prCells r.t.statics) ∧ RowAt (fun b => n + 7 ≤ b) w R (prCells r.t.twices)
section
variable {w0 : World} {n C T o : Nat} {A : Option Addr} {c : Nat} {B : List UInt8} {S : Nat → Prop} {pre post : List Value} {tt : TypeId} {r : RS} {vp vs vt : Value} {w : World}
theorem RG.gt (g : RG w0 n C T o A c B S pre) : n + 6 < w0.heap.size := lt_of_block g.rw6
theorem TR.keep (h : TR w0 n C T A c B pre post tt r vp vs vt w) (g : RG w0 n C T o A c B S pre) {b : Nat} {ob : Obj} (hb : w0.heap[b]? = some ob) (h1 : n ≤ b) (h2 : b < n + 2 ∨ n + 4 < b) : w.heap[b]? = some ob := by
  refine h.mod.obj hb ?_
  have := g.C_lt
  have := g.T_lt
  rintro (f | f | f) <;> omega
theorem TR.boxes (h : TR w0 n C T A c B pre post tt r vp vs vt w) (g : RG w0 n C T o A c B S pre) : Boxes w n (n + 1) C T o := ⟨h.keep g g.bx.c (by omega) (by omega), h.keep g g.bx.t (by omega) (by omega)⟩
theorem TR.row (h : TR w0 n C T A c B pre post tt r vp vs vt w) (g : RG w0 n C T o A c B S pre) : RowAt S w A (bcells B) := g.row.keeps (h.mod.keeps fun b hb hs f => by
  have := g.S_lt b hs
  rcases f with f | f | f
  · exact g.SC (by rw [← f]; exact hs)
  · exact g.ST (by rw [← f]; exact hs)
  · omega)
theorem TR.mod' (h : TR w0 n C T A c B pre post tt r vp vs vt w) {w' : World} (hm : Mod (fun b => b = C ∨ b = T) w w') : Mod (fun b => b = C ∨ b = T ∨ n + 2 ≤ b ∧ b ≤ n + 4) w0 w' :=
  h.mod.trans (hm.mono fun b f => by rcases f with f | f; exact .inl f; exact .inr (.inl f))
theorem TR.rows' (h : TR w0 n C T A c B pre post tt r vp vs vt w) (g : RG w0 n C T o A c B S pre) {w' : World} (hm : Mod (fun b => b < n + 7) w w') :
    ∃ P p Q q R r', vp = .slice P r.t.pool.length p ∧ vs = .slice Q r.t.statics.length q ∧ vt = .slice R r.t.twices.length r' ∧ RowAt (fun b => n + 7 ≤ b) w' P (numCells r.t.pool) ∧ RowAt (fun b => n + 7 ≤ b) w' Q (prCells r.t.statics) ∧ RowAt (fun b => n + 7 ≤ b) w' R (prCells r.t.twices) := by
  obtain ⟨P, p, Q, q, R, r', e1, e2, e3, r1, r2, r3⟩ := h.rows
  have hk : Keeps (fun b => n + 7 ≤ b) w w' := hm.keeps fun b hb hs f => by omega
  exact ⟨P, p, Q, q, R, r', e1, e2, e3, r1.keeps hk, r2.keeps hk, r3.keeps hk⟩
/-- A step that turns the coder and one field. -/
theorem TR.next (h : TR w0 n C T A c B pre post tt r vp vs vt w) (g : RG w0 n C T o A c B S pre) {w' : World} {t' : Ten} {s' : St} (hs : s'.1 ≤ B.length) (hrd : w'.heap[C]? = some (rdObj A B.length c s'.1 s'.2)) (ht : w'.heap[T]? = some (.cells (pre ++ (t'.cells vp vs vt).toList ++ post).toArray tt (0, 0)))
    (hm : Mod (fun b => b = C ∨ b = T) w w') (hl : t'.pool = r.t.pool ∧ t'.statics = r.t.statics ∧ t'.twices = r.t.twices) : TR w0 n C T A c B pre post tt { r with t := t', s := s' } vp vs vt w' := by
  have k1 := g.C_lt
  have k2 := g.T_lt
  have hob : ∀ b o, w.heap[b]? = some o → n ≤ b → w'.heap[b]? = some o := fun b o hb hn => hm.obj hb (by rintro (f | f) <;> omega)
  refine ⟨hrd, hs, ht, h.mod' hm, hob _ _ h.hp (by omega), hob _ _ h.hs (by omega), hob _ _ h.ht (by omega), h.cnt, ?_⟩
  simp only [hl.1, hl.2.1, hl.2.2]
  exact h.rows' g (hm.mono fun b f => by rcases f with f | f <;> omega)
theorem TR.cell (h : TR w0 n C T A c B pre post tt r vp vs vt w) (g : RG w0 n C T o A c B S pre) {j : Nat} {u : Value} (hj : j < 33) (hu : (r.t.cells vp vs vt).toList[j]? = some u) : w.cell? ⟨T, o + j, none⟩ = some u := by
  rw [blk_cell h.ten, List.getElem?_toArray, mid_get g.ho (by simpa [Ten.cells] using hj), hu]
theorem set_mid (hlen : pre.length = o) {X : List Value} {j : Nat} (hj : j < X.length) (v : Value) {t : TypeId} : (Obj.cells ((pre ++ X ++ post).toArray.setIfInBounds (o + j) v) t) = .cells (pre ++ X.set j v ++ post).toArray t := by
  rw [List.setIfInBounds_toArray, mid_set hlen hj]
theorem size_mid (hlen : pre.length = o) {X : List Value} (hX : X.length = 33) {j : Nat} (hj : j < 33) : o + j < (pre ++ X ++ post).toArray.size := by
  simp; omega
theorem ten_len (t : Ten) (vp vs vt : Value) : (t.cells vp vs vt).toList.length = 33 := rfl
/-- The state's invariant. -/
def RI (w0 : World) (n C T : Nat) (A : Option Addr) (c : Nat) (B : List UInt8) (pre post : List Value) (tt : TypeId) (s : St) (k : Nat) (w : World) : Prop := ∃ vp vs vt, TR w0 n C T A c B pre post tt (rk B s k) vp vs vt w
theorem own_rowAt {w : World} {base : Nat} {e : TypeId} {size : Nat} {v : Value} {m : Nat} {xs : List Value} (h : w.ownsRow base e size v m xs) : ∃ P p, v = .slice P m p ∧ RowAt (fun b => base ≤ b) w P xs := by
  obtain ⟨P, p, e, _, r⟩ := RowAt.of_owns h
  exact ⟨P, p, e, r⟩
end
section
variable {w0 : World} {n C T o : Nat} {A : Option Addr} {c : Nat} {B : List UInt8} {S : Nat → Prop} {pre post : List Value} {tt : TypeId} {s : St} {w : World}
theorem ri_0 (g : RG w0 n C T o A c B S pre) (h : RI w0 n C T A c B pre post tt s 0 w) :
    Calls Try.prog 58 #[bxv n, bxv (n + 1)] w fun e w' => e = .returned (.tuple #[]) ∧ RI w0 n C T A c B pre post tt s 1 w' := by
  obtain ⟨vp, vs, vt, h⟩ := h
  have hk : rk B s 1 = (fun r : RS => ({ r with t := { r.t with name := (rname B r.s).1 }, s := (rname B r.s).2 } : RS)) (rk B s 0) := rfl
  unfold RI
  rw [hk]
  have hn : (rk B s 0).t.name = [] := rfl
  generalize rk B s 0 = r at h hn ⊢
  clear hk
  refine (ten_name_rd B h.rd (h.row g) h.le g.hc g.hB g.SC (h.boxes g) r.t.name (by rw [hn]; decide) h.ten (by rw [List.getElem?_toArray]; exact mid_get (j := 0) g.ho (by rw [ten_len]; decide)) g.TC).mono fun e w' ⟨he, a1, a2, a3⟩ => ⟨he, vp, vs, vt, h.next g (rname_le B _ h.le) a1 ?_ a3 ⟨rfl, rfl, rfl⟩⟩
  rw [a2]
  exact congrArg some (set_mid (j := 0) g.ho (by rw [ten_len]; decide) _)
theorem ri_1 (g : RG w0 n C T o A c B S pre) (h : RI w0 n C T A c B pre post tt s 1 w) :
    Calls Try.prog 59 #[bxv n, bxv (n + 1)] w fun e w' => e = .returned (.tuple #[]) ∧ RI w0 n C T A c B pre post tt s 2 w' := by
  obtain ⟨vp, vs, vt, h⟩ := h
  have hk : rk B s 2 = (fun r : RS => ({ r with t := { r.t with vni := (rnum B 4 r.s).1 }, s := (rnum B 4 r.s).2 } : RS)) (rk B s 1) := rfl
  unfold RI
  rw [hk]
  generalize rk B s 1 = r at h ⊢
  clear hk
  refine (ten_vni_rd B h.rd (h.row g) h.le g.hc g.hB g.SC (h.boxes g) h.ten (size_mid g.ho (ten_len _ _ _ _) (by decide)) g.TC).mono fun e w' ⟨he, a1, a2, a3⟩ => ⟨he, vp, vs, vt, h.next g (rnum_le B 4 _ h.le) a1 ?_ a3 ⟨rfl, rfl, rfl⟩⟩
  rw [a2]
  exact congrArg some (set_mid (j := 1) g.ho (by rw [ten_len]; decide) _)
theorem ri_2 (g : RG w0 n C T o A c B S pre) (h : RI w0 n C T A c B pre post tt s 2 w) :
    Calls Try.prog 60 #[bxv n, bxv (n + 1)] w fun e w' => e = .returned (.tuple #[]) ∧ RI w0 n C T A c B pre post tt s 3 w' := by
  obtain ⟨vp, vs, vt, h⟩ := h
  have hk : rk B s 3 = (fun r : RS => ({ r with t := { r.t with key := K8.of (rtake B r.s 8).1 }, s := (rtake B r.s 8).2 } : RS)) (rk B s 2) := rfl
  unfold RI
  rw [hk]
  generalize rk B s 2 = r at h ⊢
  clear hk
  refine (ten_key_rd B h.rd (h.row g) h.le g.hc g.hB g.SC (h.boxes g) h.ten (by simp only [List.length_append, ten_len, g.ho]; omega) g.TC).mono fun e w' ⟨he, a1, a2, a3⟩ => ⟨he, vp, vs, vt, h.next g (rtake_le B _ 8 h.le) a1 ?_ a3 ⟨rfl, rfl, rfl⟩⟩
  rw [a2, splice_mid g.ho _ (by rw [bcells_length, rtake_length, ten_len]; decide), key_splice _ _ _ _ _ (rtake_length _ _ _)]
theorem ri_3 (g : RG w0 n C T o A c B S pre) (h : RI w0 n C T A c B pre post tt s 3 w) :
    Calls Try.prog 62 #[bxv n, bxv (n + 1)] w fun e w' => e = .returned (.tuple #[]) ∧ RI w0 n C T A c B pre post tt s 4 w' := by
  obtain ⟨vp, vs, vt, h⟩ := h
  have hk : rk B s 4 = (fun r : RS => ({ r with t := { r.t with vtep := (rnum B 4 r.s).1 }, s := (rnum B 4 r.s).2 } : RS)) (rk B s 3) := rfl
  unfold RI
  rw [hk]
  generalize rk B s 3 = r at h ⊢
  clear hk
  refine (ten_vtep_rd B h.rd (h.row g) h.le g.hc g.hB g.SC (h.boxes g) h.ten (size_mid g.ho (ten_len _ _ _ _) (by decide)) g.TC).mono fun e w' ⟨he, a1, a2, a3⟩ => ⟨he, vp, vs, vt, h.next g (rnum_le B 4 _ h.le) a1 ?_ a3 ⟨rfl, rfl, rfl⟩⟩
  rw [a2]
  exact congrArg some (set_mid (j := 10) g.ho (by rw [ten_len]; decide) _)
theorem ri_4 (g : RG w0 n C T o A c B S pre) (h : RI w0 n C T A c B pre post tt s 4 w) :
    Calls Try.prog 63 #[bxv n, bxv (n + 1)] w fun e w' => e = .returned (.tuple #[]) ∧ RI w0 n C T A c B pre post tt s 5 w' := by
  obtain ⟨vp, vs, vt, h⟩ := h
  have hk : rk B s 5 = (fun r : RS => ({ r with t := { r.t with vmac := M6.of (rtake B r.s 6).1 }, s := (rtake B r.s 6).2 } : RS)) (rk B s 4) := rfl
  unfold RI
  rw [hk]
  generalize rk B s 4 = r at h ⊢
  clear hk
  refine (ten_vmac_rd B h.rd (h.row g) h.le g.hc g.hB g.SC (h.boxes g) h.ten (by simp only [List.length_append, ten_len, g.ho]; omega) g.TC).mono fun e w' ⟨he, a1, a2, a3⟩ => ⟨he, vp, vs, vt, h.next g (rtake_le B _ 6 h.le) a1 ?_ a3 ⟨rfl, rfl, rfl⟩⟩
  rw [a2, splice_mid g.ho _ (by rw [bcells_length, rtake_length, ten_len]; decide), vmac_splice _ _ _ _ _ (rtake_length _ _ _)]
theorem ri_5 (g : RG w0 n C T o A c B S pre) (h : RI w0 n C T A c B pre post tt s 5 w) :
    Calls Try.prog 64 #[bxv n, bxv (n + 1)] w fun e w' => e = .returned (.tuple #[]) ∧ RI w0 n C T A c B pre post tt s 6 w' := by
  obtain ⟨vp, vs, vt, h⟩ := h
  have hk : rk B s 6 = (fun r : RS => ({ r with t := { r.t with host := M6.of (rtake B r.s 6).1 }, s := (rtake B r.s 6).2 } : RS)) (rk B s 5) := rfl
  unfold RI
  rw [hk]
  generalize rk B s 5 = r at h ⊢
  clear hk
  refine (ten_host_rd B h.rd (h.row g) h.le g.hc g.hB g.SC (h.boxes g) h.ten (by simp only [List.length_append, ten_len, g.ho]; omega) g.TC).mono fun e w' ⟨he, a1, a2, a3⟩ => ⟨he, vp, vs, vt, h.next g (rtake_le B _ 6 h.le) a1 ?_ a3 ⟨rfl, rfl, rfl⟩⟩
  rw [a2, splice_mid g.ho _ (by rw [bcells_length, rtake_length, ten_len]; decide), host_splice _ _ _ _ _ (rtake_length _ _ _)]
theorem ri_6 (g : RG w0 n C T o A c B S pre) (h : RI w0 n C T A c B pre post tt s 6 w) :
    Calls Try.prog 65 #[bxv n, bxv (n + 1)] w fun e w' => e = .returned (.tuple #[]) ∧ RI w0 n C T A c B pre post tt s 7 w' := by
  obtain ⟨vp, vs, vt, h⟩ := h
  have hk : rk B s 7 = (fun r : RS => ({ r with t := { r.t with lo := (rnum B 2 r.s).1 }, s := (rnum B 2 r.s).2 } : RS)) (rk B s 6) := rfl
  unfold RI
  rw [hk]
  generalize rk B s 6 = r at h ⊢
  clear hk
  refine (ten_lo_rd B h.rd (h.row g) h.le g.hc g.hB g.SC (h.boxes g) h.ten (size_mid g.ho (ten_len _ _ _ _) (by decide)) g.TC).mono fun e w' ⟨he, a1, a2, a3⟩ => ⟨he, vp, vs, vt, h.next g (rnum_le B 2 _ h.le) a1 ?_ a3 ⟨rfl, rfl, rfl⟩⟩
  rw [a2]
  exact congrArg some (set_mid (j := 24) g.ho (by rw [ten_len]; decide) _)
theorem ri_7 (g : RG w0 n C T o A c B S pre) (h : RI w0 n C T A c B pre post tt s 7 w) :
    Calls Try.prog 67 #[bxv n, bxv (n + 1)] w fun e w' => e = .returned (.tuple #[]) ∧ RI w0 n C T A c B pre post tt s 8 w' := by
  obtain ⟨vp, vs, vt, h⟩ := h
  have hk : rk B s 8 = (fun r : RS => ({ r with t := { r.t with hi := (rnum B 2 r.s).1 }, s := (rnum B 2 r.s).2 } : RS)) (rk B s 7) := rfl
  unfold RI
  rw [hk]
  generalize rk B s 7 = r at h ⊢
  clear hk
  refine (ten_hi_rd B h.rd (h.row g) h.le g.hc g.hB g.SC (h.boxes g) h.ten (size_mid g.ho (ten_len _ _ _ _) (by decide)) g.TC).mono fun e w' ⟨he, a1, a2, a3⟩ => ⟨he, vp, vs, vt, h.next g (rnum_le B 2 _ h.le) a1 ?_ a3 ⟨rfl, rfl, rfl⟩⟩
  rw [a2]
  exact congrArg some (set_mid (j := 25) g.ho (by rw [ten_len]; decide) _)
theorem ri_8 (g : RG w0 n C T o A c B S pre) (h : RI w0 n C T A c B pre post tt s 8 w) :
    Calls Try.prog 68 #[bxv n, bxv (n + 1)] w fun e w' => e = .returned (.tuple #[]) ∧ RI w0 n C T A c B pre post tt s 9 w' := by
  obtain ⟨vp, vs, vt, h⟩ := h
  have hk : rk B s 9 = (fun r : RS => ({ r with t := { r.t with filter := (rnum B 1 r.s).1 }, s := (rnum B 1 r.s).2 } : RS)) (rk B s 8) := rfl
  unfold RI
  rw [hk]
  generalize rk B s 8 = r at h ⊢
  clear hk
  refine (ten_filter_rd B h.rd (h.row g) h.le g.hc g.hB g.SC (h.boxes g) h.ten (size_mid g.ho (ten_len _ _ _ _) (by decide)) g.TC).mono fun e w' ⟨he, a1, a2, a3⟩ => ⟨he, vp, vs, vt, h.next g (rnum_le B 1 _ h.le) a1 ?_ a3 ⟨rfl, rfl, rfl⟩⟩
  rw [a2]
  exact congrArg some (set_mid (j := 26) g.ho (by rw [ten_len]; decide) _)
theorem ri_9 (g : RG w0 n C T o A c B S pre) (h : RI w0 n C T A c B pre post tt s 9 w) :
    Calls Try.prog 70 #[bxv n, bxv (n + 1)] w fun e w' => e = .returned (.tuple #[]) ∧ RI w0 n C T A c B pre post tt s 10 w' := by
  obtain ⟨vp, vs, vt, h⟩ := h
  have hk : rk B s 10 = (fun r : RS => ({ r with t := { r.t with sess := (rnum B 2 r.s).1 }, s := (rnum B 2 r.s).2 } : RS)) (rk B s 9) := rfl
  unfold RI
  rw [hk]
  generalize rk B s 9 = r at h ⊢
  clear hk
  refine (ten_sess_rd B h.rd (h.row g) h.le g.hc g.hB g.SC (h.boxes g) h.ten (size_mid g.ho (ten_len _ _ _ _) (by decide)) g.TC).mono fun e w' ⟨he, a1, a2, a3⟩ => ⟨he, vp, vs, vt, h.next g (rnum_le B 2 _ h.le) a1 ?_ a3 ⟨rfl, rfl, rfl⟩⟩
  rw [a2]
  exact congrArg some (set_mid (j := 29) g.ho (by rw [ten_len]; decide) _)
theorem ri_10 (g : RG w0 n C T o A c B S pre) (h : RI w0 n C T A c B pre post tt s 10 w) :
    Calls Try.prog 71 #[bxv n, bxv (n + 1)] w fun e w' => e = .returned (.tuple #[]) ∧ RI w0 n C T A c B pre post tt s 11 w' := by
  obtain ⟨vp, vs, vt, h⟩ := h
  have hk : rk B s 11 = (fun r : RS => ({ r with t := { r.t with queue := (rnum B 2 r.s).1 }, s := (rnum B 2 r.s).2 } : RS)) (rk B s 10) := rfl
  unfold RI
  rw [hk]
  generalize rk B s 10 = r at h ⊢
  clear hk
  refine (ten_queue_rd B h.rd (h.row g) h.le g.hc g.hB g.SC (h.boxes g) h.ten (size_mid g.ho (ten_len _ _ _ _) (by decide)) g.TC).mono fun e w' ⟨he, a1, a2, a3⟩ => ⟨he, vp, vs, vt, h.next g (rnum_le B 2 _ h.le) a1 ?_ a3 ⟨rfl, rfl, rfl⟩⟩
  rw [a2]
  exact congrArg some (set_mid (j := 30) g.ho (by rw [ten_len]; decide) _)
theorem ri_11 (g : RG w0 n C T o A c B S pre) (h : RI w0 n C T A c B pre post tt s 11 w) :
    Calls Try.prog 72 #[bxv n, bxv (n + 1)] w fun e w' => e = .returned (.tuple #[]) ∧ RI w0 n C T A c B pre post tt s 12 w' := by
  obtain ⟨vp, vs, vt, h⟩ := h
  have hk : rk B s 12 = (fun r : RS => ({ r with t := { r.t with rate := (rnum B 4 r.s).1 }, s := (rnum B 4 r.s).2 } : RS)) (rk B s 11) := rfl
  unfold RI
  rw [hk]
  generalize rk B s 11 = r at h ⊢
  clear hk
  refine (ten_rate_rd B h.rd (h.row g) h.le g.hc g.hB g.SC (h.boxes g) h.ten (size_mid g.ho (ten_len _ _ _ _) (by decide)) g.TC).mono fun e w' ⟨he, a1, a2, a3⟩ => ⟨he, vp, vs, vt, h.next g (rnum_le B 4 _ h.le) a1 ?_ a3 ⟨rfl, rfl, rfl⟩⟩
  rw [a2]
  exact congrArg some (set_mid (j := 31) g.ho (by rw [ten_len]; decide) _)
theorem ri_12 (g : RG w0 n C T o A c B S pre) (h : RI w0 n C T A c B pre post tt s 12 w) :
    Calls Try.prog 73 #[bxv n, bxv (n + 1)] w fun e w' => e = .returned (.tuple #[]) ∧ RI w0 n C T A c B pre post tt s 13 w' := by
  obtain ⟨vp, vs, vt, h⟩ := h
  have hk : rk B s 13 = (fun r : RS => ({ r with t := { r.t with burst := (rnum B 4 r.s).1 }, s := (rnum B 4 r.s).2 } : RS)) (rk B s 12) := rfl
  unfold RI
  rw [hk]
  generalize rk B s 12 = r at h ⊢
  clear hk
  refine (ten_burst_rd B h.rd (h.row g) h.le g.hc g.hB g.SC (h.boxes g) h.ten (size_mid g.ho (ten_len _ _ _ _) (by decide)) g.TC).mono fun e w' ⟨he, a1, a2, a3⟩ => ⟨he, vp, vs, vt, h.next g (rnum_le B 4 _ h.le) a1 ?_ a3 ⟨rfl, rfl, rfl⟩⟩
  rw [a2]
  exact congrArg some (set_mid (j := 32) g.ho (by rw [ten_len]; decide) _)
theorem ri_13 (g : RG w0 n C T o A c B S pre) (h : RI w0 n C T A c B pre post tt s 13 w) :
    Calls Try.prog 74 #[bxv n, bxv (n + 1), bxv (n + 2)] w fun e w' => e = .returned (.tuple #[]) ∧ RI w0 n C T A c B pre post tt s 14 w' := by
  obtain ⟨vp, vs, vt, h⟩ := h
  have hk : rk B s 14 = (fun r : RS => ({ r with np := (rnum B 1 r.s).1, s := (rnum B 1 r.s).2 } : RS)) (rk B s 13) := rfl
  unfold RI
  rw [hk]
  generalize rk B s 13 = r at h ⊢
  clear hk
  obtain ⟨P, p, Q, q, R, r', e1, e2, e3, r1, r2, r3⟩ := h.rows
  subst e1 e2 e3
  refine (ten_npool_rd B h.rd (h.row g) h.le g.hc g.hB g.SC (h.boxes g) (h.cell g (j := 23) (by decide) rfl) h.hp (by have := g.C_lt; omega)).mono fun e w' ⟨he, a1, a2, a3⟩ => ⟨he, .slice P r.t.pool.length p, .slice Q r.t.statics.length q, .slice R r.t.twices.length r', ?_⟩
  have k1 := g.C_lt
  have k2 := g.T_lt
  have hob : ∀ b o, w.heap[b]? = some o → b ≠ n + 2 → b ≠ C → w'.heap[b]? = some o := fun b o hb hn hc => a3.obj hb (by rintro (f | f) <;> omega)
  refine ⟨a1, rnum_le B 1 _ h.le, hob _ _ h.ten (by omega) g.TC, h.mod.trans (a3.mono fun b f => by rcases f with f | f; exact .inl f; exact .inr (.inr (by omega))), a2, hob _ _ h.hs (by omega) (by omega), hob _ _ h.ht (by omega) (by omega), ⟨rnum_lt B 1 _, h.cnt.2.1, h.cnt.2.2⟩, h.rows' g (a3.mono fun b f => by rcases f with f | f <;> omega)⟩
theorem ri_14 (g : RG w0 n C T o A c B S pre) (h : RI w0 n C T A c B pre post tt s 14 w) :
    Calls Try.prog 76 #[bxv n, bxv (n + 1), bxv (n + 3)] w fun e w' => e = .returned (.tuple #[]) ∧ RI w0 n C T A c B pre post tt s 15 w' := by
  obtain ⟨vp, vs, vt, h⟩ := h
  have hk : rk B s 15 = (fun r : RS => ({ r with ns := (rnum B 1 r.s).1, s := (rnum B 1 r.s).2 } : RS)) (rk B s 14) := rfl
  unfold RI
  rw [hk]
  generalize rk B s 14 = r at h ⊢
  clear hk
  obtain ⟨P, p, Q, q, R, r', e1, e2, e3, r1, r2, r3⟩ := h.rows
  subst e1 e2 e3
  refine (ten_nstatics_rd B h.rd (h.row g) h.le g.hc g.hB g.SC (h.boxes g) (h.cell g (j := 27) (by decide) rfl) h.hs (by have := g.C_lt; omega)).mono fun e w' ⟨he, a1, a2, a3⟩ => ⟨he, .slice P r.t.pool.length p, .slice Q r.t.statics.length q, .slice R r.t.twices.length r', ?_⟩
  have k1 := g.C_lt
  have k2 := g.T_lt
  have hob : ∀ b o, w.heap[b]? = some o → b ≠ n + 3 → b ≠ C → w'.heap[b]? = some o := fun b o hb hn hc => a3.obj hb (by rintro (f | f) <;> omega)
  refine ⟨a1, rnum_le B 1 _ h.le, hob _ _ h.ten (by omega) g.TC, h.mod.trans (a3.mono fun b f => by rcases f with f | f; exact .inl f; exact .inr (.inr (by omega))), hob _ _ h.hp (by omega) (by omega), a2, hob _ _ h.ht (by omega) (by omega), ⟨h.cnt.1, rnum_lt B 1 _, h.cnt.2.2⟩, h.rows' g (a3.mono fun b f => by rcases f with f | f <;> omega)⟩
theorem ri_15 (g : RG w0 n C T o A c B S pre) (h : RI w0 n C T A c B pre post tt s 15 w) :
    Calls Try.prog 77 #[bxv n, bxv (n + 1), bxv (n + 4)] w fun e w' => e = .returned (.tuple #[]) ∧ RI w0 n C T A c B pre post tt s 16 w' := by
  obtain ⟨vp, vs, vt, h⟩ := h
  have hk : rk B s 16 = (fun r : RS => ({ r with nt := (rnum B 1 r.s).1, s := (rnum B 1 r.s).2 } : RS)) (rk B s 15) := rfl
  unfold RI
  rw [hk]
  generalize rk B s 15 = r at h ⊢
  clear hk
  obtain ⟨P, p, Q, q, R, r', e1, e2, e3, r1, r2, r3⟩ := h.rows
  subst e1 e2 e3
  refine (ten_ntwices_rd B h.rd (h.row g) h.le g.hc g.hB g.SC (h.boxes g) (h.cell g (j := 28) (by decide) rfl) h.ht (by have := g.C_lt; omega)).mono fun e w' ⟨he, a1, a2, a3⟩ => ⟨he, .slice P r.t.pool.length p, .slice Q r.t.statics.length q, .slice R r.t.twices.length r', ?_⟩
  have k1 := g.C_lt
  have k2 := g.T_lt
  have hob : ∀ b o, w.heap[b]? = some o → b ≠ n + 4 → b ≠ C → w'.heap[b]? = some o := fun b o hb hn hc => a3.obj hb (by rintro (f | f) <;> omega)
  refine ⟨a1, rnum_le B 1 _ h.le, hob _ _ h.ten (by omega) g.TC, h.mod.trans (a3.mono fun b f => by rcases f with f | f; exact .inl f; exact .inr (.inr (by omega))), hob _ _ h.hp (by omega) (by omega), hob _ _ h.hs (by omega) (by omega), a2, ⟨h.cnt.1, h.cnt.2.1, rnum_lt B 1 _⟩, h.rows' g (a3.mono fun b f => by rcases f with f | f <;> omega)⟩
theorem ri_16 (g : RG w0 n C T o A c B S pre) (h : RI w0 n C T A c B pre post tt s 16 w) :
    Calls Try.prog 78 #[bxv n, bxv (n + 2), bxv (n + 1)] w fun e w' => e = .returned (.tuple #[]) ∧ RI w0 n C T A c B pre post tt s 17 w' := by
  obtain ⟨vp, vs, vt, h⟩ := h
  have hk : rk B s 17 = (fun r : RS => ({ r with t := { r.t with pool := (rmany (rnum B 4) r.np r.s).1 }, s := (rmany (rnum B 4) r.np r.s).2 } : RS)) (rk B s 16) := rfl
  unfold RI
  rw [hk]
  generalize rk B s 16 = r at h ⊢
  clear hk
  have k1 := g.C_lt
  have k2 := g.T_lt
  have hsz : n + 6 < w.heap.size := Nat.lt_of_lt_of_le g.gt h.mod.size
  refine (ten_lpool_rd B h.rd (h.row g) h.le g.hc g.hB g.SC g.ST (h.boxes g) (by omega) (by omega) (by have := h.cnt; omega) (fun b hb => by have := g.S_lt b hb; omega) h.hp h.ten (size_mid g.ho (ten_len _ _ _ _) (by decide)) g.TC).mono fun e w' ⟨he, a1, ⟨v, a2, a4⟩, a3⟩ => ⟨he, v, vs, vt, ?_⟩
  obtain ⟨P', p', e', r0'⟩ := own_rowAt a4
  have r1' := r0'.mono (S' := fun b => n + 7 ≤ b) (fun b _ hb => by omega)
  obtain ⟨P, p, Q, q, R, r', e1, e2, e3, r1, r2, r3⟩ := h.rows' g (a3.mono (G := fun b => b < n + 7) fun b f => by rcases f with f | f <;> omega)
  have hob : ∀ b o, w.heap[b]? = some o → n ≤ b → w'.heap[b]? = some o := fun b o hb hn => a3.obj hb (by rintro (f | f) <;> omega)
  refine ⟨a1, rmany_le (rnum_le B 4) _ _ h.le, ?_, h.mod' a3, hob _ _ h.hp (by omega), hob _ _ h.hs (by omega), hob _ _ h.ht (by omega), h.cnt, ⟨P', p', Q, q, R, r', e', e2, e3, r1', r2, r3⟩⟩
  rw [a2]
  exact congrArg some (set_mid (j := 23) g.ho (by rw [ten_len]; decide) _)
theorem ri_17 (g : RG w0 n C T o A c B S pre) (h : RI w0 n C T A c B pre post tt s 17 w) :
    Calls Try.prog 81 #[bxv n, bxv (n + 3), bxv (n + 1), bxv (n + 5)] w fun e w' => e = .returned (.tuple #[]) ∧ RI w0 n C T A c B pre post tt s 18 w' := by
  obtain ⟨vp, vs, vt, h⟩ := h
  have hk : rk B s 18 = (fun r : RS => ({ r with t := { r.t with statics := (rmany (rpr B) r.ns r.s).1 }, s := (rmany (rpr B) r.ns r.s).2 } : RS)) (rk B s 17) := rfl
  unfold RI
  rw [hk]
  generalize rk B s 17 = r at h ⊢
  clear hk
  have k1 := g.C_lt
  have k2 := g.T_lt
  have hsz : n + 6 < w.heap.size := Nat.lt_of_lt_of_le g.gt h.mod.size
  refine (ten_lstatics_rd B h.rd (h.row g) h.le g.hc g.hB g.SC g.ST (h.boxes g) (by omega) (by omega) (by have := h.cnt; omega) (fun b hb => by have := g.S_lt b hb; omega) h.hs (h.keep g g.pr (by omega) (by omega)) h.ten (size_mid g.ho (ten_len _ _ _ _) (by decide)) g.TC).mono fun e w' ⟨he, a1, ⟨v, a2, a4⟩, a3⟩ => ⟨he, vp, v, vt, ?_⟩
  obtain ⟨P', p', e', r0'⟩ := own_rowAt a4
  have r1' := r0'.mono (S' := fun b => n + 7 ≤ b) (fun b _ hb => by omega)
  obtain ⟨P, p, Q, q, R, r', e1, e2, e3, r1, r2, r3⟩ := h.rows' g (a3.mono (G := fun b => b < n + 7) fun b f => by rcases f with f | f <;> omega)
  have hob : ∀ b o, w.heap[b]? = some o → n ≤ b → w'.heap[b]? = some o := fun b o hb hn => a3.obj hb (by rintro (f | f) <;> omega)
  refine ⟨a1, rmany_le (rpr_le B) _ _ h.le, ?_, h.mod' a3, hob _ _ h.hp (by omega), hob _ _ h.hs (by omega), hob _ _ h.ht (by omega), h.cnt, ⟨P, p, P', p', R, r', e1, e', e3, r1, r1', r3⟩⟩
  rw [a2]
  exact congrArg some (set_mid (j := 27) g.ho (by rw [ten_len]; decide) _)
theorem ri_18 (g : RG w0 n C T o A c B S pre) (h : RI w0 n C T A c B pre post tt s 18 w) :
    Calls Try.prog 83 #[bxv n, bxv (n + 4), bxv (n + 1), bxv (n + 5)] w fun e w' => e = .returned (.tuple #[]) ∧ RI w0 n C T A c B pre post tt s 19 w' := by
  obtain ⟨vp, vs, vt, h⟩ := h
  have hk : rk B s 19 = (fun r : RS => ({ r with t := { r.t with twices := (rmany (rpr B) r.nt r.s).1 }, s := (rmany (rpr B) r.nt r.s).2 } : RS)) (rk B s 18) := rfl
  unfold RI
  rw [hk]
  generalize rk B s 18 = r at h ⊢
  clear hk
  have k1 := g.C_lt
  have k2 := g.T_lt
  have hsz : n + 6 < w.heap.size := Nat.lt_of_lt_of_le g.gt h.mod.size
  refine (ten_ltwices_rd B h.rd (h.row g) h.le g.hc g.hB g.SC g.ST (h.boxes g) (by omega) (by omega) (by have := h.cnt; omega) (fun b hb => by have := g.S_lt b hb; omega) h.ht (h.keep g g.pr (by omega) (by omega)) h.ten (size_mid g.ho (ten_len _ _ _ _) (by decide)) g.TC).mono fun e w' ⟨he, a1, ⟨v, a2, a4⟩, a3⟩ => ⟨he, vp, vs, v, ?_⟩
  obtain ⟨P', p', e', r0'⟩ := own_rowAt a4
  have r1' := r0'.mono (S' := fun b => n + 7 ≤ b) (fun b _ hb => by omega)
  obtain ⟨P, p, Q, q, R, r', e1, e2, e3, r1, r2, r3⟩ := h.rows' g (a3.mono (G := fun b => b < n + 7) fun b f => by rcases f with f | f <;> omega)
  have hob : ∀ b o, w.heap[b]? = some o → n ≤ b → w'.heap[b]? = some o := fun b o hb hn => a3.obj hb (by rintro (f | f) <;> omega)
  refine ⟨a1, rmany_le (rpr_le B) _ _ h.le, ?_, h.mod' a3, hob _ _ h.hp (by omega), hob _ _ h.hs (by omega), hob _ _ h.ht (by omega), h.cnt, ⟨P, p, Q, q, P', p', e1, e2, e', r1, r2, r1'⟩⟩
  rw [a2]
  exact congrArg some (set_mid (j := 28) g.ho (by rw [ten_len]; decide) _)
end
end

section
attribute [local go_sem] stPair gtPair gtK8 gtM6 run_store_func
attribute [local go_sem high] neqPair eqK8 eqM6
open Go.RowKit
set_option linter.unusedVariables false
set_option linter.unusedSimpArgs false
/-- Nothing is cut off. -/
structure Ten.Fits (t : Ten) : Prop where
  name : t.name.length ≤ 255
  pool : t.pool.length ≤ 255
  statics : t.statics.length ≤ 255
  twices : t.twices.length ≤ 255
  filter : 0 ≤ t.filter ∧ t.filter ≤ 255
  sess : 0 ≤ t.sess ∧ t.sess ≤ 65535
  queue : 0 ≤ t.queue ∧ t.queue ≤ 65535
/-- Where field k begins. -/
def pos (L : List UInt8) (t : Ten) (k : Nat) : St := ((L ++ ((wfields t).take k).flatten).length, false)
end

section
attribute [local go_sem] stPair gtPair gtK8 gtM6
attribute [local go_sem high] neqPair eqK8 eqM6
open Go.RowKit
set_option linter.unusedVariables false
theorem tenSize : (Try.prog.info? 33).map (·.size) = some 33 := by kernel_rfl
theorem load_ten {W : World} {b : Nat} {CA : Array Value} (h : W.heap[b]? = some (.cells CA 33 (0, 0))) (hc : CA.size = 33) :
    (Instr.loadAt 33 (.pointer (some ⟨b, 0, none⟩))).run Try.prog W = .ok (.agg CA) W := by
  simp only [Instr.loadAt, Instr.sureAddr, Sem.run_bind, Sem.run_pure, Result.andThen_ok]
  exact run_loadVar_row W b _ _ CA (0, 0) _ h Try.underlying33 rfl (by rw [tenSize, hc])
/-- A tenant loaded: under a name of its own, which the walk does not lay open. -/
def tenLoad (v : Value) : Sem Value := Instr.loadAt 33 v
theorem load_fold (v : Value) : Instr.loadAt 33 v = tenLoad v := rfl
attribute [local go_sem ↓] load_fold
theorem tenLoad_run {W : World} {b : Nat} {CA : Array Value} (h : W.heap[b]? = some (.cells CA 33 (0, 0))) (hc : CA.size = 33) : (tenLoad (.pointer (some ⟨b, 0, none⟩))).run Try.prog W = .ok (.agg CA) W := load_ten h hc
end

section
attribute [local go_sem] stPair gtPair gtK8 gtM6 run_store_func
attribute [local go_sem high] neqPair eqK8 eqM6
attribute [local go_sem ↓] load_fold
open Go.RowKit
set_option linter.unusedVariables false
/-- A tenant with its three lists' values. -/
structure TV where
  t : Ten
  vp : Value
  vs : Value
  vt : Value
def TV.cells (x : TV) : List Value := (x.t.cells x.vp x.vs x.vt).toList
theorem TV.len (x : TV) : x.cells.length = 33 := rfl
def tvCells (l : List TV) : List Value := l.flatMap TV.cells
def TV.Rows (S : Nat → Prop) (w : World) (x : TV) : Prop :=
  ∃ P p Q q R r, x.vp = .slice P x.t.pool.length p ∧ x.vs = .slice Q x.t.statics.length q ∧ x.vt = .slice R x.t.twices.length r ∧ RowAt S w P (numCells x.t.pool) ∧ RowAt S w Q (prCells x.t.statics) ∧ RowAt S w R (prCells x.t.twices)
theorem TV.Rows.imp {S S' : Nat → Prop} {w : World} {x : TV} (h : x.Rows S w) (hs : ∀ b, S b → S' b) : x.Rows S' w := by
  obtain ⟨P, p, Q, q, R, r, e1, e2, e3, r1, r2, r3⟩ := h
  exact ⟨P, p, Q, q, R, r, e1, e2, e3, r1.mono (fun b _ => hs b), r2.mono (fun b _ => hs b), r3.mono (fun b _ => hs b)⟩
theorem TV.Rows.lt {S S' : Nat → Prop} {w : World} {x : TV} (h : x.Rows S w) (hs : ∀ b, b < w.heap.size → S b → S' b) : x.Rows S' w := by
  obtain ⟨P, p, Q, q, R, r, e1, e2, e3, r1, r2, r3⟩ := h
  exact ⟨P, p, Q, q, R, r, e1, e2, e3, r1.mono hs, r2.mono hs, r3.mono hs⟩
theorem TV.Rows.keeps {S : Nat → Prop} {w w' : World} {x : TV} (h : x.Rows S w) (hk : Keeps S w w') : x.Rows S w' := by
  obtain ⟨P, p, Q, q, R, r, e1, e2, e3, r1, r2, r3⟩ := h
  exact ⟨P, p, Q, q, R, r, e1, e2, e3, r1.keeps hk, r2.keeps hk, r3.keeps hk⟩
/-! a tenant's operations under names of their own, which the walk does not lay open -/
def tenStore (p v : Value) : Sem Unit := Instr.storeAt 33 p v
theorem store_fold (p v : Value) : Instr.storeAt 33 p v = tenStore p v := rfl
attribute [local go_sem ↓] store_fold
def tenAlloc (v : Value) : Sem Value := Instr.alloc 33 true v
theorem alloc_fold (v : Value) : Instr.alloc 33 true v = tenAlloc v := rfl
attribute [local go_sem ↓] alloc_fold
def zTen : Array Value := Ten.zero.cells (.slice none 0 0) (.slice none 0 0) (.slice none 0 0)
set_option maxRecDepth 100000 in
theorem tenAlloc_run (W : World) : (tenAlloc (.tuple #[])).run Try.prog W = .ok (.pointer (some ⟨W.heap.size, 0, none⟩)) (W.alloc (.cells zTen 33)) := by kernel_rfl
theorem ten_one (t : Ten) (P Q R : Option Addr) (a b c d e f : Nat) : (t.cells (.slice P a b) (.slice Q c d) (.slice R e f)).all (·.oneCell') = true := by
  simp [Ten.cells, Value.oneCell']
theorem TV.one {S : Nat → Prop} {w : World} {x : TV} (h : x.Rows S w) : x.cells.toArray.all (·.oneCell') = true := by
  obtain ⟨P, p, Q, q, R, r, e1, e2, e3, _⟩ := h
  simp only [TV.cells, e1, e2, e3, Array.toArray_toList]
  exact ten_one _ _ _ _ _ _ _ _ _ _
theorem setRow_alloc (W : World) (a b : Array Value) (t : TypeId) : (W.alloc (.cells a t)).setRow W.heap.size b = W.alloc (.cells b t) := by
  unfold World.setRow World.alloc
  congr 1
  apply Array.ext_getElem?
  intro i
  rw [Array.getElem?_modify, Array.getElem?_push, Array.getElem?_push]
  by_cases h : W.heap.size = i
  · subst h; simp
  · have h' : ¬ i = W.heap.size := fun e => h e.symm
    simp [h, h']
end

section
attribute [local go_sem] stPair gtPair gtK8 gtM6 run_store_func
attribute [local go_sem high] neqPair eqK8 eqM6
attribute [local go_sem ↓] load_fold store_fold alloc_fold
open Go.RowKit
set_option linter.unusedVariables false
theorem ri_step {w0 : World} {n C T o : Nat} {A : Option Addr} {c : Nat} {B : List UInt8} {S : Nat → Prop} {pre post : List Value} {tt : TypeId} {s : St} (g : RG w0 n C T o A c B S pre) :
    ∀ k w1 f cc, tenFn[k]? = some f → (tenCap n)[k]? = some cc → RI w0 n C T A c B pre post tt s k w1 → w1.heap[n + 6]? = some (.cells (tenRow n).toArray 1 (0, 0)) ∧ Calls Try.prog f cc w1 fun e w' => e = .returned (.tuple #[]) ∧ RI w0 n C T A c B pre post tt s (k + 1) w' := by
  intro k w1 f c hf hc h
  have hk : k < 19 := (List.getElem?_eq_some_iff.1 hf).1
  refine ⟨?_, ?_⟩
  · obtain ⟨vp, vs, vt, h⟩ := h
    exact h.keep g g.rw6 (by omega) (by omega)
  have hor : k = 0 ∨ k = 1 ∨ k = 2 ∨ k = 3 ∨ k = 4 ∨ k = 5 ∨ k = 6 ∨ k = 7 ∨ k = 8 ∨ k = 9 ∨ k = 10 ∨ k = 11 ∨ k = 12 ∨ k = 13 ∨ k = 14 ∨ k = 15 ∨ k = 16 ∨ k = 17 ∨ k = 18 := by omega
  clear hk
  rcases hor with rfl | rfl | rfl | rfl | rfl | rfl | rfl | rfl | rfl | rfl | rfl | rfl | rfl | rfl | rfl | rfl | rfl | rfl | rfl
  · obtain rfl : 58 = f := Option.some.inj hf; obtain rfl : #[bxv n, bxv (n + 1)] = c := Option.some.inj hc; exact ri_0 g h
  · obtain rfl : 59 = f := Option.some.inj hf; obtain rfl : #[bxv n, bxv (n + 1)] = c := Option.some.inj hc; exact ri_1 g h
  · obtain rfl : 60 = f := Option.some.inj hf; obtain rfl : #[bxv n, bxv (n + 1)] = c := Option.some.inj hc; exact ri_2 g h
  · obtain rfl : 62 = f := Option.some.inj hf; obtain rfl : #[bxv n, bxv (n + 1)] = c := Option.some.inj hc; exact ri_3 g h
  · obtain rfl : 63 = f := Option.some.inj hf; obtain rfl : #[bxv n, bxv (n + 1)] = c := Option.some.inj hc; exact ri_4 g h
  · obtain rfl : 64 = f := Option.some.inj hf; obtain rfl : #[bxv n, bxv (n + 1)] = c := Option.some.inj hc; exact ri_5 g h
  · obtain rfl : 65 = f := Option.some.inj hf; obtain rfl : #[bxv n, bxv (n + 1)] = c := Option.some.inj hc; exact ri_6 g h
  · obtain rfl : 67 = f := Option.some.inj hf; obtain rfl : #[bxv n, bxv (n + 1)] = c := Option.some.inj hc; exact ri_7 g h
  · obtain rfl : 68 = f := Option.some.inj hf; obtain rfl : #[bxv n, bxv (n + 1)] = c := Option.some.inj hc; exact ri_8 g h
  · obtain rfl : 70 = f := Option.some.inj hf; obtain rfl : #[bxv n, bxv (n + 1)] = c := Option.some.inj hc; exact ri_9 g h
  · obtain rfl : 71 = f := Option.some.inj hf; obtain rfl : #[bxv n, bxv (n + 1)] = c := Option.some.inj hc; exact ri_10 g h
  · obtain rfl : 72 = f := Option.some.inj hf; obtain rfl : #[bxv n, bxv (n + 1)] = c := Option.some.inj hc; exact ri_11 g h
  · obtain rfl : 73 = f := Option.some.inj hf; obtain rfl : #[bxv n, bxv (n + 1)] = c := Option.some.inj hc; exact ri_12 g h
  · obtain rfl : 74 = f := Option.some.inj hf; obtain rfl : #[bxv n, bxv (n + 1), bxv (n + 2)] = c := Option.some.inj hc; exact ri_13 g h
  · obtain rfl : 76 = f := Option.some.inj hf; obtain rfl : #[bxv n, bxv (n + 1), bxv (n + 3)] = c := Option.some.inj hc; exact ri_14 g h
  · obtain rfl : 77 = f := Option.some.inj hf; obtain rfl : #[bxv n, bxv (n + 1), bxv (n + 4)] = c := Option.some.inj hc; exact ri_15 g h
  · obtain rfl : 78 = f := Option.some.inj hf; obtain rfl : #[bxv n, bxv (n + 2), bxv (n + 1)] = c := Option.some.inj hc; exact ri_16 g h
  · obtain rfl : 81 = f := Option.some.inj hf; obtain rfl : #[bxv n, bxv (n + 3), bxv (n + 1), bxv (n + 5)] = c := Option.some.inj hc; exact ri_17 g h
  · obtain rfl : 83 = f := Option.some.inj hf; obtain rfl : #[bxv n, bxv (n + 4), bxv (n + 1), bxv (n + 5)] = c := Option.some.inj hc; exact ri_18 g h
/-- A TENANT READ. -/
theorem tenant_rd {S : Nat → Prop} {w : World} {C : Nat} {A : Option Addr} {c : Nat} {s0 : St} (B : List UInt8) (hb : w.heap[C]? = some (rdObj A B.length c s0.1 s0.2)) (hrow : RowAt S w A (bcells B)) (hat : s0.1 ≤ B.length) (hc : B.length ≤ c) (hB : B.length ≤ 100000000) (hS : ¬ S C) {T o : Nat} (hST : ¬ S T) (hSl : ∀ b, S b → b < w.heap.size)
    {pre post : List Value} {tt : TypeId} (hT : w.heap[T]? = some (.cells (pre ++ zTen.toList ++ post).toArray tt (0, 0))) (ho : pre.length = o) (hTC : T ≠ C) :
    Calls Try.prog 47 #[.pointer (some ⟨C, 0, none⟩), .pointer (some ⟨T, o, none⟩)] w fun e w' => e = .returned (.tuple #[]) ∧ ∃ x : TV, x.t = (rten B s0).1 ∧ (rten B s0).2.1 ≤ B.length ∧ w'.heap[C]? = some (rdObj A B.length c (rten B s0).2.1 (rten B s0).2.2) ∧
      w'.heap[T]? = some (.cells (pre ++ x.cells ++ post).toArray tt (0, 0)) ∧ x.Rows (fun b => w.heap.size ≤ b) w' ∧ Mod (fun b => b = C ∨ b = T) w w' := by
  have hC := lt_of_block hb
  have hTl := lt_of_block hT
  refine tenant_walk (fun w' => ∃ x : TV, x.t = (rten B s0).1 ∧ (rten B s0).2.1 ≤ B.length ∧ w'.heap[C]? = some (rdObj A B.length c (rten B s0).2.1 (rten B s0).2.2) ∧
      w'.heap[T]? = some (.cells (pre ++ x.cells ++ post).toArray tt (0, 0)) ∧ x.Rows (fun b => w.heap.size ≤ b) w' ∧ Mod (fun b => b = C ∨ b = T) w w') (fun w0 hm hbx h2 h3 h4 h5 h6 => ?_)
  have g : RG w0 w.heap.size C T o A c B S pre :=
    { bx := hbx, pr := h5, rw6 := h6, C_lt := hC, T_lt := hTl, TC := hTC, ho := ho, row := hrow.keeps (hm.keeps (fun _ _ _ f => f)), S_lt := hSl, SC := hS, ST := hST, hc := hc, hB := hB }
  refine ⟨RI w0 w.heap.size C T A c B pre post tt s0, ?_, ri_step g, fun w' ⟨vp, vs, vt, h'⟩ => ?_⟩
  · exact ⟨.slice none 0 0, .slice none 0 0, .slice none 0 0, ⟨hm.obj hb id, hat, hm.obj hT id, Mod.refl _ _, h2, h3, h4, ⟨show (0:Nat) < 256 by decide, show (0:Nat) < 256 by decide, show (0:Nat) < 256 by decide⟩, none, 0, none, 0, none, 0, rfl, rfl, rfl, .nil _ _ _, .nil _ _ _, .nil _ _ _⟩⟩
  · have hsz := hm.size
    obtain ⟨P, p, Q, q, R, r', e1, e2, e3, r1, r2, r3⟩ := h'.rows
    refine ⟨⟨(rk B s0 19).t, vp, vs, vt⟩, rfl, h'.le, h'.rd, h'.ten, ⟨P, p, Q, q, R, r', e1, e2, e3, r1.mono (fun b _ hb => by omega), r2.mono (fun b _ hb => by omega), r3.mono (fun b _ hb => by omega)⟩, ?_⟩
    refine (hm.mono (fun _ f => f.elim)).trans' h'.mod (fun i hi f => ?_)
    rcases f with f | f | f
    · exact .inl f
    · exact .inr f
    · omega
/-! ### a list of tenants read -/
theorem rten_le (B : List UInt8) (s : St) (h : s.1 ≤ B.length) : (rten B s).2.1 ≤ B.length := by
  have a : ∀ r : RS, r.s.1 ≤ B.length → ∀ f ∈ rsteps B, (f r).s.1 ≤ B.length := by
    intro r hr f hf
    simp only [rsteps, List.mem_cons, List.mem_nil_iff, or_false] at hf
    rcases hf with rfl | rfl | rfl | rfl | rfl | rfl | rfl | rfl | rfl | rfl | rfl | rfl | rfl | rfl | rfl | rfl | rfl | rfl | rfl
    · exact rname_le B _ hr
    · exact rnum_le B 4 _ hr
    · exact rtake_le B _ 8 hr
    · exact rnum_le B 4 _ hr
    · exact rtake_le B _ 6 hr
    · exact rtake_le B _ 6 hr
    · exact rnum_le B 2 _ hr
    · exact rnum_le B 2 _ hr
    · exact rnum_le B 1 _ hr
    · exact rnum_le B 2 _ hr
    · exact rnum_le B 2 _ hr
    · exact rnum_le B 4 _ hr
    · exact rnum_le B 4 _ hr
    · exact rnum_le B 1 _ hr
    · exact rnum_le B 1 _ hr
    · exact rnum_le B 1 _ hr
    · exact rmany_le (rnum_le B 4) _ _ hr
    · exact rmany_le (rpr_le B) _ _ hr
    · exact rmany_le (rpr_le B) _ _ hr
  have b : ∀ (l : List (RS → RS)) (r : RS), (∀ f ∈ l, f ∈ rsteps B) → r.s.1 ≤ B.length → (l.foldl (fun r f => f r) r).s.1 ≤ B.length := by
    intro l
    induction l with
    | nil => intro r _ hr; exact hr
    | cons f l ih => intro r hl hr; exact ih (f r) (fun g hg => hl g (by simp [hg])) (a r hr f (hl f (by simp)))
  exact b _ _ (fun f hf => List.mem_of_mem_take hf) h
theorem infoTen : (Try.prog.info? 33).map (fun i => (i.zero, i.size, i.bytes)) = some (some (.agg zTen), 33, 160) := by kernel_rfl
theorem list33' {α : Type} : ∀ (l : List α), l.length = 33 → ∃ c0 c1 c2 c3 c4 c5 c6 c7 c8 c9 c10 c11 c12 c13 c14 c15 c16 c17 c18 c19 c20 c21 c22 c23 c24 c25 c26 c27 c28 c29 c30 c31 c32, l = [c0, c1, c2, c3, c4, c5, c6, c7, c8, c9, c10, c11, c12, c13, c14, c15, c16, c17, c18, c19, c20, c21, c22, c23, c24, c25, c26, c27, c28, c29, c30, c31, c32]
  | c0 :: c1 :: c2 :: c3 :: c4 :: c5 :: c6 :: c7 :: c8 :: c9 :: c10 :: c11 :: c12 :: c13 :: c14 :: c15 :: c16 :: c17 :: c18 :: c19 :: c20 :: c21 :: c22 :: c23 :: c24 :: c25 :: c26 :: c27 :: c28 :: c29 :: c30 :: c31 :: c32 :: [], _ => ⟨c0, c1, c2, c3, c4, c5, c6, c7, c8, c9, c10, c11, c12, c13, c14, c15, c16, c17, c18, c19, c20, c21, c22, c23, c24, c25, c26, c27, c28, c29, c30, c31, c32, rfl⟩
set_option maxRecDepth 100000 in
theorem ten_build (CA : Array Value) (h : CA.size = 33) : ∀ W, (Instr.buildSlice 36 1 #[(0, .agg CA)]).run Try.prog W = .ok (.slice (some ⟨W.heap.size, 0, none⟩) 1 1) (W.alloc (.cells CA 33)) := by
  intro W
  obtain ⟨ie, hie, hz0, hz1, hz2⟩ := info_parts infoTen
  refine Go.run_buildSlice W _ 33 1 _ CA ie _ Try.underlying36 hie hz0 (by rw [hz1]; decide) (by rw [hz1]; decide) ?_
  rw [hz1]
  obtain ⟨l⟩ := CA
  obtain ⟨c0, c1, c2, c3, c4, c5, c6, c7, c8, c9, c10, c11, c12, c13, c14, c15, c16, c17, c18, c19, c20, c21, c22, c23, c24, c25, c26, c27, c28, c29, c30, c31, c32, rfl⟩ := list33' l (by simpa using h)
  kernel_rfl
end

section
attribute [local go_sem] stPair gtPair gtK8 gtM6 run_store_func
attribute [local go_sem high] neqPair eqK8 eqM6
attribute [local go_sem ↓] load_fold store_fold alloc_fold
open Go.RowKit
set_option linter.unusedVariables false
def conFn : List Nat := [84, 85, 86, 87, 88, 89, 90, 91]
def conCap (n : Nat) : List (Array Value) := List.replicate 6 #[bxv n, bxv (n + 1)] ++ [#[bxv n, bxv (n + 1), bxv (n + 2)], #[bxv n, bxv (n + 2), bxv (n + 1)]]
def conRow (n : Nat) : List Value := (conFn.zip (conCap n)).map fun x => .func (.func x.1) #[] x.2
theorem con_enters : ∀ f ∈ conFn, ∀ (a : Array Value) (W : World), (callFunc f a).run Try.prog W = .ok (.enter f a) W := by
  intro f hf a W
  simp only [conFn, List.mem_cons, List.mem_nil_iff, or_false] at hf
  rcases hf with rfl | rfl | rfl | rfl | rfl | rfl | rfl | rfl <;> go_simp
set_option maxRecDepth 100000 in
theorem config_walk {w : World} {C T o : Nat} (R : World → Prop)
    (H : ∀ w0, Mod No w w0 → BoxesC w0 w.heap.size (w.heap.size + 1) C T o → w0.heap[w.heap.size + 2]? = some (.cells #[.int .i64 0] 3 (0, 0)) → 
      w0.heap[w.heap.size + 3]? = some (.cells (conRow w.heap.size).toArray 1 (0, 0)) →
      ∃ Inv : Nat → World → Prop, Inv 0 w0 ∧ (∀ k w1 f c, conFn[k]? = some f → (conCap w.heap.size)[k]? = some c → Inv k w1 → w1.heap[w.heap.size + 3]? = some (.cells (conRow w.heap.size).toArray 1 (0, 0)) ∧ Calls Try.prog f c w1 fun e w' => e = .returned (.tuple #[]) ∧ Inv (k + 1) w') ∧ ∀ w', Inv 8 w' → R w') :
    Calls Try.prog 51 #[.pointer (some ⟨C, 0, none⟩), .pointer (some ⟨T, o, none⟩)] w fun e w' => e = .returned (.tuple #[]) ∧ R w' := by
  have HH := Lib.hid H
  clear H
  go_enter Try.func51, Try.ntmps51
  go_wp2
  refine grab_world fun w0 hw0 => ?_
  have hm0 : Mod No w w0 := by rw [hw0]; repeat (first | with_reducible exact Mod.refl _ _ | refine Mod.alloc ?_ _ | refine Mod.setCell ?_ (.inl (by simp; omega)) _)
  have k0 : w0.heap[w.heap.size]? = some (.cells #[.pointer (some ⟨C, 0, none⟩)] 98 (0, 0)) := by rw [hw0]; (repeat (first | (refine at_eq _ _ ?_; simp; done) | (refine (Below.heap_alloc _ _ _ ?_).trans ?_; (simp; try omega))))
  have k1 : w0.heap[w.heap.size + 1]? = some (.cells #[.pointer (some ⟨T, o, none⟩)] 107 (0, 0)) := by rw [hw0]; (repeat (first | (refine at_eq _ _ ?_; simp; done) | (refine (Below.heap_alloc _ _ _ ?_).trans ?_; (simp; try omega))))
  have k2 : w0.heap[w.heap.size + 2]? = some (.cells #[.int .i64 0] 3 (0, 0)) := by rw [hw0]; (repeat (first | (refine at_eq _ _ ?_; simp; done) | (refine (Below.heap_alloc _ _ _ ?_).trans ?_; (simp; try omega))))
  have k6 : w0.heap[w.heap.size + 3]? = some (.cells (conRow w.heap.size).toArray 1 (0, 0)) := by rw [hw0]; refine (at_eq _ _ (by simp)).trans ?_; simp [conRow, conFn, conCap, bxv, List.replicate]
  obtain ⟨Inv, h0, hstep, hend⟩ := HH.out w0 hm0 ⟨k0, k1⟩ k2 k6
  have HI := Lib.hid (And.intro h0 (And.intro hstep hend))
  clear HH h0 hstep hend k0 k1 k2 k6 hm0 hw0
  go_loopw [19] (fun i wr => ∃ k : Nat, i = .int .i64 k ∧ k ≤ 8 ∧ Inv k wr) (fun i _ => 8 - (intOf i).toNat)
  case atStart => exact ⟨0, rfl, by omega, HI.out.1⟩
  case round =>
    obtain ⟨k, rfl, hk, hinv⟩ := hrel
    have HV := Lib.hid hinv
    clear hinv
    by_cases hlt : k < 8
    · obtain ⟨f, hf⟩ : ∃ f, conFn[k]? = some f := ⟨_, List.getElem?_eq_getElem hlt⟩
      obtain ⟨c, hc⟩ : ∃ c, (conCap w.heap.size)[k]? = some c := ⟨_, List.getElem?_eq_getElem hlt⟩
      obtain ⟨hrow, hcall⟩ := HI.out.2.1 k _ f c hf hc HV.out
      have hcell : wr.cell? ⟨w.heap.size + 1 + 1 + 1, k, none⟩ = some (.func (.func f) #[] c) := by
        rw [show w.heap.size + 1 + 1 + 1 = w.heap.size + 3 from rfl, blk_cell hrow]
        simp [conRow, (List.getElem?_zip_eq_some (z := (f, c))).2 ⟨hf, hc⟩]
      have hen := con_enters f (List.mem_of_getElem? hf)
      have p1 : (0:Int) ≤ k := by omega
      have p2 : (k:Int) < 8 := by omega
      have HC := Lib.hid hcall
      clear hrow hcall hf hc
      go_wp2_with fail
      refine HC.out.mono ?_
      rintro e w2 ⟨rfl, hi⟩
      have HV2 := Lib.hid hi
      clear hi
      go_wp2
      exact ⟨⟨k + 1, by go_num, by omega, HV2.out⟩, by simp [intOf]; omega⟩
    · have hk' : k = 8 := by omega
      subst hk'
      go_wp2
      go_end0
      exact ⟨rfl, HI.out.2.2 _ HV.out⟩
/-- Settings as data, but for their tenants. -/
structure Con where
  ip : Nat
  mac : M6
  omac : M6
  nmac : M6
  key : K8
  drain : Nat
  deriving DecidableEq, Inhabited
def Con.cells (c : Con) (vt : Value) : Array Value :=
  #[.int .u32 (c.ip : Int), u8v c.mac.b0, u8v c.mac.b1, u8v c.mac.b2, u8v c.mac.b3, u8v c.mac.b4, u8v c.mac.b5,
    u8v c.omac.b0, u8v c.omac.b1, u8v c.omac.b2, u8v c.omac.b3, u8v c.omac.b4, u8v c.omac.b5,
    u8v c.nmac.b0, u8v c.nmac.b1, u8v c.nmac.b2, u8v c.nmac.b3, u8v c.nmac.b4, u8v c.nmac.b5,
    u8v c.key.b0, u8v c.key.b1, u8v c.key.b2, u8v c.key.b3, u8v c.key.b4, u8v c.key.b5, u8v c.key.b6, u8v c.key.b7, .int .u32 (c.drain : Int), vt]
structure CW (w0 : World) (n C base T : Nat) (c : Con) (vt : Value) (nt : Nat) (X : List UInt8) (v : Value) (w : World) : Prop where
  wr : Wr w C base X v
  row : ∀ g, v.ownBlock = some g → w0.heap.size ≤ g
  con : w.heap[T]? = some (.cells (c.cells vt) 38 (0, 0))
  mod : Mod (fun b => b = C ∨ b = n + 2) w0 w
  hn : w.heap[n + 2]? = some (.cells #[.int .i64 (nt : Int)] 3 (0, 0))
structure CG (w0 : World) (n C base T : Nat) (c : Con) (vt : Value) (l : List TV) : Prop where
  bx : BoxesC w0 n (n + 1) C T 0
  rw3 : w0.heap[n + 3]? = some (.cells (conRow n).toArray 1 (0, 0))
  C_lt : C < n
  T_lt : T < n
  TC : T ≠ C
  base_le : base ≤ n
  C_ge : base ≤ C
  ip : c.ip < 4294967296
  drain : c.drain < 4294967296
  rows : ∃ P p, vt = .slice P l.length p ∧ RowAt (· < base) w0 P (tvCells l)
  tens : ∀ x ∈ l, x.t.Ok ∧ x.t.name.length ≤ 100000000 ∧ x.Rows (· < base) w0
section
variable {w0 : World} {n C base T : Nat} {c : Con} {vt : Value} {l : List TV} {nt : Nat} {X : List UInt8} {v : Value} {w : World}
theorem CW.keep (h : CW w0 n C base T c vt nt X v w) (g : CG w0 n C base T c vt l) {b : Nat} {ob : Obj} (hb : w0.heap[b]? = some ob) (h1 : n ≤ b) (h2 : b ≠ n + 2) : w.heap[b]? = some ob := by
  refine h.mod.obj hb ?_
  have := g.C_lt
  rintro (f | f) <;> omega
theorem CW.boxes (h : CW w0 n C base T c vt nt X v w) (g : CG w0 n C base T c vt l) : BoxesC w n (n + 1) C T 0 := ⟨h.keep g g.bx.c (by omega) (by omega), h.keep g g.bx.t (by omega) (by omega)⟩
theorem CW.keeps (h : CW w0 n C base T c vt nt X v w) (g : CG w0 n C base T c vt l) : Keeps (· < base) w0 w := h.mod.keeps fun b hb hs f => by
  have := g.C_ge
  have := g.base_le
  rcases f with f | f <;> omega
theorem CW.mod' (h : CW w0 n C base T c vt nt X v w) {w' : World} {E : Nat → Prop} (hm : Mod (fun b => b = C ∨ v.ownBlock = some b ∨ E b) w w') (hE : ∀ b, E b → b = n + 2) : Mod (fun b => b = C ∨ b = n + 2) w0 w' :=
  h.mod.trans' hm fun i hi f => by
    rcases f with f | f | f
    · exact .inl f
    · have := h.row i f; omega
    · exact .inr (hE i f)
theorem CW.row' (h : CW w0 n C base T c vt nt X v w) {v' : Value} (hr : ∀ g, v'.ownBlock = some g → v.ownBlock = some g ∨ w.heap.size ≤ g) : ∀ g, v'.ownBlock = some g → w0.heap.size ≤ g := by
  intro g hg
  rcases hr g hg with f | f
  · exact h.row g f
  · exact Nat.le_trans h.mod.size f
theorem CW.next (h : CW w0 n C base T c vt nt X v w) (g : CG w0 n C base T c vt l) {X' : List UInt8} {v' : Value} {w' : World} (hw : Wr w' C base X' v') (hm : WMod C v w v' w') : CW w0 n C base T c vt nt X' v' w' := by
  have k1 := g.C_lt
  exact ⟨hw, h.row' hm.row, hm.obj h.con g.TC (h.wr.ne h.con (by decide)), h.mod' (E := fun _ => False) (hm.mod.mono (fun i f => by rcases f with f | f; exact .inl f; exact .inr (.inl f))) (fun _ f => f.elim), hm.obj h.hn (by omega) (h.wr.ne h.hn (by decide))⟩
theorem CW.cell (h : CW w0 n C base T c vt nt X v w) {j : Nat} {u : Value} (hu : (c.cells vt)[j]? = some u) : w.cell? ⟨T, j, none⟩ = some u := by rw [blk_cell h.con, hu]
end
end

section
attribute [local go_sem] stPair gtPair gtK8 gtM6 run_store_func
attribute [local go_sem high] neqPair eqK8 eqM6
attribute [local go_sem ↓] load_fold store_fold alloc_fold
open Go.RowKit
set_option linter.unusedVariables false
theorem str_size (l : List UInt8) : (str l).size = l.length := by simp [str, ByteArray.size]
/-- A value that is so many bytes, its own row above the base. -/
def OwnB (w : World) (base : Nat) (v : Value) (L : List UInt8) : Prop := w.ownsRow base 5 1 v L.length (bcells L)
theorem OwnB.open {w : World} {base : Nat} {v : Value} {L : List UInt8} (h : OwnB w base v L) : ∃ A c, v = .slice A L.length c ∧ L.length ≤ c ∧ RowAt (fun b => base ≤ b) w A (bcells L) := RowAt.of_owns h
theorem OwnB.at {w : World} {base : Nat} {v : Value} {L : List UInt8} (h : OwnB w base v L) (hne : L ≠ []) : ∃ g c, v = .slice (some ⟨g, 0, none⟩) L.length c ∧ base ≤ g ∧ g < w.heap.size ∧ L.length ≤ c ∧ ∀ j u, (bcells L)[j]? = some u → w.cell? ⟨g, j, none⟩ = some u := by
  rcases h.2 with ⟨rfl, h0⟩ | ⟨g, cap, cur, rfl, hb, hg, hn, _⟩
  · exact absurd (List.eq_nil_of_length_eq_zero h0) hne
  · refine ⟨g, cap, rfl, hb, lt_of_block hg, hn, fun j u hj => ?_⟩
    have := h.cells (g := g) rfl j u hj
    rwa [Addr.add_lit, Nat.zero_add] at this
theorem OwnB.mod {F : Nat → Prop} {w w' : World} {base : Nat} {v : Value} {L : List UInt8} (h : OwnB w base v L) (hm : Mod F w w') (hF : ∀ b, base ≤ b → b < w.heap.size → ¬ F b) : OwnB w' base v L :=
  own_mod h hm fun k hk => by
    rcases h.2 with ⟨rfl, _⟩ | ⟨g, cap, cur, rfl, hb, hg, _⟩
    · simp [Value.ownBlock] at hk
    · obtain rfl : g = k := by simpa [Value.ownBlock] using hk
      exact hF g hb (lt_of_block hg)
theorem own_base {w : World} {base base' : Nat} {e : TypeId} {size : Nat} {v : Value} {n : Nat} {xs : List Value} (h : w.ownsRow base e size v n xs) (hb : base' ≤ base) : w.ownsRow base' e size v n xs := by
  refine ⟨h.1, ?_⟩
  rcases h.2 with hn | ⟨g, cap, cur, e, hg, rest⟩
  · exact .inl hn
  · exact .inr ⟨g, cap, cur, e, Nat.le_trans hb hg, rest⟩
theorem conSize : (Try.prog.info? 38).map (·.size) = some 29 := by kernel_rfl
/-- A change's cells. -/
def cChg (put : Bool) (name : List UInt8) (x : TV) : Array Value := #[.bool put, .string (str name)] ++ x.cells.toArray
theorem cChg_size (put : Bool) (name : List UInt8) (x : TV) : (cChg put name x).size = 35 := by simp [cChg, TV.len]
theorem cChg1 (put : Bool) (name : List UInt8) (x : TV) : (cChg put name x)[1]? = some (.string (str name)) := by simp [cChg]
theorem cChg2 (put : Bool) (name : List UInt8) (x : TV) (j : Nat) : (cChg put name x)[2 + j]? = x.cells[j]? := by
  rw [cChg, Array.getElem?_append_right (by simp)]; simp
end

section
attribute [local go_sem] stPair gtPair gtK8 gtM6 run_store_func
attribute [local go_sem high] neqPair eqK8 eqM6
attribute [local go_sem ↓] load_fold store_fold alloc_fold
open Go.ChangeShapes Go.WideShapes Go.ChangeAt Go.RowKit Go.Deep
set_option linter.unusedVariables false
variable {H : Type} {enc : TypeId × Value → H} {w : World}
theorem Ten.wf.ok {t : Ten} (h : t.wf) : t.Ok := ⟨h.vni, h.vtep, h.lo, h.hi, h.rate, h.burst, h.pool, h.statics, h.twices⟩
/-- What an argument's tenant gives. -/
structure TV.Open (w : World) (x : TV) : Prop where
  rows : x.Rows (fun _ => True) w
  wf : x.t.wf
theorem TV.Open.val {w : World} {x : TV} (h : x.Open w) : TenV (fun _ => True) w x.t (.agg x.cells.toArray) := by
  obtain ⟨P, p, Q, q, R, r, e1, e2, e3, r1, r2, r3⟩ := h.rows
  exact ⟨P, p, Q, q, R, r, by simp [TV.cells, e1, e2, e3], r1, r2, r3⟩
/-- Bytes. -/
theorem open_bytes {fuel : Nat} {c : Value} {x : DataW H × List MemPlace} (h : DataW.trod enc Try.prog w 0 (fun _ => true) true fuel 22 [c] = some x) :
    ∃ (A : Option Addr) (k : Nat) (l : List UInt8), c = .slice A l.length k ∧ l.length ≤ k ∧ l.length ≤ 9223372036854775807 ∧ RowAt (fun _ => True) w A (bcells l) := by
  obtain ⟨A, n, k, rfl, hnk⟩ : ∃ A n k, c = .slice A n k ∧ n ≤ k := by
    rcases open_ints Try.underlying22 Try.underlying5 co5 h with ⟨hcs, _⟩ | ⟨a, len', cap', zs, hcs, _, hl, _⟩
    · cases hcs; exact ⟨_, _, _, rfl, Nat.le_refl _⟩
    · cases hcs; exact ⟨_, _, _, rfl, hl⟩
  obtain ⟨zs, hz, hlen, hrow, hw⟩ := open_row_ints Try.underlying22 Try.underlying5 co5 h
  refine ⟨A, k, zs.map (fun z => UInt8.ofNat z.toNat), by rw [List.length_map, hz], by rw [List.length_map, hz]; exact hnk, by rw [List.length_map, hz]; exact hlen, ?_⟩
  have e : bcells (zs.map (fun z => UInt8.ofNat z.toNat)) = zs.map fun z => .int .u8 z := by
    simp only [bcells, List.map_map]
    refine List.map_congr_left fun z hz => ?_
    obtain ⟨b, rfl⟩ := byte_of_u8 (hw z hz)
    simp
  rw [e]
  exact hrow
end

section
attribute [local go_sem] stPair gtPair gtK8 gtM6 run_store_func
attribute [local go_sem high] neqPair eqK8 eqM6
attribute [local go_sem ↓] load_fold store_fold alloc_fold
open Go.RowKit
set_option linter.unusedVariables false
/-- Bytes of one's own that have grown since: those of v in w, now those of v' in w'. -/
structure Gr (base : Nat) (v : Value) (w : World) (v' : Value) (w' : World) (L : List UInt8) : Prop where
  own : OwnB w' base v' L
  mod : Mod (fun b => v.ownBlock = some b) w w'
  row : ∀ g, v'.ownBlock = some g → v.ownBlock = some g ∨ w.heap.size ≤ g
theorem Gr.refl {base : Nat} {v : Value} {w : World} {L : List UInt8} (h : OwnB w base v L) : Gr base v w v w L := ⟨h, Mod.refl _ _, fun _ h => .inl h⟩
theorem Gr.ext {base : Nat} {v v' : Value} {w w' w2 : World} {L : List UInt8} (h : Gr base v w v' w' L) (hm : Mod No w' w2) : Gr base v w v' w2 L :=
  ⟨OwnB.mod h.own hm (fun _ _ _ f => f), h.mod.trans (hm.mono (fun _ f => f.elim)), h.row⟩
theorem Gr.trans {base : Nat} {v v1 v2 : Value} {w w1 w2 : World} {L L' : List UInt8} (h : Gr base v w v1 w1 L) (k : Gr base v1 w1 v2 w2 L') : Gr base v w v2 w2 L' :=
  ⟨k.own, h.mod.trans' k.mod (fun i hi hg => by rcases h.row i hg with f | f; exact f; omega), fun g hg => by
    rcases k.row g hg with f | f
    · exact h.row g f
    · exact .inr (Nat.le_trans h.mod.size f)⟩
/-- Seen from an elder world. -/
theorem Gr.pre {base : Nat} {v v' : Value} {w0 w w' : World} {L : List UInt8} (h0 : Mod No w0 w) (h : Gr base v w v' w' L) : Gr base v w0 v' w' L :=
  ⟨h.own, (h0.mono (fun _ f => f.elim)).trans h.mod, fun g hg => by
    rcases h.row g hg with f | f
    · exact .inl f
    · exact .inr (Nat.le_trans h0.size f)⟩
theorem Gr.no {base : Nat} {v' : Value} {w w' : World} {L : List UInt8} (h : Gr base (.slice none 0 0) w v' w' L) : Mod No w w' := h.mod.mono (fun b f => by simp [Value.ownBlock] at f)
theorem nil_own (w : World) (base : Nat) : OwnB w base (.slice none 0 0) [] := ⟨rfl, .inl ⟨rfl, rfl⟩⟩
theorem gr_append {w w' : World} {base : Nat} {v v' : Value} {L X : List UInt8} (hw' : w'.ownsRow base 5 1 v' (L.length + X.length) (bcells L ++ bcells X)) (hg : w.grownBy w' v.ownBlock) (hr : v'.ownBlock = v.ownBlock ∨ v'.ownBlock = some w.heap.size) : Gr base v w v' w' (L ++ X) := by
  refine ⟨?_, Mod.grown (Mod.refl _ _) hg (fun k hk => .inr hk), fun g hg => ?_⟩
  · unfold OwnB
    rw [List.length_append, bcells_append]
    exact hw'
  · rcases hr with e | e
    · exact .inl (by rw [← e]; exact hg)
    · rw [hg] at e; simp at e; exact .inr (by omega)
theorem wrap_u8_low (n j : Nat) : IntKind.u8.wrap ((n : Int) / 2 ^ (8 * j)) = ((UInt8.ofNat (n / 256 ^ j)).toNat : Int) := by
  rw [← u8_shift n j]
  simp [IntKind.wrap, IntKind.bits, IntKind.signed]
end

section
attribute [local go_sem] stPair gtPair gtK8 gtM6 run_store_func
attribute [local go_sem high] neqPair eqK8 eqM6
attribute [local go_sem ↓] load_fold store_fold alloc_fold
open Go.RowKit
set_option linter.unusedVariables false
theorem str_cells (l : List UInt8) : Go.Lib.strCells (str l) = bcells l := rfl
/-- A text's bytes put behind one's own, in a world that is told which row it is. -/
theorem run_append_text {w : World} {base : Nat} {v : Value} {L : List UInt8} (h : OwnB w base v L) (t : List UInt8) (hl : L.length + t.length ≤ 100000000) (hb : base ≤ w.heap.size) (ty : TypeId) :
    ∃ v' w', (Builtin.append_ #[22, 9] ty #[v, .string (str t)]).run Try.prog w = .ok v' w' ∧ Gr base v w v' w' (L ++ t) := by
  obtain ⟨i0, hi, hz0, hz1, hz2⟩ := info_parts infoU8
  obtain ⟨v', w', hr, h1, h2, h3⟩ := Go.Lib.run_append_own_string (P := Try.prog) w base 22 9 ty 5 i0 Try.underlying22 Try.underlying9 hi hz0 hz1 hz2 v L.length (bcells L) h (str t) (by rw [str_size]; unfold maxLen; omega) (by rw [str_size]; omega) hb
  refine ⟨v', w', hr, ?_⟩
  rw [str_size, str_cells] at h1
  refine gr_append h1 h2 ?_
  rcases h.2 with ⟨rfl, h0⟩ | ⟨g, cap, cur, rfl, hbg, hg, hnc, hcm, hcs, htake⟩
  · by_cases hm : t.length = 0
    · have := h3.2 ⟨rfl, by rw [str_size]; exact hm⟩
      exact .inl (by rw [this])
    · have hr' := run_append_nil_string (P := Try.prog) w 22 9 ty 5 i0 (.int .u8 0) Try.underlying22 Try.underlying9 hi hz0 (str t) (by rw [str_size]; omega) (by rw [str_size]; omega) (by rw [hz2, str_size]; omega)
      rw [hr] at hr'
      injection hr' with e1 e2
      exact .inr (by rw [e1]; rfl)
  · by_cases hroom : L.length + t.length ≤ cap
    · have hcs' : cur.size = cap := by simpa using hcs
      have hr' := Go.Lib.run_append_room_string (P := Try.prog) w 22 9 ty 5 i0 Try.underlying22 Try.underlying9 hi hz1 g L.length cap cur hg (str t) (by rw [str_size]; exact hroom) (by rw [str_size]; omega)
      rw [hr] at hr'
      injection hr' with e1 e2
      exact .inl (by rw [e1]; rfl)
    · have holds : ∀ j u, (bcells L)[j]? = some u → w.cell? ((⟨g, 0, none⟩ : Addr).add j) = some u := h.cells (g := g) rfl
      have hr' := Go.Lib.run_append_grow_string (P := Try.prog) w 22 9 ty 5 i0 (.int .u8 0) Try.underlying22 Try.underlying9 hi hz0 ⟨g, 0, none⟩ L.length cap (bcells L) (by rw [hz1, bcells_length]; omega) holds (str t) (by rw [str_size]; omega) (by rw [str_size]; omega) (by rw [hz2]; exact growslice_fits (by rw [str_size]; omega) (by rw [str_size]; omega))
      rw [hr] at hr'
      injection hr' with e1 e2
      exact .inr (by rw [e1]; rfl)
theorem step_gr_text {w : World} {ops : Array Oper} {o : Oper} {a : Act} {K : Act → World → Prop} {Q : Exit → Act → World → Prop} {E : Prop} (hgd : o.guard = none) (s x : Operand)
    (ho : o.op = .call { callee := .builtin .append, args := #[s, x], argTypes := #[22, 9] }) {w0 : World} {base : Nat} {v0 v : Value} {L : List UInt8} (gr : Gr base v0 w0 v w L) (hs : a.eval s = v)
    (X : List UInt8) (hx : a.eval x = .string (str X)) (hl : L.length + X.length ≤ 100000000) (hbase : base ≤ w.heap.size)
    (h : ∀ v' w', Gr base v0 w0 v' w' (L ++ X) → Mod (fun b => v.ownBlock = some b) w w' → K (a.put o.dst v') w') :
    if Region.wanted o (yielded ops a.tmps) = true then Oper.wp Try.prog o a w K Q else E := by
  have hw : Region.wanted o (yielded ops a.tmps) = true := by simp [Region.wanted, hgd]
  rw [if_pos hw]
  obtain ⟨v', w', hr, hg⟩ := run_append_text gr.own X hl hbase o.type
  unfold Oper.wp execOp
  simp only [ho, resolve, invoke, builtin, Sem.run_bind, Sem.run_pure, Result.andThen_ok, List.map_toArray, List.map_cons, List.map_nil, hs, hx, hr]
  exact h _ _ (gr.trans hg) hg.mod
theorem OwnB.ge {w : World} {base : Nat} {v : Value} {L : List UInt8} (h : OwnB w base v L) {g : Nat} (hg : v.ownBlock = some g) : base ≤ g ∧ g < w.heap.size := by
  rcases h.2 with ⟨rfl, _⟩ | ⟨g', cap, cur, rfl, hb, hh, _⟩
  · simp [Value.ownBlock] at hg
  · obtain rfl : g' = g := by simpa [Value.ownBlock] using hg
    exact ⟨hb, lt_of_block hh⟩
theorem OwnB.keeps {w w' : World} {base : Nat} {v : Value} {L : List UInt8} (h : OwnB w base v L) (hm : Mod (fun b => v.ownBlock = some b) w w') : Keeps (· < base) w w' :=
  hm.keeps fun b hb hs f => by have := (h.ge f).1; omega
end

section
attribute [local go_sem] stPair gtPair gtK8 gtM6 run_store_func
attribute [local go_sem high] neqPair eqK8 eqM6
attribute [local go_sem ↓] load_fold store_fold alloc_fold
open Go.RowKit
set_option linter.unusedVariables false
set_option linter.unusedSimpArgs false
section
variable {base : Nat} {v0 v : Value} {w0 w W : World} {L : List UInt8}
theorem Gr.size (g : Gr base v0 w0 v w L) (hW : Mod No w W) (hb : base ≤ w0.heap.size) : base ≤ W.heap.size := Nat.le_trans hb (Nat.le_trans g.mod.size hW.size)
end
theorem K8.len (k : K8) : k.l.length = 8 := rfl
theorem M6.len (m : M6) : m.l.length = 6 := rfl
end

section
attribute [local go_sem] stPair gtPair gtK8 gtM6 run_store_func
attribute [local go_sem high] neqPair eqK8 eqM6
attribute [local go_sem ↓] load_fold store_fold alloc_fold
open Go.RowKit
set_option linter.unusedVariables false
theorem own_ne {w : World} {base : Nat} {e : TypeId} {size : Nat} {v : Value} {n : Nat} {xs : List Value} (h : w.ownsRow base e size v n xs) {b : Nat} (hb : b < base ∨ w.heap.size ≤ b) : v.ownBlock ≠ some b := by
  intro f
  rcases h.2 with ⟨rfl, _⟩ | ⟨g, cap, cur, rfl, hg, hgg, _⟩
  · simp [Value.ownBlock] at f
  · obtain rfl : g = b := by simpa [Value.ownBlock] using f
    have := lt_of_block hgg
    omega
def tenSlice (v : Value) : Sem Value := Instr.buildSlice 36 1 #[(0, v)]
theorem slice_op_fold (ρ : Operand → Value) (x : Operand) (dst : Option Tmp) (ty : TypeId) (pos : String) (after : Array Edge) (g : Option (Nat × Bool)) :
    execOp ρ { dst := dst, op := .buildSlice 36 1 #[(0, x)], type := ty, pos := pos, after := after, guard := g } = (do pure (Next.value (← tenSlice (ρ x))) : Sem Next) := by
  show (do pure (Next.value (← Instr.buildSlice 36 1 (#[(0, x)].map fun (i, x) => (i, ρ x)))) : Sem Next) = _
  have hm : (#[((0 : Nat), x)].map fun (i, x) => (i, ρ x)) = #[(0, ρ x)] := by simp
  rw [hm]
  rfl
attribute [local go_sem ↓] slice_op_fold
/-- What becomes of a list of tenants that is read: its values, each with rows of its own. -/
structure TVs (w : World) (base : Nat) (v : Value) (l : List TV) : Prop where
  own : w.ownsRow base 33 33 v l.length (tvCells l)
  rows : ∀ x ∈ l, x.Rows (fun b => base ≤ b ∧ v.ownBlock ≠ some b) w
set_option maxRecDepth 100000 in
set_option maxHeartbeats 2000000 in
theorem list_ten_rd {S : Nat → Prop} {w : World} {C : Nat} {A : Option Addr} {c : Nat} {s0 : St} (B : List UInt8) (hb : w.heap[C]? = some (rdObj A B.length c s0.1 s0.2)) (hrow : RowAt S w A (bcells B)) (hat : s0.1 ≤ B.length) (hc8 : B.length ≤ c) (hB : B.length ≤ 100000000) (hS : ¬ S C) {T o : Nat} (hST : ¬ S T) (hSl : ∀ b, S b → b < w.heap.size)
    {cs : Array Value} {t : TypeId} (hT : w.heap[T]? = some (.cells cs t (0, 0))) (ho : o < cs.size) (h1 : T ≠ C) (n : Nat) (hn : n ≤ 1000) :
    Calls Try.prog 92 #[.pointer (some ⟨C, 0, none⟩), .int .i64 n, .pointer (some ⟨T, o, none⟩), .func (.func 47) #[.pointer (some ⟨C, 0, none⟩)] #[]] w fun e w' => e = .returned (.tuple #[]) ∧ w'.heap[C]? = some (rdObj A B.length c (rmany (rten B) n s0).2.1 (rmany (rten B) n s0).2.2) ∧
      (∃ (v : Value) (l : List TV), w'.heap[T]? = some (.cells (cs.setIfInBounds o v) t (0, 0)) ∧ l.map (·.t) = (rmany (rten B) n s0).1 ∧ TVs w' w.heap.size v l) ∧ Mod (fun b => b = C ∨ b = T) w w' := by
  obtain ⟨i0, hi, hz0, hz1, hz2⟩ := info_parts infoTen
  have c1 := blk_cell hb 1
  simp at c1
  have c2 := blk_cell hT o
  have f2 := blk_free hT o
  rw [Array.getElem?_eq_getElem ho] at c2
  obtain ⟨v0, hv0⟩ : ∃ v0, v0 = cs[o] := ⟨_, rfl⟩
  rw [← hv0] at c2
  have hlC := lt_of_block hb
  have hlT := lt_of_block hT
  have hkp : ∀ W, Mod (fun b => b = C ∨ b = T) w W → RowAt S W A (bcells B) := fun W hW => hrow.keeps (hW.keeps (fun b _ hs f => by rcases f with f | f; exact hS (by subst f; exact hs); exact hST (by subst f; exact hs)))
  have H0 := Lib.hid (And.intro hb (And.intro hT (And.intro ho (And.intro hat (And.intro hkp (And.intro hSl (And.intro hc8 hB)))))))
  have hal := tenAlloc_run
  have HZ0 := Lib.hid hz0
  clear hb hrow hat hT ho hkp hv0 hSl hc8 hB hz0
  go_enter Try.func92, Try.ntmps92
  go_wp2
  go_loopw [8] (fun i wr => ∃ (j : Nat) (acc : List TV) (s : St) (v : Value), i = .int .i64 j ∧ j ≤ n ∧ acc.length ≤ j ∧ rmany (rten B) n s0 = (acc.map (·.t) ++ (rmany (rten B) (n - j) s).1, (rmany (rten B) (n - j) s).2) ∧ s.1 ≤ B.length ∧
    wr.heap[C]? = some (rdObj A B.length c s.1 s.2) ∧ wr.heap[T]? = some (.cells (cs.setIfInBounds o v) t (0, 0)) ∧ TVs wr w.heap.size v acc ∧ Mod (fun b => b = C ∨ b = T) w wr) (fun i _ => n - (intOf i).toNat)
  case atStart =>
    refine ⟨0, [], s0, .slice none 0 0, rfl, by omega, by simp, by simp, H0.out.2.2.2.1, ?_, ?_, ⟨⟨rfl, .inl ⟨rfl, rfl⟩⟩, by simp⟩, ?_⟩
    · rw [heap_setCell_ne _ _ (fun e => h1 e.symm)]; exact H0.out.1
    · exact heap_setCell_row H0.out.2.1 _
    · exact Mod.setCell (Mod.refl _ _) (.inr (.inr rfl)) _
  case round =>
    obtain ⟨j, acc, s, v, rfl, hj, hacc, hsp, hs8, hbC, hbT, htv, hmw⟩ := hrel
    obtain ⟨at_, sh⟩ := s
    have d3 := blk_cell hbC 3
    simp at d3
    have dT : wr.cell? ⟨T, o, none⟩ = some v := (blk_cell hbT o).trans (by simp [H0.out.2.2.1])
    by_cases hlt : j < n
    · have p1 : (0:Int) ≤ j := by omega
      have p2 : (j:Int) < n := by omega
      cases sh
      · have hmA : Mod No wr (wr.alloc (.cells zTen 33)) := (Mod.refl _ _).alloc _
        have hmwA : Mod (fun b => b = C ∨ b = T) w (wr.alloc (.cells zTen 33)) := hmw.alloc _
        have hwl := hmw.size
        have hc := tenant_rd (w := wr.alloc (.cells zTen 33)) (s0 := (at_, false)) B (hmA.obj hbC id) (H0.out.2.2.2.2.1 _ hmwA) hs8 H0.out.2.2.2.2.2.2.1 H0.out.2.2.2.2.2.2.2 hS (T := wr.heap.size) (o := 0) (fun f => by have := H0.out.2.2.2.2.2.1 _ f; omega) (fun b f => by have := H0.out.2.2.2.2.2.1 _ f; simp; omega)
          (pre := []) (post := []) (tt := 33) (by simpa using at10 wr (.cells zTen 33)) rfl (by omega)
        have hnx : n - j = (n - (j + 1)) + 1 := by omega
        rw [hnx, rmany_step _ _ rfl] at hsp
        obtain ⟨y, hy⟩ : ∃ y, y = (rten B (at_, false)).1 := ⟨_, rfl⟩
        obtain ⟨s2, hs2⟩ : ∃ s2, s2 = (rten B (at_, false)).2 := ⟨_, rfl⟩
        rw [← hy, ← hs2] at hc hsp
        have hown := htv.own
        have hlb : v.ownBlock ≠ some T := own_ne hown (.inl hlT)
        have hlC' : v.ownBlock ≠ some C := own_ne hown (.inl hlC)
        have hlX : v.ownBlock ≠ some wr.heap.size := own_ne hown (.inr (Nat.le_refl _))
        have HC := Lib.hid hc
        have HR := Lib.hid (And.intro hsp (And.intro hbT (And.intro htv (And.intro hmw hbC))))
        clear hc hsp hbC hbT hmA hmwA hs8 hy hs2 hown htv
        go_wp2_with fail
        refine HC.out.mono ?_
        rintro e w5 ⟨rfl, x, k0, kl, k1, k2, kr, k3⟩
        simp only [List.nil_append, List.append_nil] at k2
        have g3 := k3.obj ((((Mod.refl No wr).alloc (.cells zTen 33))).obj HR.out.2.1 id) (by rintro (f | f); exact h1 f; omega)
        have dT5 : w5.cell? ⟨T, o, none⟩ = some v := (blk_cell g3 o).trans (by simp [H0.out.2.2.1])
        have fT5 := blk_free g3 o
        have lT5 : T < w5.heap.size := lt_of_block g3
        have lX5 : wr.heap.size < w5.heap.size := lt_of_block k2
        have lC5 : C < w5.heap.size := lt_of_block k1
        obtain ⟨TA, hTA⟩ : ∃ TA, TA = x.cells.toArray := ⟨_, rfl⟩
        have hbs : ∀ W : World, (tenSlice (.agg TA)).run Try.prog W = .ok (.slice (some ⟨W.heap.size, 0, none⟩) 1 1) (W.alloc (.cells TA 33)) := ten_build TA (by rw [hTA]; rfl)
        have hld : (tenLoad (.pointer (some ⟨wr.heap.size, 0, none⟩))).run Try.prog w5.drew = .ok (.agg TA) w5.drew := tenLoad_run (by rw [hTA]; exact k2) (by rw [hTA]; rfl)
        have hone := TV.one kr
        have htl : x.cells = TA.toList := by rw [hTA]
        rw [← hTA] at hone
        have hown5 : w5.ownsRow w.heap.size 33 33 v acc.length (tvCells acc) := own_mod (own_mod HR.out.2.2.1.own ((Mod.refl No wr).alloc (.cells zTen 33)) (fun _ _ f => f)) k3 (fun k hk f => by rcases f with f | f; exact hlC' (by rw [← f]; exact hk); exact hlX (by rw [← f]; exact hk))
        have hsz5 := k3.size
        have H5 := Lib.hid (And.intro k1 (And.intro k3 (And.intro g3 (And.intro hown5 (And.intro hsz5 (And.intro k0 (And.intro kl kr)))))))
        have HT := Lib.hid (And.intro htl hone)
        clear k1 k2 k3 g3 hown5 hsz5 d3 dT k0 kl kr htl hone hTA
        go_wp2_with fail
        go_region_law (first
          | (refine step_append_lies _ (by rfl) _ _ 36 (by rfl) w.heap.size 33 i0 _ 33 160 Try.underlying36 hi HZ0.out hz1 hz2 (by rfl) (by decide) v acc.length (tvCells acc) (by rfl) ?_ _ _ _ TA.toList (by rfl) (by rw [← HT.out.1]; rfl) ?_ ?_ (by decide) ?_ ?_ ?_ _ (by rfl) ?_;
             (exact own_mod H5.out.2.2.2.1 (by repeat (first | with_reducible exact Mod.refl _ _ | refine Mod.alloc ?_ _ | refine Mod.drew ?_)) (fun _ _ f => f));
             (exact World.news_of_block (at10 _ _));
             (intro u hu; exact (Array.all_eq_true_iff_forall_mem.1 HT.out.2) u (by simpa using hu));
             (unfold maxLen; omega);
             omega;
             (have := H5.out.2.2.2.2.1; simp at this; simp; omega);
             intro g cap w6 own6 gr6 hat6 hlt6;
             have m6 : Mod (fun b => v.ownBlock = some b) w5 w6 := Mod.grown (((Mod.refl _ w5)).mono (fun _ f => f) |> (fun h => by repeat (first | with_reducible exact h | refine Mod.alloc ?_ _ | refine Mod.drew ?_))) gr6 (fun k hk => .inr hk);
             have fT6 := blk_free (m6.obj H5.out.2.2.1 hlb) o; have dT6 : w6.cell? ⟨T, o, none⟩ = some v := (blk_cell (m6.obj H5.out.2.2.1 hlb) o).trans (by simp [H0.out.2.2.1]); have H6 := Lib.hid (And.intro own6 (And.intro m6 hat6)); clear own6 m6 hat6 gr6))
        all_goals
          go_wp2
          have hT6 := H6.out.2.1.obj H5.out.2.2.1 hlb
          have hsz5 := H5.out.2.2.2.2.1
          simp at hsz5
          have hm5 : Mod (fun b => b = C ∨ b = wr.heap.size) wr w5 := (((Mod.refl No wr).alloc (.cells zTen 33)).mono (fun _ f => f.elim)).trans H5.out.2.1
          have hgT : g ≠ T := fun e => by
            rcases H6.out.2.2 with f | f
            · exact hlb (by rw [← e]; exact f)
            · simp at f; omega
          refine ⟨⟨j + 1, acc ++ [x], s2, .slice (some ⟨g, 0, none⟩) (acc.length + 1) cap, by go_num, by omega, ?_, ?_, ?_, ?_, ?_, ⟨?_, ?_⟩, ?_⟩, by simp [intOf]; omega⟩
          · simp; omega
          · rw [HR.out.1]; simp [H5.out.2.2.2.2.2.1]
          · exact H5.out.2.2.2.2.2.2.1
          · rw [heap_setCell_ne _ _ (fun e => h1 e.symm)]; exact H6.out.2.1.obj H5.out.1 hlC'
          · rw [heap_setCell_row hT6]; simp
          · refine own_mod (F := fun b => b = T) ?_ (Mod.setCell (p := ⟨T, o, none⟩) (Mod.refl (fun b => b = T) w6) (.inr rfl) _) (fun k hk f => ?_)
            · have := H6.out.1
              rw [← HT.out.1] at this
              simpa [tvCells] using this
            · subst f
              obtain rfl : g = k := by simpa [Value.ownBlock] using hk
              exact hgT rfl
          · have hk6 : ∀ S' : Nat → Prop, (∀ b, S' b → v.ownBlock ≠ some b ∧ b ≠ T) → Keeps S' w5 (w6.setCell ⟨T, o, none⟩ (.slice (some ⟨g, 0, none⟩) (acc.length + 1) cap)) := fun S' hS' => by
              refine Mod.keeps (F := fun b => v.ownBlock = some b ∨ b = T) (Mod.setCell (H6.out.2.1.mono (fun b h => .inl h)) (.inr (.inr rfl)) _) (fun b _ hb f => ?_)
              rcases f with f | f
              · exact (hS' b hb).1 f
              · exact (hS' b hb).2 f
            have hnew : ∀ b, b < w5.heap.size → v.ownBlock ≠ some b → (Value.slice (some ⟨g, 0, none⟩) (acc.length + 1) cap).ownBlock ≠ some b := fun b hb hv e => by
              obtain rfl : g = b := by simpa [Value.ownBlock] using e
              rcases H6.out.2.2 with f | f
              · exact hv f
              · simp at f; omega
            have fin : ∀ z : TV, z.Rows (fun b => w.heap.size ≤ b ∧ v.ownBlock ≠ some b) w5 → z.Rows (fun b => w.heap.size ≤ b ∧ (Value.slice (some ⟨g, 0, none⟩) (acc.length + 1) cap).ownBlock ≠ some b) (w6.setCell ⟨T, o, none⟩ (.slice (some ⟨g, 0, none⟩) (acc.length + 1) cap)) := by
              intro z hz
              have h1 := (hz.lt (S' := fun b => (w.heap.size ≤ b ∧ v.ownBlock ≠ some b) ∧ b < w5.heap.size) (fun b hb h => ⟨h, hb⟩)).keeps (hk6 _ (fun b hb => ⟨hb.1.2, by have := hb.1.1; omega⟩))
              exact h1.imp (fun b hb => ⟨hb.1.1, hnew b hb.2 hb.1.2⟩)
            intro z hz
            rcases List.mem_append.1 hz with hz | hz
            · refine fin z ?_
              have h1 := (HR.out.2.2.1.rows z hz).lt (S' := fun b => (w.heap.size ≤ b ∧ v.ownBlock ≠ some b) ∧ b < wr.heap.size) (fun b hb h => ⟨h, hb⟩)
              refine (h1.keeps (hm5.keeps (fun b _ hb f => ?_))).imp (fun b hb => hb.1)
              rcases f with f | f
              · have := hb.1.1; omega
              · have := hb.2; omega
            · obtain rfl : z = x := by simpa using hz
              refine fin z (H5.out.2.2.2.2.2.2.2.imp (fun b hb => ?_))
              simp at hb
              exact ⟨by omega, own_ne HR.out.2.2.1.own (.inr (by omega))⟩
          · refine Mod.setCell ?_ (.inr (.inr rfl)) _
            have m5 : Mod (fun b => b = C ∨ b = T) w w5 := HR.out.2.2.2.1.trans' hm5 (fun i hi f => by rcases f with f | f; exact .inl f; omega)
            refine m5.trans' H6.out.2.1 (fun i hi f => ?_)
            exact absurd f (own_ne HR.out.2.2.1.own (.inl hi))
      · have HR := Lib.hid (And.intro hsp (And.intro hbC (And.intro hbT (And.intro htv hmw))))
        clear hsp hbC hbT htv hmw
        go_wp2
        first | go_end0 | (simp only [Exit.inBlock, Exit.then]; refine bodyPost_ret (results_none rfl _ _ _) rfl ?_) | refine bodyPost_ret (results_none rfl _ _ _) rfl ?_
        obtain ⟨h5, h6, h7, h8, h9⟩ := HR.out
        rw [rmany_short (rten B) (n - j) (s := (at_, true)) rfl] at h5
        rw [h5]
        exact ⟨rfl, h6, ⟨v, h7, acc, by simp, h8⟩, h9⟩
    · obtain rfl : n = j := by omega
      have HR := Lib.hid (And.intro hsp (And.intro hbC (And.intro hbT (And.intro htv hmw))))
      clear hsp hbC hbT htv hmw
      go_wp2
      first | go_end0 | (simp only [Exit.inBlock, Exit.then]; refine bodyPost_ret (results_none rfl _ _ _) rfl ?_) | refine bodyPost_ret (results_none rfl _ _ _) rfl ?_
      obtain ⟨h5, h6, h7, h8, h9⟩ := HR.out
      rw [Nat.sub_self] at h5
      rw [h5]
      exact ⟨rfl, h6, ⟨v, h7, acc, by simp [rmany], h8⟩, h9⟩
end

section
attribute [local go_sem] stPair gtPair gtK8 gtM6 run_store_func
attribute [local go_sem high] neqPair eqK8 eqM6
attribute [local go_sem ↓] load_fold store_fold alloc_fold slice_op_fold
open Go.RowKit
set_option linter.unusedVariables false
/-- Settings that are being read. -/
structure CS where
  c : Con
  nt : Nat
  l : List Ten
  s : St
def Con.zero : Con := ⟨0, .zero, .zero, .zero, .zero, 0⟩
def csteps (B : List UInt8) : List (CS → CS) := [
  fun r => { r with c := { r.c with ip := (rnum B 4 r.s).1 }, s := (rnum B 4 r.s).2 },
  fun r => { r with c := { r.c with mac := M6.of (rtake B r.s 6).1 }, s := (rtake B r.s 6).2 },
  fun r => { r with c := { r.c with omac := M6.of (rtake B r.s 6).1 }, s := (rtake B r.s 6).2 },
  fun r => { r with c := { r.c with nmac := M6.of (rtake B r.s 6).1 }, s := (rtake B r.s 6).2 },
  fun r => { r with c := { r.c with key := K8.of (rtake B r.s 8).1 }, s := (rtake B r.s 8).2 },
  fun r => { r with c := { r.c with drain := (rnum B 4 r.s).1 }, s := (rnum B 4 r.s).2 },
  fun r => { r with nt := (rnum B 1 r.s).1, s := (rnum B 1 r.s).2 },
  fun r => { r with l := (rmany (rten B) r.nt r.s).1, s := (rmany (rten B) r.nt r.s).2 }]
def ck (B : List UInt8) (s : St) (k : Nat) : CS := ((csteps B).take k).foldl (fun r f => f r) ⟨.zero, 0, [], s⟩
/-- Settings read. -/
def rcon (B : List UInt8) (s : St) : CS := ck B s 8
set_option maxRecDepth 100000 in
set_option maxHeartbeats 2000000 in
theorem con_list_rd {S : Nat → Prop} {w : World} {C : Nat} {A : Option Addr} {c : Nat} {s0 : St} (B : List UInt8) (hb : w.heap[C]? = some (rdObj A B.length c s0.1 s0.2)) (hrow : RowAt S w A (bcells B)) (hat : s0.1 ≤ B.length) (hc : B.length ≤ c) (hB : B.length ≤ 100000000) (hS : ¬ S C) {bc bt bp T o n : Nat} (hST : ¬ S T) (hx : BoxesC w bc bt C T o) (hn : n ≤ 1000) (hSn : ∀ b, S b → b < w.heap.size) (hp : w.heap[bp]? = some (.cells #[.int .i64 (n : Int)] 3 (0, 0)))
    {cs : Array Value} {t : TypeId} (hT : w.heap[T]? = some (.cells cs t (0, 0))) (ho : o + 28 < cs.size) (h1 : T ≠ C) :
    Calls Try.prog 91 #[.pointer (some ⟨bc, 0, none⟩), .pointer (some ⟨bp, 0, none⟩), .pointer (some ⟨bt, 0, none⟩)] w fun e w' => e = .returned (.tuple #[]) ∧ w'.heap[C]? = some (rdObj A B.length c (rmany (rten B) n s0).2.1 (rmany (rten B) n s0).2.2) ∧
      (∃ (v : Value) (l : List TV), w'.heap[T]? = some (.cells (cs.setIfInBounds (o + 28) v) t (0, 0)) ∧ l.map (·.t) = (rmany (rten B) n s0).1 ∧ TVs w' w.heap.size v l) ∧ Mod (fun b => b = C ∨ b = T) w w' := by
  obtain ⟨R, hR⟩ : ∃ R : World → Prop, R = fun w' => w'.heap[C]? = some (rdObj A B.length c (rmany (rten B) n s0).2.1 (rmany (rten B) n s0).2.2) ∧
      (∃ (v : Value) (l : List TV), w'.heap[T]? = some (.cells (cs.setIfInBounds (o + 28) v) t (0, 0)) ∧ l.map (·.t) = (rmany (rten B) n s0).1 ∧ TVs w' w.heap.size v l) ∧ Mod (fun b => b = C ∨ b = T) w w' := ⟨_, rfl⟩
  have hd : ∀ W, W = w.drew → Calls Try.prog 92 #[.pointer (some ⟨C, 0, none⟩), .int .i64 n, .pointer (some ⟨T, o + 28, none⟩), .func (.func 47) #[.pointer (some ⟨C, 0, none⟩)] #[]] W fun e w' => e = .returned (.tuple #[]) ∧ R w' := by
    intro W hW
    subst hW
    rw [hR]
    exact (list_ten_rd (w := w.drew) (S := S) B hb (hrow.keeps (Mod.keeps (Mod.drew (Mod.refl No w)) (fun _ _ _ f => f))) hat hc hB hS (T := T) (o := o + 28) hST hSn hT ho h1 n hn).mono fun e w' ⟨e1, e2, e3, e4⟩ => ⟨e1, e2, e3, (Mod.refl _ w).drew.trans e4⟩
  have c0 := blk_cell hx.c 0
  have c1 := blk_cell hx.t 0
  have c2 := blk_cell hp 0
  simp at c0 c1 c2
  suffices hs : Calls Try.prog 91 #[.pointer (some ⟨bc, 0, none⟩), .pointer (some ⟨bp, 0, none⟩), .pointer (some ⟨bt, 0, none⟩)] w fun e w' => e = .returned (.tuple #[]) ∧ R w' by
    rw [hR] at hs; exact hs
  have HD := Lib.hid hd
  clear hb hrow hat hc hB hS hx hT ho hd hR hp hn h1 hST hSn
  go_enter Try.func91, Try.ntmps91
  go_wp2_with fail
  go_region_law (first | (go_simp; go_at_call 92; refine (HD.out _ rfl).mono ?_; rintro e w1 ⟨rfl, hr⟩; have HW := Lib.hid hr; clear hr))
  all_goals
    go_wp2
    first | go_end0 | (simp only [Exit.inBlock, Exit.then]; refine bodyPost_ret (results_none rfl _ _ _) rfl ?_) | refine bodyPost_ret (results_none rfl _ _ _) rfl ?_
    exact ⟨rfl, HW.out⟩
structure KG (w0 : World) (n C T : Nat) (A : Option Addr) (c : Nat) (B : List UInt8) (S : Nat → Prop) : Prop where
  bx : BoxesC w0 n (n + 1) C T 0
  rw3 : w0.heap[n + 3]? = some (.cells (conRow n).toArray 1 (0, 0))
  C_lt : C < n
  T_lt : T < n
  TC : T ≠ C
  row : RowAt S w0 A (bcells B)
  S_lt : ∀ b, S b → b < n
  SC : ¬ S C
  ST : ¬ S T
  hc : B.length ≤ c
  hB : B.length ≤ 100000000
structure KR (w0 : World) (n C T : Nat) (A : Option Addr) (c : Nat) (B : List UInt8) (r : CS) (vt : Value) (l : List TV) (w : World) : Prop where
  rd : w.heap[C]? = some (rdObj A B.length c r.s.1 r.s.2)
  le : r.s.1 ≤ B.length
  con : w.heap[T]? = some (.cells (r.c.cells vt) 38 (0, 0))
  mod : Mod (fun b => b = C ∨ b = T ∨ b = n + 2) w0 w
  hn : w.heap[n + 2]? = some (.cells #[.int .i64 (r.nt : Int)] 3 (0, 0))
  cnt : r.nt < 256
  map : l.map (·.t) = r.l
  tens : TVs w (n + 4) vt l
section
variable {w0 : World} {n C T : Nat} {A : Option Addr} {c : Nat} {B : List UInt8} {S : Nat → Prop} {r : CS} {vt : Value} {l : List TV} {w : World}
theorem KR.keep (h : KR w0 n C T A c B r vt l w) (g : KG w0 n C T A c B S) {b : Nat} {ob : Obj} (hb : w0.heap[b]? = some ob) (h1 : n ≤ b) (h2 : b ≠ n + 2) : w.heap[b]? = some ob := by
  refine h.mod.obj hb ?_
  have := g.C_lt
  have := g.T_lt
  rintro (f | f | f) <;> omega
theorem KR.boxes (h : KR w0 n C T A c B r vt l w) (g : KG w0 n C T A c B S) : BoxesC w n (n + 1) C T 0 := ⟨h.keep g g.bx.c (by omega) (by omega), h.keep g g.bx.t (by omega) (by omega)⟩
theorem KR.row (h : KR w0 n C T A c B r vt l w) (g : KG w0 n C T A c B S) : RowAt S w A (bcells B) := g.row.keeps (h.mod.keeps fun b hb hs f => by
  have := g.S_lt b hs
  rcases f with f | f | f
  · exact g.SC (by rw [← f]; exact hs)
  · exact g.ST (by rw [← f]; exact hs)
  · omega)
theorem TVs.mod {F : Nat → Prop} {w w' : World} {base : Nat} {v : Value} {l : List TV} (h : TVs w base v l) (hm : Mod F w w') (hF : ∀ b, base ≤ b → b < w.heap.size → ¬ F b) : TVs w' base v l :=
  ⟨own_mod h.own hm fun k hk => by
    rcases h.own.2 with ⟨rfl, _⟩ | ⟨g, cap, cur, rfl, hb, hg, _⟩
    · simp [Value.ownBlock] at hk
    · obtain rfl : g = k := by simpa [Value.ownBlock] using hk
      exact hF g hb (lt_of_block hg), fun x hx => (h.rows x hx).keeps (hm.keeps fun b hb hs => hF b hs.1 hb)⟩
theorem KR.next (h : KR w0 n C T A c B r vt l w) (g : KG w0 n C T A c B S) {w' : World} {c' : Con} {s' : St} (hs : s'.1 ≤ B.length) (hrd : w'.heap[C]? = some (rdObj A B.length c s'.1 s'.2)) (ht : w'.heap[T]? = some (.cells (c'.cells vt) 38 (0, 0)))
    (hm : Mod (fun b => b = C ∨ b = T) w w') : KR w0 n C T A c B { r with c := c', s := s' } vt l w' := by
  have k1 := g.C_lt
  have k2 := g.T_lt
  exact ⟨hrd, hs, ht, h.mod.trans (hm.mono fun b f => by rcases f with f | f; exact .inl f; exact .inr (.inl f)), hm.obj h.hn (by rintro (f | f) <;> omega), h.cnt, h.map, h.tens.mod hm (fun b hb _ f => by rcases f with f | f <;> omega)⟩
def KI (w0 : World) (n C T : Nat) (A : Option Addr) (c : Nat) (B : List UInt8) (s : St) (k : Nat) (w : World) : Prop := ∃ vt l, KR w0 n C T A c B (ck B s k) vt l w
theorem con_size (c : Con) (vt : Value) : (c.cells vt).size = 29 := rfl
theorem con_len (c : Con) (vt : Value) : (c.cells vt).toList.length = 29 := rfl
theorem con_set (c : Con) (vt : Value) (j : Nat) (v : Value) (c' : Con) (vt' : Value) (h : (c.cells vt).toList.set j v = (c'.cells vt').toList) : (Obj.cells ((c.cells vt).setIfInBounds j v) 38) = .cells (c'.cells vt') 38 := by
  congr 1
  apply Array.toList_inj.1
  simpa using h
theorem mac_splice (c : Con) (vt : Value) (xs : List UInt8) (h : xs.length = 6) : (splice (c.cells vt).toList 1 (bcells xs)).toArray = ({ c with mac := M6.of xs } : Con).cells vt := by
  match xs, h with
  | [a, b, c, d, e, f], _ => rfl
theorem omac_splice (c : Con) (vt : Value) (xs : List UInt8) (h : xs.length = 6) : (splice (c.cells vt).toList 7 (bcells xs)).toArray = ({ c with omac := M6.of xs } : Con).cells vt := by
  match xs, h with
  | [a, b, c, d, e, f], _ => rfl
theorem nmac_splice (c : Con) (vt : Value) (xs : List UInt8) (h : xs.length = 6) : (splice (c.cells vt).toList 13 (bcells xs)).toArray = ({ c with nmac := M6.of xs } : Con).cells vt := by
  match xs, h with
  | [a, b, c, d, e, f], _ => rfl
theorem ckey_splice (c : Con) (vt : Value) (xs : List UInt8) (h : xs.length = 8) : (splice (c.cells vt).toList 19 (bcells xs)).toArray = ({ c with key := K8.of xs } : Con).cells vt := by
  match xs, h with
  | [a, b, c, d, e, f, g, i], _ => rfl
end
section
variable {w0 : World} {n C T : Nat} {A : Option Addr} {c : Nat} {B : List UInt8} {S : Nat → Prop} {s : St} {w : World}
theorem ki_0 (g : KG w0 n C T A c B S) (h : KI w0 n C T A c B s 0 w) :
    Calls Try.prog 84 #[bxv n, bxv (n + 1)] w fun e w' => e = .returned (.tuple #[]) ∧ KI w0 n C T A c B s 1 w' := by
  obtain ⟨vt, l, h⟩ := h
  have hk : ck B s 1 = (fun r : CS => ({ r with c := { r.c with ip := (rnum B 4 r.s).1 }, s := (rnum B 4 r.s).2 } : CS)) (ck B s 0) := rfl
  unfold KI
  rw [hk]
  generalize ck B s 0 = r at h ⊢
  clear hk
  refine (con_ip_rd (o := 0) B h.rd (h.row g) h.le g.hc g.hB g.SC (h.boxes g) h.con (by rw [con_size]; decide) g.TC).mono fun e w' ⟨he, a1, a2, a3⟩ => ⟨he, vt, l, h.next g (rnum_le B 4 _ h.le) a1 ?_ a3⟩
  rw [a2]
  exact congrArg some (con_set _ _ _ _ _ _ rfl)
theorem ki_1 (g : KG w0 n C T A c B S) (h : KI w0 n C T A c B s 1 w) :
    Calls Try.prog 85 #[bxv n, bxv (n + 1)] w fun e w' => e = .returned (.tuple #[]) ∧ KI w0 n C T A c B s 2 w' := by
  obtain ⟨vt, l, h⟩ := h
  have hk : ck B s 2 = (fun r : CS => ({ r with c := { r.c with mac := M6.of (rtake B r.s 6).1 }, s := (rtake B r.s 6).2 } : CS)) (ck B s 1) := rfl
  unfold KI
  rw [hk]
  generalize ck B s 1 = r at h ⊢
  clear hk
  refine (con_mac_rd (o := 0) (cs := (r.c.cells vt).toList) B h.rd (h.row g) h.le g.hc g.hB g.SC (h.boxes g) h.con (by rw [con_len]; decide) g.TC).mono fun e w' ⟨he, a1, a2, a3⟩ => ⟨he, vt, l, h.next g (rtake_le B _ 6 h.le) a1 ?_ a3⟩
  rw [a2, Nat.zero_add, mac_splice _ _ _ (rtake_length _ _ _)]
theorem ki_2 (g : KG w0 n C T A c B S) (h : KI w0 n C T A c B s 2 w) :
    Calls Try.prog 86 #[bxv n, bxv (n + 1)] w fun e w' => e = .returned (.tuple #[]) ∧ KI w0 n C T A c B s 3 w' := by
  obtain ⟨vt, l, h⟩ := h
  have hk : ck B s 3 = (fun r : CS => ({ r with c := { r.c with omac := M6.of (rtake B r.s 6).1 }, s := (rtake B r.s 6).2 } : CS)) (ck B s 2) := rfl
  unfold KI
  rw [hk]
  generalize ck B s 2 = r at h ⊢
  clear hk
  refine (con_omac_rd (o := 0) (cs := (r.c.cells vt).toList) B h.rd (h.row g) h.le g.hc g.hB g.SC (h.boxes g) h.con (by rw [con_len]; decide) g.TC).mono fun e w' ⟨he, a1, a2, a3⟩ => ⟨he, vt, l, h.next g (rtake_le B _ 6 h.le) a1 ?_ a3⟩
  rw [a2, Nat.zero_add, omac_splice _ _ _ (rtake_length _ _ _)]
theorem ki_3 (g : KG w0 n C T A c B S) (h : KI w0 n C T A c B s 3 w) :
    Calls Try.prog 87 #[bxv n, bxv (n + 1)] w fun e w' => e = .returned (.tuple #[]) ∧ KI w0 n C T A c B s 4 w' := by
  obtain ⟨vt, l, h⟩ := h
  have hk : ck B s 4 = (fun r : CS => ({ r with c := { r.c with nmac := M6.of (rtake B r.s 6).1 }, s := (rtake B r.s 6).2 } : CS)) (ck B s 3) := rfl
  unfold KI
  rw [hk]
  generalize ck B s 3 = r at h ⊢
  clear hk
  refine (con_nmac_rd (o := 0) (cs := (r.c.cells vt).toList) B h.rd (h.row g) h.le g.hc g.hB g.SC (h.boxes g) h.con (by rw [con_len]; decide) g.TC).mono fun e w' ⟨he, a1, a2, a3⟩ => ⟨he, vt, l, h.next g (rtake_le B _ 6 h.le) a1 ?_ a3⟩
  rw [a2, Nat.zero_add, nmac_splice _ _ _ (rtake_length _ _ _)]
theorem ki_4 (g : KG w0 n C T A c B S) (h : KI w0 n C T A c B s 4 w) :
    Calls Try.prog 88 #[bxv n, bxv (n + 1)] w fun e w' => e = .returned (.tuple #[]) ∧ KI w0 n C T A c B s 5 w' := by
  obtain ⟨vt, l, h⟩ := h
  have hk : ck B s 5 = (fun r : CS => ({ r with c := { r.c with key := K8.of (rtake B r.s 8).1 }, s := (rtake B r.s 8).2 } : CS)) (ck B s 4) := rfl
  unfold KI
  rw [hk]
  generalize ck B s 4 = r at h ⊢
  clear hk
  refine (con_key_rd (o := 0) (cs := (r.c.cells vt).toList) B h.rd (h.row g) h.le g.hc g.hB g.SC (h.boxes g) h.con (by rw [con_len]; decide) g.TC).mono fun e w' ⟨he, a1, a2, a3⟩ => ⟨he, vt, l, h.next g (rtake_le B _ 8 h.le) a1 ?_ a3⟩
  rw [a2, Nat.zero_add, ckey_splice _ _ _ (rtake_length _ _ _)]
theorem ki_5 (g : KG w0 n C T A c B S) (h : KI w0 n C T A c B s 5 w) :
    Calls Try.prog 89 #[bxv n, bxv (n + 1)] w fun e w' => e = .returned (.tuple #[]) ∧ KI w0 n C T A c B s 6 w' := by
  obtain ⟨vt, l, h⟩ := h
  have hk : ck B s 6 = (fun r : CS => ({ r with c := { r.c with drain := (rnum B 4 r.s).1 }, s := (rnum B 4 r.s).2 } : CS)) (ck B s 5) := rfl
  unfold KI
  rw [hk]
  generalize ck B s 5 = r at h ⊢
  clear hk
  refine (con_drain_rd (o := 0) B h.rd (h.row g) h.le g.hc g.hB g.SC (h.boxes g) h.con (by rw [con_size]; decide) g.TC).mono fun e w' ⟨he, a1, a2, a3⟩ => ⟨he, vt, l, h.next g (rnum_le B 4 _ h.le) a1 ?_ a3⟩
  rw [a2]
  exact congrArg some (con_set _ _ _ _ _ _ rfl)
theorem ki_6 (g : KG w0 n C T A c B S) (h : KI w0 n C T A c B s 6 w) :
    Calls Try.prog 90 #[bxv n, bxv (n + 1), bxv (n + 2)] w fun e w' => e = .returned (.tuple #[]) ∧ KI w0 n C T A c B s 7 w' := by
  obtain ⟨vt, l, h⟩ := h
  have hk : ck B s 7 = (fun r : CS => ({ r with nt := (rnum B 1 r.s).1, s := (rnum B 1 r.s).2 } : CS)) (ck B s 6) := rfl
  unfold KI
  rw [hk]
  generalize ck B s 6 = r at h ⊢
  clear hk
  obtain ⟨P, p, e1, r1⟩ := own_rowAt h.tens.own
  subst e1
  have k1 := g.C_lt
  have k2 := g.T_lt
  refine (con_n_rd (o := 0) B h.rd (h.row g) h.le g.hc g.hB g.SC (h.boxes g) ((blk_cell h.con 28).trans rfl) h.hn (by omega)).mono fun e w' ⟨he, a1, a2, a3⟩ => ⟨he, _, l, ⟨a1, rnum_le B 1 _ h.le, a3.obj h.con (by rintro (f | f); exact g.TC f; omega), h.mod.trans (a3.mono fun b f => by rcases f with f | f; exact .inl f; exact .inr (.inr f)), a2, rnum_lt B 1 _, h.map, h.tens.mod a3 (fun b hb _ f => by rcases f with f | f <;> omega)⟩⟩
theorem ki_7 (g : KG w0 n C T A c B S) (h : KI w0 n C T A c B s 7 w) :
    Calls Try.prog 91 #[bxv n, bxv (n + 2), bxv (n + 1)] w fun e w' => e = .returned (.tuple #[]) ∧ KI w0 n C T A c B s 8 w' := by
  obtain ⟨vt, l, h⟩ := h
  have hk : ck B s 8 = (fun r : CS => ({ r with l := (rmany (rten B) r.nt r.s).1, s := (rmany (rten B) r.nt r.s).2 } : CS)) (ck B s 7) := rfl
  unfold KI
  rw [hk]
  have hl0 : (ck B s 7).l = [] := rfl
  generalize ck B s 7 = r at h hl0 ⊢
  clear hk
  have k1 := g.C_lt
  have k2 := g.T_lt
  have hsz : n + 3 < w.heap.size := Nat.lt_of_lt_of_le (lt_of_block g.rw3) h.mod.size
  refine (con_list_rd (o := 0) B h.rd (h.row g) h.le g.hc g.hB g.SC g.ST (h.boxes g) (by have := h.cnt; omega) (fun b hb => by have := g.S_lt b hb; omega) h.hn h.con (by rw [con_size]; decide) g.TC).mono fun e w' ⟨he, a1, ⟨v, l2, a2, a4, a5⟩, a3⟩ => ⟨he, v, l2, ⟨a1, rmany_le (rten_le B) _ _ h.le, ?_, h.mod.trans (a3.mono fun b f => by rcases f with f | f; exact .inl f; exact .inr (.inl f)), a3.obj h.hn (by rintro (f | f) <;> omega), h.cnt, a4, ?_⟩⟩
  · rw [a2]
    exact congrArg some (con_set _ _ _ _ _ _ rfl)
  · exact ⟨own_base a5.own (by omega), fun x hx => (a5.rows x hx).imp (fun b hb => ⟨by have := hb.1; omega, hb.2⟩)⟩
theorem ki_step (g : KG w0 n C T A c B S) : ∀ k w1 f cc, conFn[k]? = some f → (conCap n)[k]? = some cc → KI w0 n C T A c B s k w1 → w1.heap[n + 3]? = some (.cells (conRow n).toArray 1 (0, 0)) ∧ Calls Try.prog f cc w1 fun e w' => e = .returned (.tuple #[]) ∧ KI w0 n C T A c B s (k + 1) w' := by
  intro k w1 f cc hf hc h
  have hk : k < 8 := (List.getElem?_eq_some_iff.1 hf).1
  have hor : k = 0 ∨ k = 1 ∨ k = 2 ∨ k = 3 ∨ k = 4 ∨ k = 5 ∨ k = 6 ∨ k = 7 := by omega
  refine ⟨?_, ?_⟩
  · obtain ⟨vt, l, h⟩ := h
    exact h.keep g g.rw3 (by omega) (by omega)
  clear hk
  rcases hor with rfl | rfl | rfl | rfl | rfl | rfl | rfl | rfl
  · obtain rfl : 84 = f := Option.some.inj hf; obtain rfl : #[bxv n, bxv (n + 1)] = cc := Option.some.inj hc; exact ki_0 g h
  · obtain rfl : 85 = f := Option.some.inj hf; obtain rfl : #[bxv n, bxv (n + 1)] = cc := Option.some.inj hc; exact ki_1 g h
  · obtain rfl : 86 = f := Option.some.inj hf; obtain rfl : #[bxv n, bxv (n + 1)] = cc := Option.some.inj hc; exact ki_2 g h
  · obtain rfl : 87 = f := Option.some.inj hf; obtain rfl : #[bxv n, bxv (n + 1)] = cc := Option.some.inj hc; exact ki_3 g h
  · obtain rfl : 88 = f := Option.some.inj hf; obtain rfl : #[bxv n, bxv (n + 1)] = cc := Option.some.inj hc; exact ki_4 g h
  · obtain rfl : 89 = f := Option.some.inj hf; obtain rfl : #[bxv n, bxv (n + 1)] = cc := Option.some.inj hc; exact ki_5 g h
  · obtain rfl : 90 = f := Option.some.inj hf; obtain rfl : #[bxv n, bxv (n + 1), bxv (n + 2)] = cc := Option.some.inj hc; exact ki_6 g h
  · obtain rfl : 91 = f := Option.some.inj hf; obtain rfl : #[bxv n, bxv (n + 2), bxv (n + 1)] = cc := Option.some.inj hc; exact ki_7 g h
def zCon : Array Value := Con.zero.cells (.slice none 0 0)
/-- SETTINGS READ. -/
theorem config_rd (hb : w.heap[C]? = some (rdObj A B.length c s.1 s.2)) (hrow : RowAt S w A (bcells B)) (hat : s.1 ≤ B.length) (hc : B.length ≤ c) (hB : B.length ≤ 100000000) (hS : ¬ S C) (hST : ¬ S T) (hSl : ∀ b, S b → b < w.heap.size)
    (hT : w.heap[T]? = some (.cells zCon 38 (0, 0))) (hTC : T ≠ C) :
    Calls Try.prog 51 #[.pointer (some ⟨C, 0, none⟩), .pointer (some ⟨T, 0, none⟩)] w fun e w' => e = .returned (.tuple #[]) ∧ ∃ vt l, l.map (·.t) = (rcon B s).l ∧ (rcon B s).s.1 ≤ B.length ∧ w'.heap[C]? = some (rdObj A B.length c (rcon B s).s.1 (rcon B s).s.2) ∧
      w'.heap[T]? = some (.cells ((rcon B s).c.cells vt) 38 (0, 0)) ∧ TVs w' w.heap.size vt l ∧ Mod (fun b => b = C ∨ b = T) w w' := by
  have hC := lt_of_block hb
  have hTl := lt_of_block hT
  refine config_walk (fun w' => ∃ vt l, l.map (·.t) = (rcon B s).l ∧ (rcon B s).s.1 ≤ B.length ∧ w'.heap[C]? = some (rdObj A B.length c (rcon B s).s.1 (rcon B s).s.2) ∧
      w'.heap[T]? = some (.cells ((rcon B s).c.cells vt) 38 (0, 0)) ∧ TVs w' w.heap.size vt l ∧ Mod (fun b => b = C ∨ b = T) w w') (fun w0 hm hbx h2 h6 => ?_)
  have g : KG w0 w.heap.size C T A c B S := { bx := hbx, rw3 := h6, C_lt := hC, T_lt := hTl, TC := hTC, row := hrow.keeps (hm.keeps (fun _ _ _ f => f)), S_lt := hSl, SC := hS, ST := hST, hc := hc, hB := hB }
  refine ⟨KI w0 w.heap.size C T A c B s, ?_, ki_step g, fun w' ⟨vt, l, h'⟩ => ?_⟩
  · exact ⟨.slice none 0 0, [], ⟨hm.obj hb id, hat, hm.obj hT id, Mod.refl _ _, h2, show (0:Nat) < 256 by decide, rfl, ⟨rfl, .inl ⟨rfl, rfl⟩⟩, by simp⟩⟩
  · have hsz := hm.size
    refine ⟨vt, l, h'.map, h'.le, h'.rd, h'.con, ⟨own_base h'.tens.own (by omega), fun x hx => (h'.tens.rows x hx).imp (fun b hb => ⟨by have := hb.1; omega, hb.2⟩)⟩, ?_⟩
    refine (hm.mono (fun _ f => f.elim)).trans' h'.mod (fun i hi f => ?_)
    rcases f with f | f | f
    · exact .inl f
    · exact .inr f
    · omega
end
end

section
attribute [local go_sem] stPair gtPair gtK8 gtM6 run_store_func
attribute [local go_sem high] neqPair eqK8 eqM6
attribute [local go_sem ↓] load_fold store_fold alloc_fold
open Go.RowKit
set_option linter.unusedVariables false
def conLoad (v : Value) : Sem Value := Instr.loadAt 38 v
theorem con_load_fold (v : Value) : Instr.loadAt 38 v = conLoad v := rfl
attribute [local go_sem ↓] con_load_fold
def chgLoad (v : Value) : Sem Value := Instr.loadAt 35 v
theorem chg_load_fold (v : Value) : Instr.loadAt 35 v = chgLoad v := rfl
attribute [local go_sem ↓] chg_load_fold
theorem conLoad_run {W : World} {b : Nat} {CA : Array Value} (h : W.heap[b]? = some (.cells CA 38 (0, 0))) (hc : CA.size = 29) : (conLoad (.pointer (some ⟨b, 0, none⟩))).run Try.prog W = .ok (.agg CA) W := by
  simp only [conLoad, Instr.loadAt, Instr.sureAddr, Sem.run_bind, Sem.run_pure, Result.andThen_ok]
  exact run_loadVar_row W b _ _ CA (0, 0) _ h Try.underlying38 rfl (by rw [conSize, hc])
theorem chgLoad_run {W : World} {b : Nat} {CA : Array Value} (h : W.heap[b]? = some (.cells CA 35 (0, 0))) (hc : CA.size = 35) : (chgLoad (.pointer (some ⟨b, 0, none⟩))).run Try.prog W = .ok (.agg CA) W := load_chg h hc
end

section
attribute [local go_sem] stPair gtPair gtK8 gtM6 run_store_func
attribute [local go_sem high] neqPair eqK8 eqM6
attribute [local go_sem ↓] load_fold store_fold alloc_fold slice_op_fold con_load_fold chg_load_fold
open Go.RowKit
set_option linter.unusedVariables false
def tenZero : Sem Value := Instr.build 33 #[]
theorem ten_zero_fold (ρ : Operand → Value) (dst : Option Tmp) (ty : TypeId) (pos : String) (after : Array Edge) (g : Option (Nat × Bool)) :
    execOp ρ { dst := dst, op := .build 33 #[], type := ty, pos := pos, after := after, guard := g } = (do pure (Next.value (← tenZero)) : Sem Next) := by
  show (do pure (Next.value (← Instr.build 33 (#[].map fun (i, x) => (i, ρ x)))) : Sem Next) = _
  simp only [Array.map_empty]
  rfl
attribute [local go_sem ↓] ten_zero_fold
theorem tenStore_row {W : World} {b : Nat} {old CA : Array Value} (h : W.heap[b]? = some (.cells old 33 (0, 0))) (ho : old.size = 33) (hc : CA.size = 33) (h1 : CA.all (·.oneCell') = true) :
    (tenStore (.pointer (some ⟨b, 0, none⟩)) (.agg CA)).run Try.prog W = .ok () (W.setRow b CA) := by
  simp only [tenStore, Instr.storeAt, Instr.sureAddr, Sem.run_bind, Sem.run_pure, Result.andThen_ok]
  exact run_storeVar_row _ _ _ _ old CA h (by rw [tenSize, hc]) (by rw [ho, hc]) h1
def TV.zero : TV := ⟨.zero, .slice none 0 0, .slice none 0 0, .slice none 0 0⟩
theorem TV.zero_rows (S : Nat → Prop) (w : World) : TV.zero.Rows S w := ⟨none, 0, none, 0, none, 0, rfl, rfl, rfl, .nil _ _ _, .nil _ _ _, .nil _ _ _⟩
end

section
attribute [local go_sem] stPair gtPair gtK8 gtM6 run_store_func
attribute [local go_sem high] neqPair eqK8 eqM6
attribute [local go_sem ↓] load_fold store_fold alloc_fold slice_op_fold con_load_fold chg_load_fold ten_zero_fold
open Go.RowKit
set_option linter.unusedVariables false
def conAlloc (v : Value) : Sem Value := Instr.alloc 38 true v
theorem con_alloc_fold (v : Value) : Instr.alloc 38 true v = conAlloc v := rfl
attribute [local go_sem ↓] con_alloc_fold
set_option maxRecDepth 100000 in
theorem conAlloc_run (W : World) : (conAlloc (.tuple #[])).run Try.prog W = .ok (.pointer (some ⟨W.heap.size, 0, none⟩)) (W.alloc (.cells zCon 38)) := by kernel_rfl
def conStore (p v : Value) : Sem Unit := Instr.storeAt 38 p v
theorem con_store_fold (p v : Value) : Instr.storeAt 38 p v = conStore p v := rfl
attribute [local go_sem ↓] con_store_fold
theorem conStore_row {W : World} {b : Nat} {old CA : Array Value} (h : W.heap[b]? = some (.cells old 38 (0, 0))) (ho : old.size = 29) (hc : CA.size = 29) (h1 : CA.all (·.oneCell') = true) :
    (conStore (.pointer (some ⟨b, 0, none⟩)) (.agg CA)).run Try.prog W = .ok () (W.setRow b CA) := by
  simp only [conStore, Instr.storeAt, Instr.sureAddr, Sem.run_bind, Sem.run_pure, Result.andThen_ok]
  exact run_storeVar_row _ _ _ _ old CA h (by rw [conSize, hc]) (by rw [ho, hc]) h1
def conZero : Sem Value := Instr.build 38 #[]
theorem con_zero_fold (ρ : Operand → Value) (dst : Option Tmp) (ty : TypeId) (pos : String) (after : Array Edge) (g : Option (Nat × Bool)) :
    execOp ρ { dst := dst, op := .build 38 #[], type := ty, pos := pos, after := after, guard := g } = (do pure (Next.value (← conZero)) : Sem Next) := by
  show (do pure (Next.value (← Instr.build 38 (#[].map fun (i, x) => (i, ρ x)))) : Sem Next) = _
  simp only [Array.map_empty]
  rfl
attribute [local go_sem ↓] con_zero_fold
set_option maxRecDepth 100000 in
theorem conZero_run : ∀ W, conZero.run Try.prog W = .ok (.agg zCon) W := fun W => by kernel_rfl
theorem con_one (c : Con) (P : Option Addr) (a b : Nat) : (c.cells (.slice P a b)).all (·.oneCell') = true := by simp [Con.cells, Value.oneCell', u8v]
/-- What OpenConfig tells: settings, tenants, an error. -/
def ocf (B : List UInt8) : Con × List Ten × Nat := if (rcon B (0, false)).s.2 = false ∧ (rcon B (0, false)).s.1 = B.length then ((rcon B (0, false)).c, (rcon B (0, false)).l, 0) else (.zero, [], 70)
/-- What OpenConfig hands out: settings, an error. -/
def OpenConP (r : Con × List Ten × Nat) (w : World) (e : Ending) (w' : World) : Prop :=
  ∃ vt l, e = .returned (.tuple #[.agg (r.1.cells vt), .int .i64 (r.2.2 : Nat)]) ∧ l.map (·.t) = r.2.1 ∧ TVs w' w.heap.size vt l ∧ Mod No w w'
set_option maxRecDepth 100000 in
set_option maxHeartbeats 1000000 in
theorem openConfig_ok {w : World} {A : Option Addr} {c : Nat} (B : List UInt8) (hrow : RowAt (fun b => b < w.heap.size) w A (bcells B)) (hc : B.length ≤ c) (hB : B.length ≤ 100000000) :
    Calls Try.prog 36 #[.slice A B.length c] w (OpenConP (ocf B) w) := by
  obtain ⟨W, hW⟩ : ∃ W, W = ((w.alloc (.cells zCon 38)).alloc (.cells #[.slice A B.length c, .bool true, .int .i64 0, .bool false] 100)).alloc (.cells zCon 38) := ⟨_, rfl⟩
  have hmW : Mod No w W := by rw [hW]; exact (((Mod.refl _ _).alloc _).alloc _).alloc _
  have hsz : W.heap.size = w.heap.size + 3 := by rw [hW]; simp
  have hX : W.heap[w.heap.size]? = some (.cells zCon 38 (0, 0)) := by rw [hW]; exact at30 w _ _ _
  have hC : W.heap[w.heap.size + 1]? = some (rdObj A B.length c 0 false) := by rw [hW]; exact at31 w _ _ _
  have hT : W.heap[w.heap.size + 1 + 1]? = some (.cells zCon 38 (0, 0)) := by rw [hW]; exact at32 w _ _ _
  have HN := config_rd (w := W) (s := (0, false)) (S := fun b => b < w.heap.size) (C := w.heap.size + 1) (T := w.heap.size + 1 + 1) hC (hrow.keeps (hmW.keeps (fun _ _ _ f => f))) (Nat.zero_le _) hc hB (by omega) (by omega) (fun b hb => by omega) hT (by omega)
  obtain ⟨n, hn⟩ : ∃ n, n = B.length := ⟨_, rfl⟩
  rw [← hn] at hW HN
  rw [← hn]
  obtain ⟨q, hq⟩ : ∃ q, q = rcon B (0, false) := ⟨_, rfl⟩
  have hot : ocf B = if q.s.2 = false ∧ q.s.1 = n then (q.c, q.l, 0) else (.zero, [], 70) := by rw [hq, hn]; rfl
  rw [hot]
  rw [← hq] at HN
  obtain ⟨qc, qn, ql, at_, sh⟩ := q
  obtain ⟨eb, heb⟩ : ∃ eb, eb = (!sh && decide (at_ = n)) := ⟨_, rfl⟩
  have hif : (sh = false ∧ at_ = n) = (eb = true) := by
    rw [heb]
    cases sh <;> simp
  simp only [hif]
  obtain ⟨res, hres0⟩ : ∃ res, res = (if eb = true then (qc, ql, 0) else (Con.zero, [], 70) : Con × List Ten × Nat) := ⟨_, rfl⟩
  rw [← hres0]
  have HRES := Lib.hid hres0
  clear hres0
  have HN := Lib.hid HN
  have HM := Lib.hid (And.intro hmW (And.intro hX (And.intro hsz heb)))
  have HW := Lib.hid hW
  have hal := conAlloc_run
  have hzr := conZero_run
  clear hmW hX hC hW hT hrow hc hB hn hot hq hsz heb hif
  cases eb
  · go_enter Try.func36, Try.ntmps36
    go_wp2_with fail
    rw [← HW.out]
    refine HN.out.mono ?_
    rintro e w1 ⟨rfl, vt, l, k0, kl, k1, k2, kr, k3⟩
    have hX1 := k3.obj HM.out.2.1 (by rintro (f | f) <;> omega)
    have hE := ended_ok k1
    have hst : ∀ q, (conStore (.pointer (some ⟨w.heap.size, 0, none⟩)) (.agg zCon)).run Try.prog (w1.drewN q) = .ok () ((w1.drewN q).setRow w.heap.size zCon) := fun q => conStore_row (old := zCon) hX1 rfl rfl (con_one .zero none 0 0)
    have hres : ∀ q, ((w1.drewN q).setRow w.heap.size zCon).heap[w.heap.size]? = some (.cells zCon 38 (0, 0)) := fun q => setRow_heap (w1.drewN q) w.heap.size _ zCon _ _ hX1
    rw [← HM.out.2.2.2] at hE
    have HE := Lib.hid hE
    have H1 := Lib.hid (And.intro hres k3)
    clear k0 kl k1 k2 kr k3 hX1 hres hE
    go_wp2_with (first | (go_at_call 49; refine HE.out.mono ?_; rintro e w5 ⟨rfl, q5, rfl⟩; have hst5 := hst q5) | fail)
    refine bodyPost_ret (results_cell_tmp rfl _ _ w.heap.size 38 zCon (0, 0) _ rfl (H1.out.1 q5) Try.underlying38 rfl (by rw [conSize]; rfl)) rfl ?_
    rw [HRES.out, if_neg (by decide)]
    refine ⟨.slice none 0 0, [], rfl, rfl, ⟨⟨rfl, .inl ⟨rfl, rfl⟩⟩, by simp⟩, ?_⟩
    have m1 : Mod No w w1 := HM.out.1.trans' H1.out.2 (fun i hi f => by rcases f with f | f <;> omega)
    exact (m1.drewN q5).trans' (setRow_mod zCon) (fun i hi f => by omega)
  · go_enter Try.func36, Try.ntmps36
    go_wp2_with fail
    rw [← HW.out]
    refine HN.out.mono ?_
    rintro e w1 ⟨rfl, vt, l, k0, kl, k1, k2, kr, k3⟩
    obtain ⟨P, p, e1, _⟩ := own_rowAt kr.own
    have hX1 := k3.obj HM.out.2.1 (by rintro (f | f) <;> omega)
    have hE := ended_ok k1
    rw [← HM.out.2.2.2] at hE
    obtain ⟨TA, hTA⟩ : ∃ TA, TA = qc.cells vt := ⟨_, rfl⟩
    have hTs : TA.size = 29 := by rw [hTA]; rfl
    have hone : TA.all (·.oneCell') = true := by rw [hTA, e1]; exact con_one _ _ _ _
    have hT1 : w1.heap[w.heap.size + 1 + 1]? = some (.cells TA 38 (0, 0)) := by rw [hTA]; exact k2
    have hld : ∀ q, (conLoad (.pointer (some ⟨w.heap.size + 1 + 1, 0, none⟩))).run Try.prog (w1.drewN q) = .ok (.agg TA) (w1.drewN q) := fun q => conLoad_run (W := w1.drewN q) hT1 hTs
    have hst : ∀ q, (conStore (.pointer (some ⟨w.heap.size, 0, none⟩)) (.agg TA)).run Try.prog (w1.drewN q) = .ok () ((w1.drewN q).setRow w.heap.size TA) := fun q => conStore_row (old := zCon) hX1 rfl hTs hone
    have hres : ∀ q, ((w1.drewN q).setRow w.heap.size TA).heap[w.heap.size]? = some (.cells TA 38 (0, 0)) := fun q => setRow_heap (w1.drewN q) w.heap.size _ TA _ _ hX1
    have HE := Lib.hid hE
    have H1 := Lib.hid (And.intro hres (And.intro k3 (And.intro k0 (And.intro kr (And.intro hTA hTs)))))
    clear k0 kl k1 k2 kr k3 hX1 hres hE e1 hT1 hone hTA hTs
    go_wp2_with (first | (go_at_call 49; refine HE.out.mono ?_; rintro e w5 ⟨rfl, q5, rfl⟩; have hst5 := hst q5; have hld5 := hld q5) | fail)
    refine bodyPost_ret (results_cell_tmp rfl _ _ w.heap.size 38 TA (0, 0) _ rfl (H1.out.1 q5) Try.underlying38 rfl (by rw [conSize, H1.out.2.2.2.2.2])) rfl ?_
    have m1 : Mod No w w1 := HM.out.1.trans' H1.out.2.1 (fun i hi f => by rcases f with f | f <;> omega)
    have m2 : Mod (fun b => b = w.heap.size) w1 ((w1.drewN q5).setRow w.heap.size TA) := ((Mod.refl (fun b => b = w.heap.size) w1).drewN q5).trans (setRow_mod TA)
    have hs3 := HM.out.2.2.1
    have htv := H1.out.2.2.2.1.mod m2 (fun b hb _ f => by omega)
    rw [HRES.out, if_pos (by trivial)]
    refine ⟨vt, l, by rw [H1.out.2.2.2.2.1]; rfl, H1.out.2.2.1, ⟨own_base htv.own (by omega), fun x hx => (htv.rows x hx).imp (fun b hb => ⟨by have := hb.1; omega, hb.2⟩)⟩, ?_⟩
    exact m1.trans' m2 (fun i hi f => by omega)
end

end Go.Proofs.Ytpkieilmlnlpkaa
