/-
  RdC, RdQ, CfgL, CfgV, RdD, CfgW, CfgX, OpenC, RefA, RefB in one text (pack.py).
-/
import Derived.Test.YtpkieilmlnlpkaaGreatW4
import Derived.Deep.MidRow
import Derived.Great.BuildSlice
import Derived.Deep.Slices
import Derived.Lib.AppendStr
namespace Go.Proofs.YtpkieilmlnlpkaaGreat

section
attribute [local go_sem] stPair gtPair gtK8 gtM6 run_store_func
attribute [local go_sem high] neqPair eqK8 eqM6
open Go.RowKit
set_option linter.unusedVariables false
theorem splice_mid {pre X post : List Value} {o j : Nat} (ho : pre.length = o) (ys : List Value) (hj : j + ys.length ≤ X.length) : splice (pre ++ X ++ post) (o + j) ys = pre ++ splice X j ys ++ post := by
  unfold splice
  subst ho
  simp only [List.append_assoc, Nat.add_assoc]
  rw [List.take_length_add_append, List.drop_length_add_append, List.take_append_of_le_length (by omega), List.drop_append_of_le_length (by omega)]
  simp only [List.append_assoc]
theorem key_splice (t : Ten) (vp vs vt : Value) (xs : List UInt8) (h : xs.length = 8) : splice (t.cells vp vs vt).toList 2 (bcells xs) = (({ t with key := K8.of xs } : Ten).cells vp vs vt).toList := by
  match xs, h with
  | [a, b, c, d, e, f, g, i], _ => rfl
theorem vmac_splice (t : Ten) (vp vs vt : Value) (xs : List UInt8) (h : xs.length = 6) : splice (t.cells vp vs vt).toList 11 (bcells xs) = (({ t with vmac := M6.of xs } : Ten).cells vp vs vt).toList := by
  match xs, h with
  | [a, b, c, d, e, f], _ => rfl
theorem host_splice (t : Ten) (vp vs vt : Value) (xs : List UInt8) (h : xs.length = 6) : splice (t.cells vp vs vt).toList 17 (bcells xs) = (({ t with host := M6.of xs } : Ten).cells vp vs vt).toList := by
  match xs, h with
  | [a, b, c, d, e, f], _ => rfl
/-- What the call was given, and the walk's first world. -/
structure RG (w0 : World) (n C T o : Nat) (A : Option Addr) (c : Nat) (B : List UInt8) (S : Nat → Prop) (pre : List Value) : Prop where
  bx : Boxes w0 n (n + 1) C T o
  pr : w0.heap[n + 5]? = some (.cells #[.func (.func 62) #[] #[bxv n]] 120 (0, 0))
  rw6 : w0.heap[n + 6]? = some (.cells (tenRow n).toArray 1 (0, 0))
  C_lt : C < n
  T_lt : T < n
  TC : T ≠ C
  ho : pre.length = o
  row : RowAt S w0 A (bcells B)
  S_lt : ∀ b, S b → b < n
  SC : ¬ S C
  ST : ¬ S T
  hc : B.length ≤ c
  hB : B.length ≤ 100000000
/-- The state behind some steps. -/
structure TR (w0 : World) (n C T : Nat) (A : Option Addr) (c : Nat) (B : List UInt8) (pre post : List Value) (tt : TypeId) (r : RS) (vp vs vt : Value) (w : World) : Prop where
  rd : w.heap[C]? = some (rdObj A B.length c r.s.1 r.s.2)
  le : r.s.1 ≤ B.length
  ten : w.heap[T]? = some (.cells (pre ++ (r.t.cells vp vs vt).toList ++ post).toArray tt (0, 0))
  mod : Mod (fun b => b = C ∨ b = T ∨ n + 2 ≤ b ∧ b ≤ n + 4) w0 w
  hp : w.heap[n + 2]? = some (.cells #[.int .i64 (r.np : Int)] 3 (0, 0))
  hs : w.heap[n + 3]? = some (.cells #[.int .i64 (r.ns : Int)] 3 (0, 0))
  ht : w.heap[n + 4]? = some (.cells #[.int .i64 (r.nt : Int)] 3 (0, 0))
  cnt : r.np < 256 ∧ r.ns < 256 ∧ r.nt < 256
  rows : ∃ P p Q q R r', vp = .slice P r.t.pool.length p ∧ vs = .slice Q r.t.statics.length q ∧ vt = .slice R r.t.twices.length r' ∧ RowAt (fun b => n + 7 ≤ b) w P (numCells r.t.pool) ∧ RowAt (fun b => n + 7 ≤ b) w Q (prCells r.t.statics) ∧ RowAt (fun b => n + 7 ≤ b) w R (prCells r.t.twices)
section
variable {w0 : World} {n C T o : Nat} {A : Option Addr} {c : Nat} {B : List UInt8} {S : Nat → Prop} {pre post : List Value} {tt : TypeId} {r : RS} {vp vs vt : Value} {w : World}
theorem RG.gt (g : RG w0 n C T o A c B S pre) : n + 6 < w0.heap.size := lt_of_block g.rw6
theorem TR.keep (h : TR w0 n C T A c B pre post tt r vp vs vt w) (g : RG w0 n C T o A c B S pre) {b : Nat} {ob : Obj} (hb : w0.heap[b]? = some ob) (h1 : n ≤ b) (h2 : b < n + 2 ∨ n + 4 < b) : w.heap[b]? = some ob := by
  refine h.mod.obj hb ?_
  have := g.C_lt
  have := g.T_lt
  rintro (f | f | f) <;> omega
theorem TR.boxes (h : TR w0 n C T A c B pre post tt r vp vs vt w) (g : RG w0 n C T o A c B S pre) : Boxes w n (n + 1) C T o := ⟨h.keep g g.bx.c (by omega) (by omega), h.keep g g.bx.t (by omega) (by omega)⟩
theorem TR.row (h : TR w0 n C T A c B pre post tt r vp vs vt w) (g : RG w0 n C T o A c B S pre) : RowAt S w A (bcells B) := g.row.keeps (h.mod.keeps fun b hb hs f => by
  have := g.S_lt b hs
  rcases f with f | f | f
  · exact g.SC (by rw [← f]; exact hs)
  · exact g.ST (by rw [← f]; exact hs)
  · omega)
theorem TR.mod' (h : TR w0 n C T A c B pre post tt r vp vs vt w) {w' : World} (hm : Mod (fun b => b = C ∨ b = T) w w') : Mod (fun b => b = C ∨ b = T ∨ n + 2 ≤ b ∧ b ≤ n + 4) w0 w' :=
  h.mod.trans (hm.mono fun b f => by rcases f with f | f; exact .inl f; exact .inr (.inl f))
theorem TR.rows' (h : TR w0 n C T A c B pre post tt r vp vs vt w) (g : RG w0 n C T o A c B S pre) {w' : World} (hm : Mod (fun b => b < n + 7) w w') :
    ∃ P p Q q R r', vp = .slice P r.t.pool.length p ∧ vs = .slice Q r.t.statics.length q ∧ vt = .slice R r.t.twices.length r' ∧ RowAt (fun b => n + 7 ≤ b) w' P (numCells r.t.pool) ∧ RowAt (fun b => n + 7 ≤ b) w' Q (prCells r.t.statics) ∧ RowAt (fun b => n + 7 ≤ b) w' R (prCells r.t.twices) := by
  obtain ⟨P, p, Q, q, R, r', e1, e2, e3, r1, r2, r3⟩ := h.rows
  have hk : Keeps (fun b => n + 7 ≤ b) w w' := hm.keeps fun b hb hs f => by omega
  exact ⟨P, p, Q, q, R, r', e1, e2, e3, r1.keeps hk, r2.keeps hk, r3.keeps hk⟩
/-- A step that turns the coder and one field. -/
theorem TR.next (h : TR w0 n C T A c B pre post tt r vp vs vt w) (g : RG w0 n C T o A c B S pre) {w' : World} {t' : Ten} {s' : St} (hs : s'.1 ≤ B.length) (hrd : w'.heap[C]? = some (rdObj A B.length c s'.1 s'.2)) (ht : w'.heap[T]? = some (.cells (pre ++ (t'.cells vp vs vt).toList ++ post).toArray tt (0, 0)))
    (hm : Mod (fun b => b = C ∨ b = T) w w') (hl : t'.pool = r.t.pool ∧ t'.statics = r.t.statics ∧ t'.twices = r.t.twices) : TR w0 n C T A c B pre post tt { r with t := t', s := s' } vp vs vt w' := by
  have k1 := g.C_lt
  have k2 := g.T_lt
  have hob : ∀ b o, w.heap[b]? = some o → n ≤ b → w'.heap[b]? = some o := fun b o hb hn => hm.obj hb (by rintro (f | f) <;> omega)
  refine ⟨hrd, hs, ht, h.mod' hm, hob _ _ h.hp (by omega), hob _ _ h.hs (by omega), hob _ _ h.ht (by omega), h.cnt, ?_⟩
  simp only [hl.1, hl.2.1, hl.2.2]
  exact h.rows' g (hm.mono fun b f => by rcases f with f | f <;> omega)
theorem TR.cell (h : TR w0 n C T A c B pre post tt r vp vs vt w) (g : RG w0 n C T o A c B S pre) {j : Nat} {u : Value} (hj : j < 33) (hu : (r.t.cells vp vs vt).toList[j]? = some u) : w.cell? ⟨T, o + j, none⟩ = some u := by
  rw [blk_cell h.ten, List.getElem?_toArray, mid_get g.ho (by simpa [Ten.cells] using hj), hu]
theorem set_mid (hlen : pre.length = o) {X : List Value} {j : Nat} (hj : j < X.length) (v : Value) {t : TypeId} : (Obj.cells ((pre ++ X ++ post).toArray.setIfInBounds (o + j) v) t) = .cells (pre ++ X.set j v ++ post).toArray t := by
  rw [List.setIfInBounds_toArray, mid_set hlen hj]
theorem size_mid (hlen : pre.length = o) {X : List Value} (hX : X.length = 33) {j : Nat} (hj : j < 33) : o + j < (pre ++ X ++ post).toArray.size := by
  simp; omega
theorem ten_len (t : Ten) (vp vs vt : Value) : (t.cells vp vs vt).toList.length = 33 := rfl
/-- The state's invariant. -/
def RI (w0 : World) (n C T : Nat) (A : Option Addr) (c : Nat) (B : List UInt8) (pre post : List Value) (tt : TypeId) (s : St) (k : Nat) (w : World) : Prop := ∃ vp vs vt, TR w0 n C T A c B pre post tt (rk B s k) vp vs vt w
theorem own_rowAt {w : World} {base : Nat} {e : TypeId} {size : Nat} {v : Value} {m : Nat} {xs : List Value} (h : w.ownsRow base e size v m xs) : ∃ P p, v = .slice P m p ∧ RowAt (fun b => base ≤ b) w P xs := by
  obtain ⟨P, p, e, _, r⟩ := RowAt.of_owns h
  exact ⟨P, p, e, r⟩
end
section
variable {w0 : World} {n C T o : Nat} {A : Option Addr} {c : Nat} {B : List UInt8} {S : Nat → Prop} {pre post : List Value} {tt : TypeId} {s : St} {w : World}
theorem ri_0 (g : RG w0 n C T o A c B S pre) (h : RI w0 n C T A c B pre post tt s 0 w) :
    Calls Tryz.prog 64 #[bxv n, bxv (n + 1)] w fun e w' => e = .returned (.tuple #[]) ∧ RI w0 n C T A c B pre post tt s 1 w' := by
  obtain ⟨vp, vs, vt, h⟩ := h
  have hk : rk B s 1 = (fun r : RS => ({ r with t := { r.t with name := (rname B r.s).1 }, s := (rname B r.s).2 } : RS)) (rk B s 0) := rfl
  unfold RI
  rw [hk]
  have hn : (rk B s 0).t.name = [] := rfl
  generalize rk B s 0 = r at h hn ⊢
  clear hk
  refine (ten_name_rd B h.rd (h.row g) h.le g.hc g.hB g.SC (h.boxes g) r.t.name (by rw [hn]; decide) h.ten (by rw [List.getElem?_toArray]; exact mid_get (j := 0) g.ho (by rw [ten_len]; decide)) g.TC).mono fun e w' ⟨he, a1, a2, a3⟩ => ⟨he, vp, vs, vt, h.next g (rname_le B _ h.le) a1 ?_ a3 ⟨rfl, rfl, rfl⟩⟩
  rw [a2]
  exact congrArg some (set_mid (j := 0) g.ho (by rw [ten_len]; decide) _)
theorem ri_1 (g : RG w0 n C T o A c B S pre) (h : RI w0 n C T A c B pre post tt s 1 w) :
    Calls Tryz.prog 65 #[bxv n, bxv (n + 1)] w fun e w' => e = .returned (.tuple #[]) ∧ RI w0 n C T A c B pre post tt s 2 w' := by
  obtain ⟨vp, vs, vt, h⟩ := h
  have hk : rk B s 2 = (fun r : RS => ({ r with t := { r.t with vni := (rnum B 4 r.s).1 }, s := (rnum B 4 r.s).2 } : RS)) (rk B s 1) := rfl
  unfold RI
  rw [hk]
  generalize rk B s 1 = r at h ⊢
  clear hk
  refine (ten_vni_rd B h.rd (h.row g) h.le g.hc g.hB g.SC (h.boxes g) h.ten (size_mid g.ho (ten_len _ _ _ _) (by decide)) g.TC).mono fun e w' ⟨he, a1, a2, a3⟩ => ⟨he, vp, vs, vt, h.next g (rnum_le B 4 _ h.le) a1 ?_ a3 ⟨rfl, rfl, rfl⟩⟩
  rw [a2]
  exact congrArg some (set_mid (j := 1) g.ho (by rw [ten_len]; decide) _)
theorem ri_2 (g : RG w0 n C T o A c B S pre) (h : RI w0 n C T A c B pre post tt s 2 w) :
    Calls Tryz.prog 66 #[bxv n, bxv (n + 1)] w fun e w' => e = .returned (.tuple #[]) ∧ RI w0 n C T A c B pre post tt s 3 w' := by
  obtain ⟨vp, vs, vt, h⟩ := h
  have hk : rk B s 3 = (fun r : RS => ({ r with t := { r.t with key := K8.of (rtake B r.s 8).1 }, s := (rtake B r.s 8).2 } : RS)) (rk B s 2) := rfl
  unfold RI
  rw [hk]
  generalize rk B s 2 = r at h ⊢
  clear hk
  refine (ten_key_rd B h.rd (h.row g) h.le g.hc g.hB g.SC (h.boxes g) h.ten (by simp only [List.length_append, ten_len, g.ho]; omega) g.TC).mono fun e w' ⟨he, a1, a2, a3⟩ => ⟨he, vp, vs, vt, h.next g (rtake_le B _ 8 h.le) a1 ?_ a3 ⟨rfl, rfl, rfl⟩⟩
  rw [a2, splice_mid g.ho _ (by rw [bcells_length, rtake_length, ten_len]; decide), key_splice _ _ _ _ _ (rtake_length _ _ _)]
theorem ri_3 (g : RG w0 n C T o A c B S pre) (h : RI w0 n C T A c B pre post tt s 3 w) :
    Calls Tryz.prog 68 #[bxv n, bxv (n + 1)] w fun e w' => e = .returned (.tuple #[]) ∧ RI w0 n C T A c B pre post tt s 4 w' := by
  obtain ⟨vp, vs, vt, h⟩ := h
  have hk : rk B s 4 = (fun r : RS => ({ r with t := { r.t with vtep := (rnum B 4 r.s).1 }, s := (rnum B 4 r.s).2 } : RS)) (rk B s 3) := rfl
  unfold RI
  rw [hk]
  generalize rk B s 3 = r at h ⊢
  clear hk
  refine (ten_vtep_rd B h.rd (h.row g) h.le g.hc g.hB g.SC (h.boxes g) h.ten (size_mid g.ho (ten_len _ _ _ _) (by decide)) g.TC).mono fun e w' ⟨he, a1, a2, a3⟩ => ⟨he, vp, vs, vt, h.next g (rnum_le B 4 _ h.le) a1 ?_ a3 ⟨rfl, rfl, rfl⟩⟩
  rw [a2]
  exact congrArg some (set_mid (j := 10) g.ho (by rw [ten_len]; decide) _)
theorem ri_4 (g : RG w0 n C T o A c B S pre) (h : RI w0 n C T A c B pre post tt s 4 w) :
    Calls Tryz.prog 69 #[bxv n, bxv (n + 1)] w fun e w' => e = .returned (.tuple #[]) ∧ RI w0 n C T A c B pre post tt s 5 w' := by
  obtain ⟨vp, vs, vt, h⟩ := h
  have hk : rk B s 5 = (fun r : RS => ({ r with t := { r.t with vmac := M6.of (rtake B r.s 6).1 }, s := (rtake B r.s 6).2 } : RS)) (rk B s 4) := rfl
  unfold RI
  rw [hk]
  generalize rk B s 4 = r at h ⊢
  clear hk
  refine (ten_vmac_rd B h.rd (h.row g) h.le g.hc g.hB g.SC (h.boxes g) h.ten (by simp only [List.length_append, ten_len, g.ho]; omega) g.TC).mono fun e w' ⟨he, a1, a2, a3⟩ => ⟨he, vp, vs, vt, h.next g (rtake_le B _ 6 h.le) a1 ?_ a3 ⟨rfl, rfl, rfl⟩⟩
  rw [a2, splice_mid g.ho _ (by rw [bcells_length, rtake_length, ten_len]; decide), vmac_splice _ _ _ _ _ (rtake_length _ _ _)]
theorem ri_5 (g : RG w0 n C T o A c B S pre) (h : RI w0 n C T A c B pre post tt s 5 w) :
    Calls Tryz.prog 70 #[bxv n, bxv (n + 1)] w fun e w' => e = .returned (.tuple #[]) ∧ RI w0 n C T A c B pre post tt s 6 w' := by
  obtain ⟨vp, vs, vt, h⟩ := h
  have hk : rk B s 6 = (fun r : RS => ({ r with t := { r.t with host := M6.of (rtake B r.s 6).1 }, s := (rtake B r.s 6).2 } : RS)) (rk B s 5) := rfl
  unfold RI
  rw [hk]
  generalize rk B s 5 = r at h ⊢
  clear hk
  refine (ten_host_rd B h.rd (h.row g) h.le g.hc g.hB g.SC (h.boxes g) h.ten (by simp only [List.length_append, ten_len, g.ho]; omega) g.TC).mono fun e w' ⟨he, a1, a2, a3⟩ => ⟨he, vp, vs, vt, h.next g (rtake_le B _ 6 h.le) a1 ?_ a3 ⟨rfl, rfl, rfl⟩⟩
  rw [a2, splice_mid g.ho _ (by rw [bcells_length, rtake_length, ten_len]; decide), host_splice _ _ _ _ _ (rtake_length _ _ _)]
theorem ri_6 (g : RG w0 n C T o A c B S pre) (h : RI w0 n C T A c B pre post tt s 6 w) :
    Calls Tryz.prog 71 #[bxv n, bxv (n + 1)] w fun e w' => e = .returned (.tuple #[]) ∧ RI w0 n C T A c B pre post tt s 7 w' := by
  obtain ⟨vp, vs, vt, h⟩ := h
  have hk : rk B s 7 = (fun r : RS => ({ r with t := { r.t with lo := (rnum B 2 r.s).1 }, s := (rnum B 2 r.s).2 } : RS)) (rk B s 6) := rfl
  unfold RI
  rw [hk]
  generalize rk B s 6 = r at h ⊢
  clear hk
  refine (ten_lo_rd B h.rd (h.row g) h.le g.hc g.hB g.SC (h.boxes g) h.ten (size_mid g.ho (ten_len _ _ _ _) (by decide)) g.TC).mono fun e w' ⟨he, a1, a2, a3⟩ => ⟨he, vp, vs, vt, h.next g (rnum_le B 2 _ h.le) a1 ?_ a3 ⟨rfl, rfl, rfl⟩⟩
  rw [a2]
  exact congrArg some (set_mid (j := 24) g.ho (by rw [ten_len]; decide) _)
theorem ri_7 (g : RG w0 n C T o A c B S pre) (h : RI w0 n C T A c B pre post tt s 7 w) :
    Calls Tryz.prog 73 #[bxv n, bxv (n + 1)] w fun e w' => e = .returned (.tuple #[]) ∧ RI w0 n C T A c B pre post tt s 8 w' := by
  obtain ⟨vp, vs, vt, h⟩ := h
  have hk : rk B s 8 = (fun r : RS => ({ r with t := { r.t with hi := (rnum B 2 r.s).1 }, s := (rnum B 2 r.s).2 } : RS)) (rk B s 7) := rfl
  unfold RI
  rw [hk]
  generalize rk B s 7 = r at h ⊢
  clear hk
  refine (ten_hi_rd B h.rd (h.row g) h.le g.hc g.hB g.SC (h.boxes g) h.ten (size_mid g.ho (ten_len _ _ _ _) (by decide)) g.TC).mono fun e w' ⟨he, a1, a2, a3⟩ => ⟨he, vp, vs, vt, h.next g (rnum_le B 2 _ h.le) a1 ?_ a3 ⟨rfl, rfl, rfl⟩⟩
  rw [a2]
  exact congrArg some (set_mid (j := 25) g.ho (by rw [ten_len]; decide) _)
theorem ri_8 (g : RG w0 n C T o A c B S pre) (h : RI w0 n C T A c B pre post tt s 8 w) :
    Calls Tryz.prog 74 #[bxv n, bxv (n + 1)] w fun e w' => e = .returned (.tuple #[]) ∧ RI w0 n C T A c B pre post tt s 9 w' := by
  obtain ⟨vp, vs, vt, h⟩ := h
  have hk : rk B s 9 = (fun r : RS => ({ r with t := { r.t with filter := (rnum B 1 r.s).1 }, s := (rnum B 1 r.s).2 } : RS)) (rk B s 8) := rfl
  unfold RI
  rw [hk]
  generalize rk B s 8 = r at h ⊢
  clear hk
  refine (ten_filter_rd B h.rd (h.row g) h.le g.hc g.hB g.SC (h.boxes g) h.ten (size_mid g.ho (ten_len _ _ _ _) (by decide)) g.TC).mono fun e w' ⟨he, a1, a2, a3⟩ => ⟨he, vp, vs, vt, h.next g (rnum_le B 1 _ h.le) a1 ?_ a3 ⟨rfl, rfl, rfl⟩⟩
  rw [a2]
  exact congrArg some (set_mid (j := 26) g.ho (by rw [ten_len]; decide) _)
theorem ri_9 (g : RG w0 n C T o A c B S pre) (h : RI w0 n C T A c B pre post tt s 9 w) :
    Calls Tryz.prog 76 #[bxv n, bxv (n + 1)] w fun e w' => e = .returned (.tuple #[]) ∧ RI w0 n C T A c B pre post tt s 10 w' := by
  obtain ⟨vp, vs, vt, h⟩ := h
  have hk : rk B s 10 = (fun r : RS => ({ r with t := { r.t with sess := (rnum B 2 r.s).1 }, s := (rnum B 2 r.s).2 } : RS)) (rk B s 9) := rfl
  unfold RI
  rw [hk]
  generalize rk B s 9 = r at h ⊢
  clear hk
  refine (ten_sess_rd B h.rd (h.row g) h.le g.hc g.hB g.SC (h.boxes g) h.ten (size_mid g.ho (ten_len _ _ _ _) (by decide)) g.TC).mono fun e w' ⟨he, a1, a2, a3⟩ => ⟨he, vp, vs, vt, h.next g (rnum_le B 2 _ h.le) a1 ?_ a3 ⟨rfl, rfl, rfl⟩⟩
  rw [a2]
  exact congrArg some (set_mid (j := 29) g.ho (by rw [ten_len]; decide) _)
theorem ri_10 (g : RG w0 n C T o A c B S pre) (h : RI w0 n C T A c B pre post tt s 10 w) :
    Calls Tryz.prog 77 #[bxv n, bxv (n + 1)] w fun e w' => e = .returned (.tuple #[]) ∧ RI w0 n C T A c B pre post tt s 11 w' := by
  obtain ⟨vp, vs, vt, h⟩ := h
  have hk : rk B s 11 = (fun r : RS => ({ r with t := { r.t with queue := (rnum B 2 r.s).1 }, s := (rnum B 2 r.s).2 } : RS)) (rk B s 10) := rfl
  unfold RI
  rw [hk]
  generalize rk B s 10 = r at h ⊢
  clear hk
  refine (ten_queue_rd B h.rd (h.row g) h.le g.hc g.hB g.SC (h.boxes g) h.ten (size_mid g.ho (ten_len _ _ _ _) (by decide)) g.TC).mono fun e w' ⟨he, a1, a2, a3⟩ => ⟨he, vp, vs, vt, h.next g (rnum_le B 2 _ h.le) a1 ?_ a3 ⟨rfl, rfl, rfl⟩⟩
  rw [a2]
  exact congrArg some (set_mid (j := 30) g.ho (by rw [ten_len]; decide) _)
theorem ri_11 (g : RG w0 n C T o A c B S pre) (h : RI w0 n C T A c B pre post tt s 11 w) :
    Calls Tryz.prog 78 #[bxv n, bxv (n + 1)] w fun e w' => e = .returned (.tuple #[]) ∧ RI w0 n C T A c B pre post tt s 12 w' := by
  obtain ⟨vp, vs, vt, h⟩ := h
  have hk : rk B s 12 = (fun r : RS => ({ r with t := { r.t with rate := (rnum B 4 r.s).1 }, s := (rnum B 4 r.s).2 } : RS)) (rk B s 11) := rfl
  unfold RI
  rw [hk]
  generalize rk B s 11 = r at h ⊢
  clear hk
  refine (ten_rate_rd B h.rd (h.row g) h.le g.hc g.hB g.SC (h.boxes g) h.ten (size_mid g.ho (ten_len _ _ _ _) (by decide)) g.TC).mono fun e w' ⟨he, a1, a2, a3⟩ => ⟨he, vp, vs, vt, h.next g (rnum_le B 4 _ h.le) a1 ?_ a3 ⟨rfl, rfl, rfl⟩⟩
  rw [a2]
  exact congrArg some (set_mid (j := 31) g.ho (by rw [ten_len]; decide) _)
theorem ri_12 (g : RG w0 n C T o A c B S pre) (h : RI w0 n C T A c B pre post tt s 12 w) :
    Calls Tryz.prog 79 #[bxv n, bxv (n + 1)] w fun e w' => e = .returned (.tuple #[]) ∧ RI w0 n C T A c B pre post tt s 13 w' := by
  obtain ⟨vp, vs, vt, h⟩ := h
  have hk : rk B s 13 = (fun r : RS => ({ r with t := { r.t with burst := (rnum B 4 r.s).1 }, s := (rnum B 4 r.s).2 } : RS)) (rk B s 12) := rfl
  unfold RI
  rw [hk]
  generalize rk B s 12 = r at h ⊢
  clear hk
  refine (ten_burst_rd B h.rd (h.row g) h.le g.hc g.hB g.SC (h.boxes g) h.ten (size_mid g.ho (ten_len _ _ _ _) (by decide)) g.TC).mono fun e w' ⟨he, a1, a2, a3⟩ => ⟨he, vp, vs, vt, h.next g (rnum_le B 4 _ h.le) a1 ?_ a3 ⟨rfl, rfl, rfl⟩⟩
  rw [a2]
  exact congrArg some (set_mid (j := 32) g.ho (by rw [ten_len]; decide) _)
theorem ri_13 (g : RG w0 n C T o A c B S pre) (h : RI w0 n C T A c B pre post tt s 13 w) :
    Calls Tryz.prog 80 #[bxv n, bxv (n + 1), bxv (n + 2)] w fun e w' => e = .returned (.tuple #[]) ∧ RI w0 n C T A c B pre post tt s 14 w' := by
  obtain ⟨vp, vs, vt, h⟩ := h
  have hk : rk B s 14 = (fun r : RS => ({ r with np := (rnum B 1 r.s).1, s := (rnum B 1 r.s).2 } : RS)) (rk B s 13) := rfl
  unfold RI
  rw [hk]
  generalize rk B s 13 = r at h ⊢
  clear hk
  obtain ⟨P, p, Q, q, R, r', e1, e2, e3, r1, r2, r3⟩ := h.rows
  subst e1 e2 e3
  refine (ten_npool_rd B h.rd (h.row g) h.le g.hc g.hB g.SC (h.boxes g) (h.cell g (j := 23) (by decide) rfl) h.hp (by have := g.C_lt; omega)).mono fun e w' ⟨he, a1, a2, a3⟩ => ⟨he, .slice P r.t.pool.length p, .slice Q r.t.statics.length q, .slice R r.t.twices.length r', ?_⟩
  have k1 := g.C_lt
  have k2 := g.T_lt
  have hob : ∀ b o, w.heap[b]? = some o → b ≠ n + 2 → b ≠ C → w'.heap[b]? = some o := fun b o hb hn hc => a3.obj hb (by rintro (f | f) <;> omega)
  refine ⟨a1, rnum_le B 1 _ h.le, hob _ _ h.ten (by omega) g.TC, h.mod.trans (a3.mono fun b f => by rcases f with f | f; exact .inl f; exact .inr (.inr (by omega))), a2, hob _ _ h.hs (by omega) (by omega), hob _ _ h.ht (by omega) (by omega), ⟨rnum_lt B 1 _, h.cnt.2.1, h.cnt.2.2⟩, h.rows' g (a3.mono fun b f => by rcases f with f | f <;> omega)⟩
theorem ri_14 (g : RG w0 n C T o A c B S pre) (h : RI w0 n C T A c B pre post tt s 14 w) :
    Calls Tryz.prog 82 #[bxv n, bxv (n + 1), bxv (n + 3)] w fun e w' => e = .returned (.tuple #[]) ∧ RI w0 n C T A c B pre post tt s 15 w' := by
  obtain ⟨vp, vs, vt, h⟩ := h
  have hk : rk B s 15 = (fun r : RS => ({ r with ns := (rnum B 1 r.s).1, s := (rnum B 1 r.s).2 } : RS)) (rk B s 14) := rfl
  unfold RI
  rw [hk]
  generalize rk B s 14 = r at h ⊢
  clear hk
  obtain ⟨P, p, Q, q, R, r', e1, e2, e3, r1, r2, r3⟩ := h.rows
  subst e1 e2 e3
  refine (ten_nstatics_rd B h.rd (h.row g) h.le g.hc g.hB g.SC (h.boxes g) (h.cell g (j := 27) (by decide) rfl) h.hs (by have := g.C_lt; omega)).mono fun e w' ⟨he, a1, a2, a3⟩ => ⟨he, .slice P r.t.pool.length p, .slice Q r.t.statics.length q, .slice R r.t.twices.length r', ?_⟩
  have k1 := g.C_lt
  have k2 := g.T_lt
  have hob : ∀ b o, w.heap[b]? = some o → b ≠ n + 3 → b ≠ C → w'.heap[b]? = some o := fun b o hb hn hc => a3.obj hb (by rintro (f | f) <;> omega)
  refine ⟨a1, rnum_le B 1 _ h.le, hob _ _ h.ten (by omega) g.TC, h.mod.trans (a3.mono fun b f => by rcases f with f | f; exact .inl f; exact .inr (.inr (by omega))), hob _ _ h.hp (by omega) (by omega), a2, hob _ _ h.ht (by omega) (by omega), ⟨h.cnt.1, rnum_lt B 1 _, h.cnt.2.2⟩, h.rows' g (a3.mono fun b f => by rcases f with f | f <;> omega)⟩
theorem ri_15 (g : RG w0 n C T o A c B S pre) (h : RI w0 n C T A c B pre post tt s 15 w) :
    Calls Tryz.prog 83 #[bxv n, bxv (n + 1), bxv (n + 4)] w fun e w' => e = .returned (.tuple #[]) ∧ RI w0 n C T A c B pre post tt s 16 w' := by
  obtain ⟨vp, vs, vt, h⟩ := h
  have hk : rk B s 16 = (fun r : RS => ({ r with nt := (rnum B 1 r.s).1, s := (rnum B 1 r.s).2 } : RS)) (rk B s 15) := rfl
  unfold RI
  rw [hk]
  generalize rk B s 15 = r at h ⊢
  clear hk
  obtain ⟨P, p, Q, q, R, r', e1, e2, e3, r1, r2, r3⟩ := h.rows
  subst e1 e2 e3
  refine (ten_ntwices_rd B h.rd (h.row g) h.le g.hc g.hB g.SC (h.boxes g) (h.cell g (j := 28) (by decide) rfl) h.ht (by have := g.C_lt; omega)).mono fun e w' ⟨he, a1, a2, a3⟩ => ⟨he, .slice P r.t.pool.length p, .slice Q r.t.statics.length q, .slice R r.t.twices.length r', ?_⟩
  have k1 := g.C_lt
  have k2 := g.T_lt
  have hob : ∀ b o, w.heap[b]? = some o → b ≠ n + 4 → b ≠ C → w'.heap[b]? = some o := fun b o hb hn hc => a3.obj hb (by rintro (f | f) <;> omega)
  refine ⟨a1, rnum_le B 1 _ h.le, hob _ _ h.ten (by omega) g.TC, h.mod.trans (a3.mono fun b f => by rcases f with f | f; exact .inl f; exact .inr (.inr (by omega))), hob _ _ h.hp (by omega) (by omega), hob _ _ h.hs (by omega) (by omega), a2, ⟨h.cnt.1, h.cnt.2.1, rnum_lt B 1 _⟩, h.rows' g (a3.mono fun b f => by rcases f with f | f <;> omega)⟩
theorem ri_16 (g : RG w0 n C T o A c B S pre) (h : RI w0 n C T A c B pre post tt s 16 w) :
    Calls Tryz.prog 84 #[bxv n, bxv (n + 2), bxv (n + 1)] w fun e w' => e = .returned (.tuple #[]) ∧ RI w0 n C T A c B pre post tt s 17 w' := by
  obtain ⟨vp, vs, vt, h⟩ := h
  have hk : rk B s 17 = (fun r : RS => ({ r with t := { r.t with pool := (rmany (rnum B 4) r.np r.s).1 }, s := (rmany (rnum B 4) r.np r.s).2 } : RS)) (rk B s 16) := rfl
  unfold RI
  rw [hk]
  generalize rk B s 16 = r at h ⊢
  clear hk
  have k1 := g.C_lt
  have k2 := g.T_lt
  have hsz : n + 6 < w.heap.size := Nat.lt_of_lt_of_le g.gt h.mod.size
  refine (ten_lpool_rd B h.rd (h.row g) h.le g.hc g.hB g.SC g.ST (h.boxes g) (by omega) (by omega) (by have := h.cnt; omega) (fun b hb => by have := g.S_lt b hb; omega) h.hp h.ten (size_mid g.ho (ten_len _ _ _ _) (by decide)) g.TC).mono fun e w' ⟨he, a1, ⟨v, a2, a4⟩, a3⟩ => ⟨he, v, vs, vt, ?_⟩
  obtain ⟨P', p', e', r0'⟩ := own_rowAt a4
  have r1' := r0'.mono (S' := fun b => n + 7 ≤ b) (fun b _ hb => by omega)
  obtain ⟨P, p, Q, q, R, r', e1, e2, e3, r1, r2, r3⟩ := h.rows' g (a3.mono (G := fun b => b < n + 7) fun b f => by rcases f with f | f <;> omega)
  have hob : ∀ b o, w.heap[b]? = some o → n ≤ b → w'.heap[b]? = some o := fun b o hb hn => a3.obj hb (by rintro (f | f) <;> omega)
  refine ⟨a1, rmany_le (rnum_le B 4) _ _ h.le, ?_, h.mod' a3, hob _ _ h.hp (by omega), hob _ _ h.hs (by omega), hob _ _ h.ht (by omega), h.cnt, ⟨P', p', Q, q, R, r', e', e2, e3, r1', r2, r3⟩⟩
  rw [a2]
  exact congrArg some (set_mid (j := 23) g.ho (by rw [ten_len]; decide) _)
theorem ri_17 (g : RG w0 n C T o A c B S pre) (h : RI w0 n C T A c B pre post tt s 17 w) :
    Calls Tryz.prog 87 #[bxv n, bxv (n + 3), bxv (n + 1), bxv (n + 5)] w fun e w' => e = .returned (.tuple #[]) ∧ RI w0 n C T A c B pre post tt s 18 w' := by
  obtain ⟨vp, vs, vt, h⟩ := h
  have hk : rk B s 18 = (fun r : RS => ({ r with t := { r.t with statics := (rmany (rpr B) r.ns r.s).1 }, s := (rmany (rpr B) r.ns r.s).2 } : RS)) (rk B s 17) := rfl
  unfold RI
  rw [hk]
  generalize rk B s 17 = r at h ⊢
  clear hk
  have k1 := g.C_lt
  have k2 := g.T_lt
  have hsz : n + 6 < w.heap.size := Nat.lt_of_lt_of_le g.gt h.mod.size
  refine (ten_lstatics_rd B h.rd (h.row g) h.le g.hc g.hB g.SC g.ST (h.boxes g) (by omega) (by omega) (by have := h.cnt; omega) (fun b hb => by have := g.S_lt b hb; omega) h.hs (h.keep g g.pr (by omega) (by omega)) h.ten (size_mid g.ho (ten_len _ _ _ _) (by decide)) g.TC).mono fun e w' ⟨he, a1, ⟨v, a2, a4⟩, a3⟩ => ⟨he, vp, v, vt, ?_⟩
  obtain ⟨P', p', e', r0'⟩ := own_rowAt a4
  have r1' := r0'.mono (S' := fun b => n + 7 ≤ b) (fun b _ hb => by omega)
  obtain ⟨P, p, Q, q, R, r', e1, e2, e3, r1, r2, r3⟩ := h.rows' g (a3.mono (G := fun b => b < n + 7) fun b f => by rcases f with f | f <;> omega)
  have hob : ∀ b o, w.heap[b]? = some o → n ≤ b → w'.heap[b]? = some o := fun b o hb hn => a3.obj hb (by rintro (f | f) <;> omega)
  refine ⟨a1, rmany_le (rpr_le B) _ _ h.le, ?_, h.mod' a3, hob _ _ h.hp (by omega), hob _ _ h.hs (by omega), hob _ _ h.ht (by omega), h.cnt, ⟨P, p, P', p', R, r', e1, e', e3, r1, r1', r3⟩⟩
  rw [a2]
  exact congrArg some (set_mid (j := 27) g.ho (by rw [ten_len]; decide) _)
theorem ri_18 (g : RG w0 n C T o A c B S pre) (h : RI w0 n C T A c B pre post tt s 18 w) :
    Calls Tryz.prog 89 #[bxv n, bxv (n + 4), bxv (n + 1), bxv (n + 5)] w fun e w' => e = .returned (.tuple #[]) ∧ RI w0 n C T A c B pre post tt s 19 w' := by
  obtain ⟨vp, vs, vt, h⟩ := h
  have hk : rk B s 19 = (fun r : RS => ({ r with t := { r.t with twices := (rmany (rpr B) r.nt r.s).1 }, s := (rmany (rpr B) r.nt r.s).2 } : RS)) (rk B s 18) := rfl
  unfold RI
  rw [hk]
  generalize rk B s 18 = r at h ⊢
  clear hk
  have k1 := g.C_lt
  have k2 := g.T_lt
  have hsz : n + 6 < w.heap.size := Nat.lt_of_lt_of_le g.gt h.mod.size
  refine (ten_ltwices_rd B h.rd (h.row g) h.le g.hc g.hB g.SC g.ST (h.boxes g) (by omega) (by omega) (by have := h.cnt; omega) (fun b hb => by have := g.S_lt b hb; omega) h.ht (h.keep g g.pr (by omega) (by omega)) h.ten (size_mid g.ho (ten_len _ _ _ _) (by decide)) g.TC).mono fun e w' ⟨he, a1, ⟨v, a2, a4⟩, a3⟩ => ⟨he, vp, vs, v, ?_⟩
  obtain ⟨P', p', e', r0'⟩ := own_rowAt a4
  have r1' := r0'.mono (S' := fun b => n + 7 ≤ b) (fun b _ hb => by omega)
  obtain ⟨P, p, Q, q, R, r', e1, e2, e3, r1, r2, r3⟩ := h.rows' g (a3.mono (G := fun b => b < n + 7) fun b f => by rcases f with f | f <;> omega)
  have hob : ∀ b o, w.heap[b]? = some o → n ≤ b → w'.heap[b]? = some o := fun b o hb hn => a3.obj hb (by rintro (f | f) <;> omega)
  refine ⟨a1, rmany_le (rpr_le B) _ _ h.le, ?_, h.mod' a3, hob _ _ h.hp (by omega), hob _ _ h.hs (by omega), hob _ _ h.ht (by omega), h.cnt, ⟨P, p, Q, q, P', p', e1, e2, e', r1, r2, r1'⟩⟩
  rw [a2]
  exact congrArg some (set_mid (j := 28) g.ho (by rw [ten_len]; decide) _)
end
end

section
attribute [local go_sem] stPair gtPair gtK8 gtM6 run_store_func
attribute [local go_sem high] neqPair eqK8 eqM6
open Go.RowKit
set_option linter.unusedVariables false
set_option linter.unusedSimpArgs false
/-- Nothing is cut off. -/
structure Ten.Fits (t : Ten) : Prop where
  name : t.name.length ≤ 255
  pool : t.pool.length ≤ 255
  statics : t.statics.length ≤ 255
  twices : t.twices.length ≤ 255
  filter : 0 ≤ t.filter ∧ t.filter ≤ 255
  sess : 0 ≤ t.sess ∧ t.sess ≤ 65535
  queue : 0 ≤ t.queue ∧ t.queue ≤ 65535
/-- Where field k begins. -/
def pos (L : List UInt8) (t : Ten) (k : Nat) : St := ((L ++ ((wfields t).take k).flatten).length, false)
end

section
attribute [local go_sem] stPair gtPair gtK8 gtM6
attribute [local go_sem high] neqPair eqK8 eqM6
open Go.RowKit
set_option linter.unusedVariables false
theorem tenSize : (Tryz.prog.info? 31).map (·.size) = some 33 := by kernel_rfl
theorem load_ten {W : World} {b : Nat} {CA : Array Value} (h : W.heap[b]? = some (.cells CA 31 (0, 0))) (hc : CA.size = 33) :
    (Instr.loadAt 31 (.pointer (some ⟨b, 0, none⟩))).run Tryz.prog W = .ok (.agg CA) W := by
  simp only [Instr.loadAt, Instr.sureAddr, Sem.run_bind, Sem.run_pure, Result.andThen_ok]
  exact run_loadVar_row W b _ _ CA (0, 0) _ h Tryz.underlying31 rfl (by rw [tenSize, hc])
/-- A tenant loaded: under a name of its own, which the walk does not lay open. -/
def tenLoad (v : Value) : Sem Value := Instr.loadAt 31 v
theorem load_fold (v : Value) : Instr.loadAt 31 v = tenLoad v := rfl
attribute [local go_sem ↓] load_fold
theorem tenLoad_run {W : World} {b : Nat} {CA : Array Value} (h : W.heap[b]? = some (.cells CA 31 (0, 0))) (hc : CA.size = 33) : (tenLoad (.pointer (some ⟨b, 0, none⟩))).run Tryz.prog W = .ok (.agg CA) W := load_ten h hc
end

section
attribute [local go_sem] stPair gtPair gtK8 gtM6 run_store_func
attribute [local go_sem high] neqPair eqK8 eqM6
attribute [local go_sem ↓] load_fold
open Go.RowKit
set_option linter.unusedVariables false
/-- A tenant with its three lists' values. -/
structure TV where
  t : Ten
  vp : Value
  vs : Value
  vt : Value
def TV.cells (x : TV) : List Value := (x.t.cells x.vp x.vs x.vt).toList
theorem TV.len (x : TV) : x.cells.length = 33 := rfl
def tvCells (l : List TV) : List Value := l.flatMap TV.cells
def TV.Rows (S : Nat → Prop) (w : World) (x : TV) : Prop :=
  ∃ P p Q q R r, x.vp = .slice P x.t.pool.length p ∧ x.vs = .slice Q x.t.statics.length q ∧ x.vt = .slice R x.t.twices.length r ∧ RowAt S w P (numCells x.t.pool) ∧ RowAt S w Q (prCells x.t.statics) ∧ RowAt S w R (prCells x.t.twices)
theorem TV.Rows.imp {S S' : Nat → Prop} {w : World} {x : TV} (h : x.Rows S w) (hs : ∀ b, S b → S' b) : x.Rows S' w := by
  obtain ⟨P, p, Q, q, R, r, e1, e2, e3, r1, r2, r3⟩ := h
  exact ⟨P, p, Q, q, R, r, e1, e2, e3, r1.mono (fun b _ => hs b), r2.mono (fun b _ => hs b), r3.mono (fun b _ => hs b)⟩
theorem TV.Rows.lt {S S' : Nat → Prop} {w : World} {x : TV} (h : x.Rows S w) (hs : ∀ b, b < w.heap.size → S b → S' b) : x.Rows S' w := by
  obtain ⟨P, p, Q, q, R, r, e1, e2, e3, r1, r2, r3⟩ := h
  exact ⟨P, p, Q, q, R, r, e1, e2, e3, r1.mono hs, r2.mono hs, r3.mono hs⟩
theorem TV.Rows.keeps {S : Nat → Prop} {w w' : World} {x : TV} (h : x.Rows S w) (hk : Keeps S w w') : x.Rows S w' := by
  obtain ⟨P, p, Q, q, R, r, e1, e2, e3, r1, r2, r3⟩ := h
  exact ⟨P, p, Q, q, R, r, e1, e2, e3, r1.keeps hk, r2.keeps hk, r3.keeps hk⟩
def wtens (l : List TV) : List UInt8 := l.flatMap fun x => wten x.t
theorem wtens_len (l : List TV) : (wtens l).length ≤ l.length * 40000 := by
  induction l with
  | nil => simp [wtens]
  | cons x m ih => simp only [wtens, List.flatMap_cons, List.length_append, List.length_cons, Nat.succ_mul] at ih ⊢; have := wten_len x.t; omega
/-! a tenant's operations under names of their own, which the walk does not lay open -/
def tenStore (p v : Value) : Sem Unit := Instr.storeAt 31 p v
theorem store_fold (p v : Value) : Instr.storeAt 31 p v = tenStore p v := rfl
attribute [local go_sem ↓] store_fold
def tenAlloc (v : Value) : Sem Value := Instr.alloc 31 true v
theorem alloc_fold (v : Value) : Instr.alloc 31 true v = tenAlloc v := rfl
attribute [local go_sem ↓] alloc_fold
def zTen : Array Value := Ten.zero.cells (.slice none 0 0) (.slice none 0 0) (.slice none 0 0)
set_option maxRecDepth 100000 in
theorem tenAlloc_run (W : World) : (tenAlloc (.tuple #[])).run Tryz.prog W = .ok (.pointer (some ⟨W.heap.size, 0, none⟩)) (W.alloc (.cells zTen 31)) := by kernel_rfl
theorem ten_one (t : Ten) (P Q R : Option Addr) (a b c d e f : Nat) : (t.cells (.slice P a b) (.slice Q c d) (.slice R e f)).all (·.oneCell') = true := by
  simp [Ten.cells, Value.oneCell']
theorem TV.one {S : Nat → Prop} {w : World} {x : TV} (h : x.Rows S w) : x.cells.toArray.all (·.oneCell') = true := by
  obtain ⟨P, p, Q, q, R, r, e1, e2, e3, _⟩ := h
  simp only [TV.cells, e1, e2, e3, Array.toArray_toList]
  exact ten_one _ _ _ _ _ _ _ _ _ _
theorem setRow_alloc (W : World) (a b : Array Value) (t : TypeId) : (W.alloc (.cells a t)).setRow W.heap.size b = W.alloc (.cells b t) := by
  unfold World.setRow World.alloc
  congr 1
  apply Array.ext_getElem?
  intro i
  rw [Array.getElem?_modify, Array.getElem?_push, Array.getElem?_push]
  by_cases h : W.heap.size = i
  · subst h; simp
  · have h' : ¬ i = W.heap.size := fun e => h e.symm
    simp [h, h']
theorem tenStore_new (W : World) (CA : Array Value) (hc : CA.size = 33) (h1 : CA.all (·.oneCell') = true) : (tenStore (.pointer (some ⟨W.heap.size, 0, none⟩)) (.agg CA)).run Tryz.prog (W.alloc (.cells zTen 31)) = .ok () (W.alloc (.cells CA 31)) := by
  simp only [tenStore, Instr.storeAt, Instr.sureAddr, Sem.run_bind, Sem.run_pure, Result.andThen_ok]
  rw [← setRow_alloc W zTen CA]
  exact run_storeVar_row _ _ _ _ zTen CA (at10 W _) (by rw [tenSize, hc]) (by rw [hc]; rfl) h1
theorem tenLoad_mid (W : World) (b o : Nat) (cs : List Value) (hl : cs.length = 33) (h : ∀ j v, cs[j]? = some v → W.cell? ⟨b, o + j, none⟩ = some v) : (tenLoad (.pointer (some ⟨b, o, none⟩))).run Tryz.prog W = .ok (.agg cs.toArray) W :=
  run_loadAt_mid W b o _ cs _ h Tryz.underlying31 rfl (by rw [tenSize, hl])
set_option maxRecDepth 100000 in
theorem list_ten_wr {w : World} {C base : Nat} {L : List UInt8} {v : Value} (h : Wr w C base L v) (hb : base ≤ w.heap.size) (hCb : base ≤ C) (hL : L.length ≤ 60000000) {T o k p : Nat} {P : Option Addr} (l : List TV) (hk : k ≤ l.length) (hk8 : k ≤ 255)
    (hrow : RowAt (· < base) w P (tvCells l)) (hT : w.cell? ⟨T, o, none⟩ = some (.slice P l.length p)) (h1 : T ≠ C) (h2 : v.ownBlock ≠ some T)
    (hok : ∀ x ∈ l, x.t.Ok ∧ x.t.name.length ≤ 100000000 ∧ x.Rows (· < base) w) :
    Calls Tryz.prog 98 #[.pointer (some ⟨C, 0, none⟩), .int .i64 k, .pointer (some ⟨T, o, none⟩), .func (.func 51) #[.pointer (some ⟨C, 0, none⟩)] #[]] w fun e w' => e = .returned (.tuple #[]) ∧ ∃ v', Wr w' C base (L ++ wtens (l.take k)) v' ∧ WMod C v w v' w' := by
  have c1 := blk_cell h.blk 1
  simp at c1
  have hfl : ∀ j, j ≤ k → (wtens (l.take j)).length ≤ 255 * 40000 := by
    intro j hj
    have h1 := wtens_len (l.take j)
    have h2 : (l.take j).length * 40000 ≤ 255 * 40000 := Nat.mul_le_mul_right _ (by rw [List.length_take]; omega)
    omega
  have hkeep : ∀ v' w', WMod C v w v' w' → Keeps (· < base) w w' := fun v' w' hm => hm.mod.keeps (fun b hb hs f => by
    rcases f with f | f
    · omega
    · have := (h.lt f).1; omega)
  obtain ⟨n, hn⟩ : ∃ n, n = l.length := ⟨_, rfl⟩
  rw [← hn] at hT
  have H0 := Lib.hid (And.intro h (And.intro hrow (And.intro hT (And.intro hL (And.intro hfl hkeep)))))
  have HO := Lib.hid hok
  have HN := Lib.hid hn
  have hkn : k ≤ n := by omega
  have hal := tenAlloc_run
  clear h hrow hT hok hb hL hfl hn hk hkeep
  go_enter Tryz.func98, Tryz.ntmps98
  go_wp2
  go_loopw [41] (fun i wr => ∃ (j : Nat) (v' : Value), i = .int .i64 j ∧ j ≤ k ∧ Wr wr C base (L ++ wtens (l.take j)) v' ∧ WMod C v w v' wr) (fun i _ => k - (intOf i).toNat)
  case atStart => exact ⟨0, v, rfl, by omega, by simpa [wtens] using H0.out.1, .refl _ _ _⟩
  case round =>
    obtain ⟨j, v', rfl, hj, hw, hm⟩ := hrel
    have HR := Lib.hid (And.intro hw hm)
    by_cases hlt : j < k
    · obtain ⟨z, hz⟩ : ∃ z, l[j]? = some z := ⟨_, List.getElem?_eq_getElem (by have := HN.out; omega)⟩
      have hT' : wr.cell? ⟨T, o, none⟩ = some (.slice P n p) := hm.mod.cell H0.out.2.2.1 (by rintro (f | f); exact h1 f; exact h2 f)
      have hkp := H0.out.2.2.2.2.2 _ _ hm
      obtain ⟨b, o', rfl, _, hblt, hx0⟩ := (H0.out.2.1.keeps hkp).elem TV.cells 33 TV.len (by omega) hz
      obtain ⟨z1, z2, z3⟩ := HO.out z (List.mem_of_getElem? hz)
      have hld := tenLoad_mid wr b (o' + j * 33) z.cells rfl hx0
      have hst := fun W => tenStore_new W z.cells.toArray rfl (TV.one z3)
      have HZ := Lib.hid hz
      have p1 : (0:Int) ≤ j := by omega
      have p2 : (j:Int) < n := by omega
      have p3 : (j:Int) < k := by omega
      have hmA : Mod No wr (wr.alloc (.cells z.cells.toArray 31)) := (Mod.refl _ _).alloc _
      have hlC := lt_of_block hw.blk
      have hbw : base ≤ wr.heap.size := by omega
      have hc := tenant_wr (hw.ext hmA) (by simp; omega) (T := wr.heap.size) (o := 0) (pre := []) (post := []) (tt := 31) (t := z.t) (vp := z.vp) (vs := z.vs) (vt := z.vt) (by have := H0.out.2.2.2.1; have := H0.out.2.2.2.2.1 j hj; rw [List.length_append]; omega)
        (by simpa [TV.cells] using at10 wr (.cells z.cells.toArray 31)) rfl (by omega) hbw hCb (by decide) z1 z2 (TV.Rows.keeps (TV.Rows.keeps z3 hkp) (hmA.keeps (fun _ _ _ f => f)))
      have HC := Lib.hid hc
      clear hw hm hz hmA hc hkp hx0 z1 z2 z3
      go_wp2_with fail
      refine HC.out.mono ?_
      rintro e w5 ⟨rfl, v5, hw5, _, hm5, hr5⟩
      have H5 := Lib.hid (And.intro hw5 (And.intro hm5 hr5))
      clear hw5 hm5 hr5
      go_wp2
      have hm5 := H5.out.2.1
      have hr5 := H5.out.2.2
      have hwm : WMod C v' wr v5 w5 := ⟨((Mod.refl No wr).alloc (.cells z.cells.toArray 31)).mono (fun _ f => f.elim) |>.trans' hm5 (fun i hi f => by
        rcases f with f | f | f
        · exact .inl f
        · exact .inr f
        · omega), fun g hg => by
        rcases hr5 g hg with f | f
        · exact .inl f
        · right; simp at f; omega⟩
      refine ⟨⟨j + 1, v5, by go_num, by omega, ?_, HR.out.2.trans hwm⟩, by simp [intOf]; omega⟩
      obtain ⟨hlx, ex⟩ := List.getElem?_eq_some_iff.1 HZ.out
      rw [List.take_succ_eq_append_getElem hlx, ex, wtens, List.flatMap_append, ← List.append_assoc]
      simpa [wtens] using H5.out.1
    · have hk' : j = k := by omega
      subst hk'
      clear hw hm
      go_wp2
      first | go_end0 | (simp only [Exit.inBlock, Exit.then]; refine bodyPost_ret (results_none rfl _ _ _) rfl ?_) | refine bodyPost_ret (results_none rfl _ _ _) rfl ?_
      exact ⟨rfl, v', HR.out.1, HR.out.2⟩
end

section
attribute [local go_sem] stPair gtPair gtK8 gtM6 run_store_func
attribute [local go_sem high] neqPair eqK8 eqM6
attribute [local go_sem ↓] load_fold store_fold alloc_fold
open Go.RowKit
set_option linter.unusedVariables false
theorem ri_step {w0 : World} {n C T o : Nat} {A : Option Addr} {c : Nat} {B : List UInt8} {S : Nat → Prop} {pre post : List Value} {tt : TypeId} {s : St} (g : RG w0 n C T o A c B S pre) :
    ∀ k w1 f cc, tenFn[k]? = some f → (tenCap n)[k]? = some cc → RI w0 n C T A c B pre post tt s k w1 → w1.heap[n + 6]? = some (.cells (tenRow n).toArray 1 (0, 0)) ∧ Calls Tryz.prog f cc w1 fun e w' => e = .returned (.tuple #[]) ∧ RI w0 n C T A c B pre post tt s (k + 1) w' := by
  intro k w1 f c hf hc h
  have hk : k < 19 := (List.getElem?_eq_some_iff.1 hf).1
  refine ⟨?_, ?_⟩
  · obtain ⟨vp, vs, vt, h⟩ := h
    exact h.keep g g.rw6 (by omega) (by omega)
  have hor : k = 0 ∨ k = 1 ∨ k = 2 ∨ k = 3 ∨ k = 4 ∨ k = 5 ∨ k = 6 ∨ k = 7 ∨ k = 8 ∨ k = 9 ∨ k = 10 ∨ k = 11 ∨ k = 12 ∨ k = 13 ∨ k = 14 ∨ k = 15 ∨ k = 16 ∨ k = 17 ∨ k = 18 := by omega
  clear hk
  rcases hor with rfl | rfl | rfl | rfl | rfl | rfl | rfl | rfl | rfl | rfl | rfl | rfl | rfl | rfl | rfl | rfl | rfl | rfl | rfl
  · obtain rfl : 64 = f := Option.some.inj hf; obtain rfl : #[bxv n, bxv (n + 1)] = c := Option.some.inj hc; exact ri_0 g h
  · obtain rfl : 65 = f := Option.some.inj hf; obtain rfl : #[bxv n, bxv (n + 1)] = c := Option.some.inj hc; exact ri_1 g h
  · obtain rfl : 66 = f := Option.some.inj hf; obtain rfl : #[bxv n, bxv (n + 1)] = c := Option.some.inj hc; exact ri_2 g h
  · obtain rfl : 68 = f := Option.some.inj hf; obtain rfl : #[bxv n, bxv (n + 1)] = c := Option.some.inj hc; exact ri_3 g h
  · obtain rfl : 69 = f := Option.some.inj hf; obtain rfl : #[bxv n, bxv (n + 1)] = c := Option.some.inj hc; exact ri_4 g h
  · obtain rfl : 70 = f := Option.some.inj hf; obtain rfl : #[bxv n, bxv (n + 1)] = c := Option.some.inj hc; exact ri_5 g h
  · obtain rfl : 71 = f := Option.some.inj hf; obtain rfl : #[bxv n, bxv (n + 1)] = c := Option.some.inj hc; exact ri_6 g h
  · obtain rfl : 73 = f := Option.some.inj hf; obtain rfl : #[bxv n, bxv (n + 1)] = c := Option.some.inj hc; exact ri_7 g h
  · obtain rfl : 74 = f := Option.some.inj hf; obtain rfl : #[bxv n, bxv (n + 1)] = c := Option.some.inj hc; exact ri_8 g h
  · obtain rfl : 76 = f := Option.some.inj hf; obtain rfl : #[bxv n, bxv (n + 1)] = c := Option.some.inj hc; exact ri_9 g h
  · obtain rfl : 77 = f := Option.some.inj hf; obtain rfl : #[bxv n, bxv (n + 1)] = c := Option.some.inj hc; exact ri_10 g h
  · obtain rfl : 78 = f := Option.some.inj hf; obtain rfl : #[bxv n, bxv (n + 1)] = c := Option.some.inj hc; exact ri_11 g h
  · obtain rfl : 79 = f := Option.some.inj hf; obtain rfl : #[bxv n, bxv (n + 1)] = c := Option.some.inj hc; exact ri_12 g h
  · obtain rfl : 80 = f := Option.some.inj hf; obtain rfl : #[bxv n, bxv (n + 1), bxv (n + 2)] = c := Option.some.inj hc; exact ri_13 g h
  · obtain rfl : 82 = f := Option.some.inj hf; obtain rfl : #[bxv n, bxv (n + 1), bxv (n + 3)] = c := Option.some.inj hc; exact ri_14 g h
  · obtain rfl : 83 = f := Option.some.inj hf; obtain rfl : #[bxv n, bxv (n + 1), bxv (n + 4)] = c := Option.some.inj hc; exact ri_15 g h
  · obtain rfl : 84 = f := Option.some.inj hf; obtain rfl : #[bxv n, bxv (n + 2), bxv (n + 1)] = c := Option.some.inj hc; exact ri_16 g h
  · obtain rfl : 87 = f := Option.some.inj hf; obtain rfl : #[bxv n, bxv (n + 3), bxv (n + 1), bxv (n + 5)] = c := Option.some.inj hc; exact ri_17 g h
  · obtain rfl : 89 = f := Option.some.inj hf; obtain rfl : #[bxv n, bxv (n + 4), bxv (n + 1), bxv (n + 5)] = c := Option.some.inj hc; exact ri_18 g h
/-- A TENANT READ. -/
theorem tenant_rd {S : Nat → Prop} {w : World} {C : Nat} {A : Option Addr} {c : Nat} {s0 : St} (B : List UInt8) (hb : w.heap[C]? = some (rdObj A B.length c s0.1 s0.2)) (hrow : RowAt S w A (bcells B)) (hat : s0.1 ≤ B.length) (hc : B.length ≤ c) (hB : B.length ≤ 100000000) (hS : ¬ S C) {T o : Nat} (hST : ¬ S T) (hSl : ∀ b, S b → b < w.heap.size)
    {pre post : List Value} {tt : TypeId} (hT : w.heap[T]? = some (.cells (pre ++ zTen.toList ++ post).toArray tt (0, 0))) (ho : pre.length = o) (hTC : T ≠ C) :
    Calls Tryz.prog 51 #[.pointer (some ⟨C, 0, none⟩), .pointer (some ⟨T, o, none⟩)] w fun e w' => e = .returned (.tuple #[]) ∧ ∃ x : TV, x.t = (rten B s0).1 ∧ (rten B s0).2.1 ≤ B.length ∧ w'.heap[C]? = some (rdObj A B.length c (rten B s0).2.1 (rten B s0).2.2) ∧
      w'.heap[T]? = some (.cells (pre ++ x.cells ++ post).toArray tt (0, 0)) ∧ x.Rows (fun b => w.heap.size ≤ b) w' ∧ Mod (fun b => b = C ∨ b = T) w w' := by
  have hC := lt_of_block hb
  have hTl := lt_of_block hT
  refine tenant_walk (fun w' => ∃ x : TV, x.t = (rten B s0).1 ∧ (rten B s0).2.1 ≤ B.length ∧ w'.heap[C]? = some (rdObj A B.length c (rten B s0).2.1 (rten B s0).2.2) ∧
      w'.heap[T]? = some (.cells (pre ++ x.cells ++ post).toArray tt (0, 0)) ∧ x.Rows (fun b => w.heap.size ≤ b) w' ∧ Mod (fun b => b = C ∨ b = T) w w') (fun w0 hm hbx h2 h3 h4 h5 h6 => ?_)
  have g : RG w0 w.heap.size C T o A c B S pre :=
    { bx := hbx, pr := h5, rw6 := h6, C_lt := hC, T_lt := hTl, TC := hTC, ho := ho, row := hrow.keeps (hm.keeps (fun _ _ _ f => f)), S_lt := hSl, SC := hS, ST := hST, hc := hc, hB := hB }
  refine ⟨RI w0 w.heap.size C T A c B pre post tt s0, ?_, ri_step g, fun w' ⟨vp, vs, vt, h'⟩ => ?_⟩
  · exact ⟨.slice none 0 0, .slice none 0 0, .slice none 0 0, ⟨hm.obj hb id, hat, hm.obj hT id, Mod.refl _ _, h2, h3, h4, ⟨show (0:Nat) < 256 by decide, show (0:Nat) < 256 by decide, show (0:Nat) < 256 by decide⟩, none, 0, none, 0, none, 0, rfl, rfl, rfl, .nil _ _ _, .nil _ _ _, .nil _ _ _⟩⟩
  · have hsz := hm.size
    obtain ⟨P, p, Q, q, R, r', e1, e2, e3, r1, r2, r3⟩ := h'.rows
    refine ⟨⟨(rk B s0 19).t, vp, vs, vt⟩, rfl, h'.le, h'.rd, h'.ten, ⟨P, p, Q, q, R, r', e1, e2, e3, r1.mono (fun b _ hb => by omega), r2.mono (fun b _ hb => by omega), r3.mono (fun b _ hb => by omega)⟩, ?_⟩
    refine (hm.mono (fun _ f => f.elim)).trans' h'.mod (fun i hi f => ?_)
    rcases f with f | f | f
    · exact .inl f
    · exact .inr f
    · omega
/-! ### a list of tenants read -/
theorem rten_le (B : List UInt8) (s : St) (h : s.1 ≤ B.length) : (rten B s).2.1 ≤ B.length := by
  have a : ∀ r : RS, r.s.1 ≤ B.length → ∀ f ∈ rsteps B, (f r).s.1 ≤ B.length := by
    intro r hr f hf
    simp only [rsteps, List.mem_cons, List.mem_nil_iff, or_false] at hf
    rcases hf with rfl | rfl | rfl | rfl | rfl | rfl | rfl | rfl | rfl | rfl | rfl | rfl | rfl | rfl | rfl | rfl | rfl | rfl | rfl
    · exact rname_le B _ hr
    · exact rnum_le B 4 _ hr
    · exact rtake_le B _ 8 hr
    · exact rnum_le B 4 _ hr
    · exact rtake_le B _ 6 hr
    · exact rtake_le B _ 6 hr
    · exact rnum_le B 2 _ hr
    · exact rnum_le B 2 _ hr
    · exact rnum_le B 1 _ hr
    · exact rnum_le B 2 _ hr
    · exact rnum_le B 2 _ hr
    · exact rnum_le B 4 _ hr
    · exact rnum_le B 4 _ hr
    · exact rnum_le B 1 _ hr
    · exact rnum_le B 1 _ hr
    · exact rnum_le B 1 _ hr
    · exact rmany_le (rnum_le B 4) _ _ hr
    · exact rmany_le (rpr_le B) _ _ hr
    · exact rmany_le (rpr_le B) _ _ hr
  have b : ∀ (l : List (RS → RS)) (r : RS), (∀ f ∈ l, f ∈ rsteps B) → r.s.1 ≤ B.length → (l.foldl (fun r f => f r) r).s.1 ≤ B.length := by
    intro l
    induction l with
    | nil => intro r _ hr; exact hr
    | cons f l ih => intro r hl hr; exact ih (f r) (fun g hg => hl g (by simp [hg])) (a r hr f (hl f (by simp)))
  exact b _ _ (fun f hf => List.mem_of_mem_take hf) h
theorem infoTen : (Tryz.prog.info? 31).map (fun i => (i.zero, i.size, i.bytes)) = some (some (.agg zTen), 33, 160) := by kernel_rfl
theorem list33' {α : Type} : ∀ (l : List α), l.length = 33 → ∃ c0 c1 c2 c3 c4 c5 c6 c7 c8 c9 c10 c11 c12 c13 c14 c15 c16 c17 c18 c19 c20 c21 c22 c23 c24 c25 c26 c27 c28 c29 c30 c31 c32, l = [c0, c1, c2, c3, c4, c5, c6, c7, c8, c9, c10, c11, c12, c13, c14, c15, c16, c17, c18, c19, c20, c21, c22, c23, c24, c25, c26, c27, c28, c29, c30, c31, c32]
  | c0 :: c1 :: c2 :: c3 :: c4 :: c5 :: c6 :: c7 :: c8 :: c9 :: c10 :: c11 :: c12 :: c13 :: c14 :: c15 :: c16 :: c17 :: c18 :: c19 :: c20 :: c21 :: c22 :: c23 :: c24 :: c25 :: c26 :: c27 :: c28 :: c29 :: c30 :: c31 :: c32 :: [], _ => ⟨c0, c1, c2, c3, c4, c5, c6, c7, c8, c9, c10, c11, c12, c13, c14, c15, c16, c17, c18, c19, c20, c21, c22, c23, c24, c25, c26, c27, c28, c29, c30, c31, c32, rfl⟩
set_option maxRecDepth 100000 in
theorem ten_build (CA : Array Value) (h : CA.size = 33) : ∀ W, (Instr.buildSlice 34 1 #[(0, .agg CA)]).run Tryz.prog W = .ok (.slice (some ⟨W.heap.size, 0, none⟩) 1 1) (W.alloc (.cells CA 31)) := by
  intro W
  obtain ⟨ie, hie, hz0, hz1, hz2⟩ := info_parts infoTen
  refine Go.run_buildSlice W _ 31 1 _ CA ie _ Tryz.underlying34 hie hz0 (by rw [hz1]; decide) (by rw [hz1]; decide) ?_
  rw [hz1]
  obtain ⟨l⟩ := CA
  obtain ⟨c0, c1, c2, c3, c4, c5, c6, c7, c8, c9, c10, c11, c12, c13, c14, c15, c16, c17, c18, c19, c20, c21, c22, c23, c24, c25, c26, c27, c28, c29, c30, c31, c32, rfl⟩ := list33' l (by simpa using h)
  kernel_rfl
end

section
attribute [local go_sem] stPair gtPair gtK8 gtM6 run_store_func
attribute [local go_sem high] neqPair eqK8 eqM6
attribute [local go_sem ↓] load_fold store_fold alloc_fold
open Go.RowKit
set_option linter.unusedVariables false
set_option maxRecDepth 100000 in
set_option maxHeartbeats 2000000 in
theorem con_list_wr {w : World} {C base : Nat} {L : List UInt8} {v : Value} {bc bt bp T o k p : Nat} {P : Option Addr} (h : Wr w C base L v) (hb : base ≤ w.heap.size) (hCb : base ≤ C) (hL : L.length ≤ 60000000) (hx : BoxesC w bc bt C T o)
    (l : List TV) (hk : k ≤ l.length) (hk8 : k ≤ 255) (hp : w.heap[bp]? = some (.cells #[.int .i64 (k : Int)] 3 (0, 0)))
    (hrow : RowAt (· < base) w P (tvCells l)) (hT : w.cell? ⟨T, o + 28, none⟩ = some (.slice P l.length p)) (h1 : T ≠ C) (h2 : v.ownBlock ≠ some T)
    (hok : ∀ x ∈ l, x.t.Ok ∧ x.t.name.length ≤ 100000000 ∧ x.Rows (· < base) w) :
    Calls Tryz.prog 97 #[.pointer (some ⟨bc, 0, none⟩), .pointer (some ⟨bp, 0, none⟩), .pointer (some ⟨bt, 0, none⟩)] w fun e w' => e = .returned (.tuple #[]) ∧ ∃ v', Wr w' C base (L ++ wtens (l.take k)) v' ∧ WMod C v w v' w' := by
  have hd : ∀ W, W = w.drew → Calls Tryz.prog 98 #[.pointer (some ⟨C, 0, none⟩), .int .i64 k, .pointer (some ⟨T, o + 28, none⟩), .func (.func 51) #[.pointer (some ⟨C, 0, none⟩)] #[]] W fun e w' => e = .returned (.tuple #[]) ∧ ∃ v', Wr w' C base (L ++ wtens (l.take k)) v' ∧ WMod C v w v' w' := by
    intro W hW
    subst hW
    have hkp : Keeps (· < base) w w.drew := Mod.keeps (Mod.drew (Mod.refl No w)) (fun _ _ _ f => f)
    exact (list_ten_wr (w := w.drew) (v := v) ⟨h.blk, h.own⟩ hb hCb hL (T := T) (o := o + 28) l hk hk8 (hrow.keeps hkp) hT h1 h2 (fun x hx => ⟨(hok x hx).1, (hok x hx).2.1, (hok x hx).2.2.keeps hkp⟩)).mono fun e w' ⟨he, v', a1, a2⟩ => ⟨he, v', a1, ⟨(Mod.refl _ w).drew.trans a2.mod, a2.row⟩⟩
  have c0 := blk_cell hx.c 0
  have c1 := blk_cell hx.t 0
  have c2 := blk_cell hp 0
  simp at c0 c1 c2
  have HD := Lib.hid hd
  clear h hb hCb hL hx hk hk8 hp hrow hT h1 h2 hok hd
  go_enter Tryz.func97, Tryz.ntmps97
  go_wp2_with fail
  go_region_law (first | (go_simp; go_at_call 98; refine (HD.out _ rfl).mono ?_; rintro e w1 ⟨rfl, v', hw1, hm1⟩; have HW := Lib.hid (And.intro hw1 hm1); clear hw1 hm1))
  all_goals
    go_wp2
    first | go_end0 | (simp only [Exit.inBlock, Exit.then]; refine bodyPost_ret (results_none rfl _ _ _) rfl ?_) | refine bodyPost_ret (results_none rfl _ _ _) rfl ?_
    exact ⟨rfl, v', HW.out.1, HW.out.2⟩
def conFn : List Nat := [90, 91, 92, 93, 94, 95, 96, 97]
def conCap (n : Nat) : List (Array Value) := List.replicate 6 #[bxv n, bxv (n + 1)] ++ [#[bxv n, bxv (n + 1), bxv (n + 2)], #[bxv n, bxv (n + 2), bxv (n + 1)]]
def conRow (n : Nat) : List Value := (conFn.zip (conCap n)).map fun x => .func (.func x.1) #[] x.2
theorem con_enters : ∀ f ∈ conFn, ∀ (a : Array Value) (W : World), (callFunc f a).run Tryz.prog W = .ok (.enter f a) W := by
  intro f hf a W
  simp only [conFn, List.mem_cons, List.mem_nil_iff, or_false] at hf
  rcases hf with rfl | rfl | rfl | rfl | rfl | rfl | rfl | rfl <;> go_simp
set_option maxRecDepth 100000 in
theorem config_walk {w : World} {C T o : Nat} (R : World → Prop)
    (H : ∀ w0, Mod No w w0 → BoxesC w0 w.heap.size (w.heap.size + 1) C T o → w0.heap[w.heap.size + 2]? = some (.cells #[.int .i64 0] 3 (0, 0)) → 
      w0.heap[w.heap.size + 3]? = some (.cells (conRow w.heap.size).toArray 1 (0, 0)) →
      ∃ Inv : Nat → World → Prop, Inv 0 w0 ∧ (∀ k w1 f c, conFn[k]? = some f → (conCap w.heap.size)[k]? = some c → Inv k w1 → w1.heap[w.heap.size + 3]? = some (.cells (conRow w.heap.size).toArray 1 (0, 0)) ∧ Calls Tryz.prog f c w1 fun e w' => e = .returned (.tuple #[]) ∧ Inv (k + 1) w') ∧ ∀ w', Inv 8 w' → R w') :
    Calls Tryz.prog 55 #[.pointer (some ⟨C, 0, none⟩), .pointer (some ⟨T, o, none⟩)] w fun e w' => e = .returned (.tuple #[]) ∧ R w' := by
  have HH := Lib.hid H
  clear H
  go_enter Tryz.func55, Tryz.ntmps55
  go_wp2
  refine grab_world fun w0 hw0 => ?_
  have hm0 : Mod No w w0 := by rw [hw0]; repeat (first | with_reducible exact Mod.refl _ _ | refine Mod.alloc ?_ _ | refine Mod.setCell ?_ (.inl (by simp; omega)) _)
  have k0 : w0.heap[w.heap.size]? = some (.cells #[.pointer (some ⟨C, 0, none⟩)] 100 (0, 0)) := by rw [hw0]; (repeat (first | (refine at_eq _ _ ?_; simp; done) | (refine (Below.heap_alloc _ _ _ ?_).trans ?_; (simp; try omega))))
  have k1 : w0.heap[w.heap.size + 1]? = some (.cells #[.pointer (some ⟨T, o, none⟩)] 108 (0, 0)) := by rw [hw0]; (repeat (first | (refine at_eq _ _ ?_; simp; done) | (refine (Below.heap_alloc _ _ _ ?_).trans ?_; (simp; try omega))))
  have k2 : w0.heap[w.heap.size + 2]? = some (.cells #[.int .i64 0] 3 (0, 0)) := by rw [hw0]; (repeat (first | (refine at_eq _ _ ?_; simp; done) | (refine (Below.heap_alloc _ _ _ ?_).trans ?_; (simp; try omega))))
  have k6 : w0.heap[w.heap.size + 3]? = some (.cells (conRow w.heap.size).toArray 1 (0, 0)) := by rw [hw0]; refine (at_eq _ _ (by simp)).trans ?_; simp [conRow, conFn, conCap, bxv, List.replicate]
  obtain ⟨Inv, h0, hstep, hend⟩ := HH.out w0 hm0 ⟨k0, k1⟩ k2 k6
  have HI := Lib.hid (And.intro h0 (And.intro hstep hend))
  clear HH h0 hstep hend k0 k1 k2 k6 hm0 hw0
  go_loopw [19] (fun i wr => ∃ k : Nat, i = .int .i64 k ∧ k ≤ 8 ∧ Inv k wr) (fun i _ => 8 - (intOf i).toNat)
  case atStart => exact ⟨0, rfl, by omega, HI.out.1⟩
  case round =>
    obtain ⟨k, rfl, hk, hinv⟩ := hrel
    have HV := Lib.hid hinv
    clear hinv
    by_cases hlt : k < 8
    · obtain ⟨f, hf⟩ : ∃ f, conFn[k]? = some f := ⟨_, List.getElem?_eq_getElem hlt⟩
      obtain ⟨c, hc⟩ : ∃ c, (conCap w.heap.size)[k]? = some c := ⟨_, List.getElem?_eq_getElem hlt⟩
      obtain ⟨hrow, hcall⟩ := HI.out.2.1 k _ f c hf hc HV.out
      have hcell : wr.cell? ⟨w.heap.size + 1 + 1 + 1, k, none⟩ = some (.func (.func f) #[] c) := by
        rw [show w.heap.size + 1 + 1 + 1 = w.heap.size + 3 from rfl, blk_cell hrow]
        simp [conRow, (List.getElem?_zip_eq_some (z := (f, c))).2 ⟨hf, hc⟩]
      have hen := con_enters f (List.mem_of_getElem? hf)
      have p1 : (0:Int) ≤ k := by omega
      have p2 : (k:Int) < 8 := by omega
      have HC := Lib.hid hcall
      clear hrow hcall hf hc
      go_wp2_with fail
      refine HC.out.mono ?_
      rintro e w2 ⟨rfl, hi⟩
      have HV2 := Lib.hid hi
      clear hi
      go_wp2
      exact ⟨⟨k + 1, by go_num, by omega, HV2.out⟩, by simp [intOf]; omega⟩
    · have hk' : k = 8 := by omega
      subst hk'
      go_wp2
      go_end0
      exact ⟨rfl, HI.out.2.2 _ HV.out⟩
/-- Settings as data, but for their tenants. -/
structure Con where
  ip : Nat
  mac : M6
  omac : M6
  nmac : M6
  key : K8
  drain : Nat
  deriving DecidableEq, Inhabited
def Con.cells (c : Con) (vt : Value) : Array Value :=
  #[.int .u32 (c.ip : Int), u8v c.mac.b0, u8v c.mac.b1, u8v c.mac.b2, u8v c.mac.b3, u8v c.mac.b4, u8v c.mac.b5,
    u8v c.omac.b0, u8v c.omac.b1, u8v c.omac.b2, u8v c.omac.b3, u8v c.omac.b4, u8v c.omac.b5,
    u8v c.nmac.b0, u8v c.nmac.b1, u8v c.nmac.b2, u8v c.nmac.b3, u8v c.nmac.b4, u8v c.nmac.b5,
    u8v c.key.b0, u8v c.key.b1, u8v c.key.b2, u8v c.key.b3, u8v c.key.b4, u8v c.key.b5, u8v c.key.b6, u8v c.key.b7, .int .u32 (c.drain : Int), vt]
/-- Settings' bytes, field by field. -/
def cfields (c : Con) (l : List TV) : List (List UInt8) := [be 4 c.ip, c.mac.l, c.omac.l, c.nmac.l, c.key.l, be 4 c.drain, be 1 (min l.length 255), wtens (l.take 255)]
def cpre (c : Con) (l : List TV) (k : Nat) : List UInt8 := ((cfields c l).take k).foldl (· ++ ·) []
def wcon (c : Con) (l : List TV) : List UInt8 := (cfields c l).flatten
theorem cpre_all (c : Con) (l : List TV) : cpre c l 8 = wcon c l := (foldl_app _ _).trans (List.nil_append _)
structure CW (w0 : World) (n C base T : Nat) (c : Con) (vt : Value) (nt : Nat) (X : List UInt8) (v : Value) (w : World) : Prop where
  wr : Wr w C base X v
  row : ∀ g, v.ownBlock = some g → w0.heap.size ≤ g
  con : w.heap[T]? = some (.cells (c.cells vt) 36 (0, 0))
  mod : Mod (fun b => b = C ∨ b = n + 2) w0 w
  hn : w.heap[n + 2]? = some (.cells #[.int .i64 (nt : Int)] 3 (0, 0))
structure CG (w0 : World) (n C base T : Nat) (c : Con) (vt : Value) (l : List TV) : Prop where
  bx : BoxesC w0 n (n + 1) C T 0
  rw3 : w0.heap[n + 3]? = some (.cells (conRow n).toArray 1 (0, 0))
  C_lt : C < n
  T_lt : T < n
  TC : T ≠ C
  base_le : base ≤ n
  C_ge : base ≤ C
  ip : c.ip < 4294967296
  drain : c.drain < 4294967296
  rows : ∃ P p, vt = .slice P l.length p ∧ RowAt (· < base) w0 P (tvCells l)
  tens : ∀ x ∈ l, x.t.Ok ∧ x.t.name.length ≤ 100000000 ∧ x.Rows (· < base) w0
section
variable {w0 : World} {n C base T : Nat} {c : Con} {vt : Value} {l : List TV} {nt : Nat} {X : List UInt8} {v : Value} {w : World}
theorem CW.keep (h : CW w0 n C base T c vt nt X v w) (g : CG w0 n C base T c vt l) {b : Nat} {ob : Obj} (hb : w0.heap[b]? = some ob) (h1 : n ≤ b) (h2 : b ≠ n + 2) : w.heap[b]? = some ob := by
  refine h.mod.obj hb ?_
  have := g.C_lt
  rintro (f | f) <;> omega
theorem CW.boxes (h : CW w0 n C base T c vt nt X v w) (g : CG w0 n C base T c vt l) : BoxesC w n (n + 1) C T 0 := ⟨h.keep g g.bx.c (by omega) (by omega), h.keep g g.bx.t (by omega) (by omega)⟩
theorem CW.keeps (h : CW w0 n C base T c vt nt X v w) (g : CG w0 n C base T c vt l) : Keeps (· < base) w0 w := h.mod.keeps fun b hb hs f => by
  have := g.C_ge
  have := g.base_le
  rcases f with f | f <;> omega
theorem CW.mod' (h : CW w0 n C base T c vt nt X v w) {w' : World} {E : Nat → Prop} (hm : Mod (fun b => b = C ∨ v.ownBlock = some b ∨ E b) w w') (hE : ∀ b, E b → b = n + 2) : Mod (fun b => b = C ∨ b = n + 2) w0 w' :=
  h.mod.trans' hm fun i hi f => by
    rcases f with f | f | f
    · exact .inl f
    · have := h.row i f; omega
    · exact .inr (hE i f)
theorem CW.row' (h : CW w0 n C base T c vt nt X v w) {v' : Value} (hr : ∀ g, v'.ownBlock = some g → v.ownBlock = some g ∨ w.heap.size ≤ g) : ∀ g, v'.ownBlock = some g → w0.heap.size ≤ g := by
  intro g hg
  rcases hr g hg with f | f
  · exact h.row g f
  · exact Nat.le_trans h.mod.size f
theorem CW.next (h : CW w0 n C base T c vt nt X v w) (g : CG w0 n C base T c vt l) {X' : List UInt8} {v' : Value} {w' : World} (hw : Wr w' C base X' v') (hm : WMod C v w v' w') : CW w0 n C base T c vt nt X' v' w' := by
  have k1 := g.C_lt
  exact ⟨hw, h.row' hm.row, hm.obj h.con g.TC (h.wr.ne h.con (by decide)), h.mod' (E := fun _ => False) (hm.mod.mono (fun i f => by rcases f with f | f; exact .inl f; exact .inr (.inl f))) (fun _ f => f.elim), hm.obj h.hn (by omega) (h.wr.ne h.hn (by decide))⟩
theorem CW.cell (h : CW w0 n C base T c vt nt X v w) {j : Nat} {u : Value} (hu : (c.cells vt)[j]? = some u) : w.cell? ⟨T, j, none⟩ = some u := by rw [blk_cell h.con, hu]
theorem CW.cell' (h : CW w0 n C base T c vt nt X v w) {j : Nat} {u : Value} (hu : (c.cells vt)[j]? = some u) : w.cell? ⟨T, 0 + j, none⟩ = some u := by rw [Nat.zero_add]; exact h.cell hu
theorem CW.neT (h : CW w0 n C base T c vt nt X v w) : v.ownBlock ≠ some T := h.wr.ne h.con (by decide)
def CI (w0 : World) (n C base T : Nat) (c : Con) (vt : Value) (l : List TV) (k : Nat) (w : World) : Prop := ∃ v, CW w0 n C base T c vt (if k ≤ 6 then 0 else min l.length 255) (cpre c l k) v w
theorem ci_0 (g : CG w0 n C base T c vt l) (hL : (cpre c l 0).length ≤ 60000000) (h : CI w0 n C base T c vt l 0 w) :
    Calls Tryz.prog 90 #[bxv n, bxv (n + 1)] w fun e w' => e = .returned (.tuple #[]) ∧ CI w0 n C base T c vt l 1 w' := by
  obtain ⟨v, h⟩ := h
  replace h : CW w0 n C base T c vt 0 (cpre c l 0) v w := h
  have hb : base ≤ w.heap.size := by have := g.base_le; have := lt_of_block g.rw3; have := h.mod.size; omega
  exact (con_ip_wr h.wr hb (by omega) (h.boxes g) (h.cell rfl) (wrap_u64 c.ip (Nat.lt_trans g.ip (by decide))) g.TC h.neT).mono fun e w' ⟨he, v', a1, a2⟩ => ⟨he, v', h.next g a1 a2⟩
theorem ci_1 (g : CG w0 n C base T c vt l) (hL : (cpre c l 1).length ≤ 60000000) (h : CI w0 n C base T c vt l 1 w) :
    Calls Tryz.prog 91 #[bxv n, bxv (n + 1)] w fun e w' => e = .returned (.tuple #[]) ∧ CI w0 n C base T c vt l 2 w' := by
  obtain ⟨v, h⟩ := h
  replace h : CW w0 n C base T c vt 0 (cpre c l 1) v w := h
  have hb : base ≤ w.heap.size := by have := g.base_le; have := lt_of_block g.rw3; have := h.mod.size; omega
  have hX : ∀ j u, (bcells c.mac.l)[j]? = some u → w.cell? ⟨T, 0 + 1 + j, none⟩ = some u := by
    intro j u hj
    have hj8 : j < 6 := (List.getElem?_eq_some_iff.1 hj).1
    match j, hj8, hj with
    | 0, _, hj => exact h.cell (j := 1) hj
    | 1, _, hj => exact h.cell (j := 2) hj
    | 2, _, hj => exact h.cell (j := 3) hj
    | 3, _, hj => exact h.cell (j := 4) hj
    | 4, _, hj => exact h.cell (j := 5) hj
    | 5, _, hj => exact h.cell (j := 6) hj
  exact (con_mac_wr h.wr hb (by omega) (h.boxes g) c.mac.l rfl hX).mono fun e w' ⟨he, v', a1, a2⟩ => ⟨he, v', h.next g a1 a2⟩
theorem ci_2 (g : CG w0 n C base T c vt l) (hL : (cpre c l 2).length ≤ 60000000) (h : CI w0 n C base T c vt l 2 w) :
    Calls Tryz.prog 92 #[bxv n, bxv (n + 1)] w fun e w' => e = .returned (.tuple #[]) ∧ CI w0 n C base T c vt l 3 w' := by
  obtain ⟨v, h⟩ := h
  replace h : CW w0 n C base T c vt 0 (cpre c l 2) v w := h
  have hb : base ≤ w.heap.size := by have := g.base_le; have := lt_of_block g.rw3; have := h.mod.size; omega
  have hX : ∀ j u, (bcells c.omac.l)[j]? = some u → w.cell? ⟨T, 0 + 7 + j, none⟩ = some u := by
    intro j u hj
    have hj8 : j < 6 := (List.getElem?_eq_some_iff.1 hj).1
    match j, hj8, hj with
    | 0, _, hj => exact h.cell (j := 7) hj
    | 1, _, hj => exact h.cell (j := 8) hj
    | 2, _, hj => exact h.cell (j := 9) hj
    | 3, _, hj => exact h.cell (j := 10) hj
    | 4, _, hj => exact h.cell (j := 11) hj
    | 5, _, hj => exact h.cell (j := 12) hj
  exact (con_omac_wr h.wr hb (by omega) (h.boxes g) c.omac.l rfl hX).mono fun e w' ⟨he, v', a1, a2⟩ => ⟨he, v', h.next g a1 a2⟩
theorem ci_3 (g : CG w0 n C base T c vt l) (hL : (cpre c l 3).length ≤ 60000000) (h : CI w0 n C base T c vt l 3 w) :
    Calls Tryz.prog 93 #[bxv n, bxv (n + 1)] w fun e w' => e = .returned (.tuple #[]) ∧ CI w0 n C base T c vt l 4 w' := by
  obtain ⟨v, h⟩ := h
  replace h : CW w0 n C base T c vt 0 (cpre c l 3) v w := h
  have hb : base ≤ w.heap.size := by have := g.base_le; have := lt_of_block g.rw3; have := h.mod.size; omega
  have hX : ∀ j u, (bcells c.nmac.l)[j]? = some u → w.cell? ⟨T, 0 + 13 + j, none⟩ = some u := by
    intro j u hj
    have hj8 : j < 6 := (List.getElem?_eq_some_iff.1 hj).1
    match j, hj8, hj with
    | 0, _, hj => exact h.cell (j := 13) hj
    | 1, _, hj => exact h.cell (j := 14) hj
    | 2, _, hj => exact h.cell (j := 15) hj
    | 3, _, hj => exact h.cell (j := 16) hj
    | 4, _, hj => exact h.cell (j := 17) hj
    | 5, _, hj => exact h.cell (j := 18) hj
  exact (con_nmac_wr h.wr hb (by omega) (h.boxes g) c.nmac.l rfl hX).mono fun e w' ⟨he, v', a1, a2⟩ => ⟨he, v', h.next g a1 a2⟩
theorem ci_4 (g : CG w0 n C base T c vt l) (hL : (cpre c l 4).length ≤ 60000000) (h : CI w0 n C base T c vt l 4 w) :
    Calls Tryz.prog 94 #[bxv n, bxv (n + 1)] w fun e w' => e = .returned (.tuple #[]) ∧ CI w0 n C base T c vt l 5 w' := by
  obtain ⟨v, h⟩ := h
  replace h : CW w0 n C base T c vt 0 (cpre c l 4) v w := h
  have hb : base ≤ w.heap.size := by have := g.base_le; have := lt_of_block g.rw3; have := h.mod.size; omega
  have hX : ∀ j u, (bcells c.key.l)[j]? = some u → w.cell? ⟨T, 0 + 19 + j, none⟩ = some u := by
    intro j u hj
    have hj8 : j < 8 := (List.getElem?_eq_some_iff.1 hj).1
    match j, hj8, hj with
    | 0, _, hj => exact h.cell (j := 19) hj
    | 1, _, hj => exact h.cell (j := 20) hj
    | 2, _, hj => exact h.cell (j := 21) hj
    | 3, _, hj => exact h.cell (j := 22) hj
    | 4, _, hj => exact h.cell (j := 23) hj
    | 5, _, hj => exact h.cell (j := 24) hj
    | 6, _, hj => exact h.cell (j := 25) hj
    | 7, _, hj => exact h.cell (j := 26) hj
  exact (con_key_wr h.wr hb (by omega) (h.boxes g) c.key.l rfl hX).mono fun e w' ⟨he, v', a1, a2⟩ => ⟨he, v', h.next g a1 a2⟩
theorem ci_5 (g : CG w0 n C base T c vt l) (hL : (cpre c l 5).length ≤ 60000000) (h : CI w0 n C base T c vt l 5 w) :
    Calls Tryz.prog 95 #[bxv n, bxv (n + 1)] w fun e w' => e = .returned (.tuple #[]) ∧ CI w0 n C base T c vt l 6 w' := by
  obtain ⟨v, h⟩ := h
  replace h : CW w0 n C base T c vt 0 (cpre c l 5) v w := h
  have hb : base ≤ w.heap.size := by have := g.base_le; have := lt_of_block g.rw3; have := h.mod.size; omega
  exact (con_drain_wr h.wr hb (by omega) (h.boxes g) (h.cell' (j := 27) rfl) (wrap_u64 c.drain (Nat.lt_trans g.drain (by decide))) g.TC h.neT).mono fun e w' ⟨he, v', a1, a2⟩ => ⟨he, v', h.next g a1 a2⟩
theorem ci_6 (g : CG w0 n C base T c vt l) (hL : (cpre c l 6).length ≤ 60000000) (h : CI w0 n C base T c vt l 6 w) :
    Calls Tryz.prog 96 #[bxv n, bxv (n + 1), bxv (n + 2)] w fun e w' => e = .returned (.tuple #[]) ∧ CI w0 n C base T c vt l 7 w' := by
  obtain ⟨v, h⟩ := h
  replace h : CW w0 n C base T c vt 0 (cpre c l 6) v w := h
  have hb : base ≤ w.heap.size := by have := g.base_le; have := lt_of_block g.rw3; have := h.mod.size; omega
  obtain ⟨P, p, e1, r1⟩ := g.rows
  subst e1
  refine (con_n_wr h.wr hb (by omega) (h.boxes g) (h.cell' (j := 28) rfl) h.hn (by have := g.C_lt; omega) (h.wr.ne h.hn (by decide))).mono fun e w' ⟨he, v', a1, a2, a3, a4⟩ => ⟨he, v', a1, h.row' a4, ?_, h.mod' (E := fun b => b = n + 2) a3 (fun b e => e), a2⟩
  exact a3.obj h.con (by have := g.C_lt; have := g.T_lt; rintro (f | f | f); exact g.TC f; exact h.neT f; omega)
theorem ci_7 (g : CG w0 n C base T c vt l) (hL : (cpre c l 7).length ≤ 60000000) (h : CI w0 n C base T c vt l 7 w) :
    Calls Tryz.prog 97 #[bxv n, bxv (n + 2), bxv (n + 1)] w fun e w' => e = .returned (.tuple #[]) ∧ CI w0 n C base T c vt l 8 w' := by
  obtain ⟨v, h⟩ := h
  replace h : CW w0 n C base T c vt (min l.length 255) (cpre c l 7) v w := h
  have hb : base ≤ w.heap.size := by have := g.base_le; have := lt_of_block g.rw3; have := h.mod.size; omega
  obtain ⟨P, p, e1, r1⟩ := g.rows
  have hk := h.keeps g
  subst e1
  have hx := con_list_wr h.wr hb g.C_ge (by omega) (h.boxes g) l (Nat.min_le_left _ 255) (Nat.min_le_right _ _) h.hn (r1.keeps hk) (h.cell' (j := 28) rfl) g.TC h.neT (fun x hx => ⟨(g.tens x hx).1, (g.tens x hx).2.1, (g.tens x hx).2.2.keeps hk⟩)
  rw [take_min] at hx
  exact hx.mono fun e w' ⟨he, v', a1, a2⟩ => ⟨he, v', h.next g a1 a2⟩
theorem cpre_len (c : Con) (l : List TV) (k : Nat) (hk : k ≤ 7) : (cpre c l k).length ≤ 1000 := by
  rw [cpre, foldl_app, List.nil_append]
  have h1 : (cfields c l).take k = ((cfields c l).take 7).take k := by rw [List.take_take, Nat.min_eq_left hk]
  rw [h1]
  have := flatten_len (((cfields c l).take 7).take k) 100 (fun x hx => by
    have hx := List.mem_of_mem_take hx
    have e : (cfields c l).take 7 = [be 4 c.ip, c.mac.l, c.omac.l, c.nmac.l, c.key.l, be 4 c.drain, be 1 (min l.length 255)] := rfl
    rw [e] at hx
    simp only [List.mem_cons, List.mem_nil_iff, or_false] at hx
    rcases hx with rfl | rfl | rfl | rfl | rfl | rfl | rfl <;> simp only [be_length, K8.l, M6.l, List.length_cons, List.length_nil] <;> omega)
  have h2 : (((cfields c l).take 7).take k).length ≤ k := List.length_take_le _ _
  have h3 : (((cfields c l).take 7).take k).length * 100 ≤ 7 * 100 := Nat.mul_le_mul_right _ (by omega)
  omega
theorem ci_step (g : CG w0 n C base T c vt l) : ∀ k w1 f cc, conFn[k]? = some f → (conCap n)[k]? = some cc → CI w0 n C base T c vt l k w1 → w1.heap[n + 3]? = some (.cells (conRow n).toArray 1 (0, 0)) ∧ Calls Tryz.prog f cc w1 fun e w' => e = .returned (.tuple #[]) ∧ CI w0 n C base T c vt l (k + 1) w' := by
  intro k w1 f cc hf hc h
  have hk : k < 8 := (List.getElem?_eq_some_iff.1 hf).1
  have hl : (cpre c l k).length ≤ 60000000 := Nat.le_trans (cpre_len c l k (by omega)) (by omega)
  have hor : k = 0 ∨ k = 1 ∨ k = 2 ∨ k = 3 ∨ k = 4 ∨ k = 5 ∨ k = 6 ∨ k = 7 := by omega
  refine ⟨?_, ?_⟩
  · obtain ⟨v, h⟩ := h
    exact h.keep g g.rw3 (by omega) (by omega)
  clear hk
  rcases hor with rfl | rfl | rfl | rfl | rfl | rfl | rfl | rfl
  · obtain rfl : 90 = f := Option.some.inj hf; obtain rfl : #[bxv n, bxv (n + 1)] = cc := Option.some.inj hc; exact ci_0 g hl h
  · obtain rfl : 91 = f := Option.some.inj hf; obtain rfl : #[bxv n, bxv (n + 1)] = cc := Option.some.inj hc; exact ci_1 g hl h
  · obtain rfl : 92 = f := Option.some.inj hf; obtain rfl : #[bxv n, bxv (n + 1)] = cc := Option.some.inj hc; exact ci_2 g hl h
  · obtain rfl : 93 = f := Option.some.inj hf; obtain rfl : #[bxv n, bxv (n + 1)] = cc := Option.some.inj hc; exact ci_3 g hl h
  · obtain rfl : 94 = f := Option.some.inj hf; obtain rfl : #[bxv n, bxv (n + 1)] = cc := Option.some.inj hc; exact ci_4 g hl h
  · obtain rfl : 95 = f := Option.some.inj hf; obtain rfl : #[bxv n, bxv (n + 1)] = cc := Option.some.inj hc; exact ci_5 g hl h
  · obtain rfl : 96 = f := Option.some.inj hf; obtain rfl : #[bxv n, bxv (n + 1), bxv (n + 2)] = cc := Option.some.inj hc; exact ci_6 g hl h
  · obtain rfl : 97 = f := Option.some.inj hf; obtain rfl : #[bxv n, bxv (n + 2), bxv (n + 1)] = cc := Option.some.inj hc; exact ci_7 g hl h
/-- SETTINGS WRITTEN, by a coder that has none yet. -/
theorem config_wr {w : World} (h : Wr w C base [] v) (hv : v.ownBlock = none) (hb : base ≤ w.heap.size) (hT : w.heap[T]? = some (.cells (c.cells vt) 36 (0, 0))) (hTC : T ≠ C) (hCb : base ≤ C) (hip : c.ip < 4294967296) (hdr : c.drain < 4294967296)
    (hrows : ∃ P p, vt = .slice P l.length p ∧ RowAt (· < base) w P (tvCells l)) (hok : ∀ x ∈ l, x.t.Ok ∧ x.t.name.length ≤ 100000000 ∧ x.Rows (· < base) w) :
    Calls Tryz.prog 55 #[.pointer (some ⟨C, 0, none⟩), .pointer (some ⟨T, 0, none⟩)] w fun e w' => e = .returned (.tuple #[]) ∧ ∃ v', Wr w' C base (wcon c l) v' ∧ Mod (fun b => b = C) w w' ∧ (∀ g, v'.ownBlock = some g → w.heap.size ≤ g) := by
  have hC := lt_of_block h.blk
  have hTl := lt_of_block hT
  refine config_walk (fun w' => ∃ v', Wr w' C base (wcon c l) v' ∧ Mod (fun b => b = C) w w' ∧ (∀ g, v'.ownBlock = some g → w.heap.size ≤ g)) (fun w0 hm hbx h2 h6 => ?_)
  have hk : Keeps (· < base) w w0 := hm.keeps (fun _ _ _ f => f)
  have g : CG w0 w.heap.size C base T c vt l :=
    { bx := hbx, rw3 := h6, C_lt := hC, T_lt := hTl, TC := hTC, base_le := hb, C_ge := hCb, ip := hip, drain := hdr,
      rows := by obtain ⟨P, p, e1, r1⟩ := hrows; exact ⟨P, p, e1, r1.keeps hk⟩, tens := fun x hx => ⟨(hok x hx).1, (hok x hx).2.1, (hok x hx).2.2.keeps hk⟩ }
  refine ⟨CI w0 w.heap.size C base T c vt l, ?_, ci_step g, fun w' ⟨v', h'⟩ => ?_⟩
  · exact ⟨v, ⟨h.ext hm, fun g hg => by rw [hv] at hg; simp at hg, hm.obj hT id, Mod.refl _ _, h2⟩⟩
  · rw [cpre_all] at h'
    have hsz := hm.size
    refine ⟨v', h'.wr, ?_, fun g hg => by have := h'.row g hg; omega⟩
    refine (hm.mono (fun _ f => f.elim)).trans' h'.mod (fun i hi f => ?_)
    rcases f with f | f
    · exact f
    · omega
end
end

section
attribute [local go_sem] stPair gtPair gtK8 gtM6 run_store_func
attribute [local go_sem high] neqPair eqK8 eqM6
attribute [local go_sem ↓] load_fold store_fold alloc_fold
open Go.RowKit
set_option linter.unusedVariables false
theorem str_size (l : List UInt8) : (str l).size = l.length := by simp [str, ByteArray.size]
theorem take_snoc' {α : Type} {l : List α} {j : Nat} {z : α} (h : l[j]? = some z) : l.take (j + 1) = l.take j ++ [z] := by
  obtain ⟨hlx, ex⟩ := List.getElem?_eq_some_iff.1 h
  rw [List.take_succ_eq_append_getElem hlx, ex]
/-- A value that is so many bytes, its own row above the base. -/
def OwnB (w : World) (base : Nat) (v : Value) (L : List UInt8) : Prop := w.ownsRow base 5 1 v L.length (bcells L)
theorem OwnB.open {w : World} {base : Nat} {v : Value} {L : List UInt8} (h : OwnB w base v L) : ∃ A c, v = .slice A L.length c ∧ L.length ≤ c ∧ RowAt (fun b => base ≤ b) w A (bcells L) := RowAt.of_owns h
theorem OwnB.at {w : World} {base : Nat} {v : Value} {L : List UInt8} (h : OwnB w base v L) (hne : L ≠ []) : ∃ g c, v = .slice (some ⟨g, 0, none⟩) L.length c ∧ base ≤ g ∧ g < w.heap.size ∧ L.length ≤ c ∧ ∀ j u, (bcells L)[j]? = some u → w.cell? ⟨g, j, none⟩ = some u := by
  rcases h.2 with ⟨rfl, h0⟩ | ⟨g, cap, cur, rfl, hb, hg, hn, _⟩
  · exact absurd (List.eq_nil_of_length_eq_zero h0) hne
  · refine ⟨g, cap, rfl, hb, lt_of_block hg, hn, fun j u hj => ?_⟩
    have := h.cells (g := g) rfl j u hj
    rwa [Addr.add_lit, Nat.zero_add] at this
theorem OwnB.mod {F : Nat → Prop} {w w' : World} {base : Nat} {v : Value} {L : List UInt8} (h : OwnB w base v L) (hm : Mod F w w') (hF : ∀ b, base ≤ b → b < w.heap.size → ¬ F b) : OwnB w' base v L :=
  own_mod h hm fun k hk => by
    rcases h.2 with ⟨rfl, _⟩ | ⟨g, cap, cur, rfl, hb, hg, _⟩
    · simp [Value.ownBlock] at hk
    · obtain rfl : g = k := by simpa [Value.ownBlock] using hk
      exact hF g hb (lt_of_block hg)
theorem own_base {w : World} {base base' : Nat} {e : TypeId} {size : Nat} {v : Value} {n : Nat} {xs : List Value} (h : w.ownsRow base e size v n xs) (hb : base' ≤ base) : w.ownsRow base' e size v n xs := by
  refine ⟨h.1, ?_⟩
  rcases h.2 with hn | ⟨g, cap, cur, e, hg, rest⟩
  · exact .inl hn
  · exact .inr ⟨g, cap, cur, e, Nat.le_trans hb hg, rest⟩
theorem wr_new {W : World} {C base : Nat} (h : W.heap[C]? = some (.cells #[.slice none 0 0, .bool false, .int .i64 0, .bool false] 102 (0, 0))) : Wr W C base [] (.slice none 0 0) := ⟨h, rfl, .inl ⟨rfl, rfl⟩⟩
set_option maxRecDepth 100000 in
theorem cfgTenant_ok {w : World} (x : TV) (hr : x.Rows (· < w.heap.size) w) (hok : x.t.Ok) (hnm : x.t.name.length ≤ 100000000) :
    Calls Tryz.prog 54 #[.agg x.cells.toArray] w fun e w' => ∃ v, e = .returned v ∧ OwnB w' w.heap.size v (wten x.t) ∧ Mod No w w' := by
  obtain ⟨CA, hCA⟩ : ∃ CA, CA = x.cells.toArray := ⟨_, rfl⟩
  rw [← hCA]
  have bA := box_ten CA (by rw [hCA]; rfl)
  obtain ⟨W, hW⟩ : ∃ W, W = (w.alloc (.cells CA 31)).alloc (.cells #[.slice none 0 0, .bool false, .int .i64 0, .bool false] 102) := ⟨_, rfl⟩
  have hmW : Mod No w W := by rw [hW]; exact ((Mod.refl _ _).alloc _).alloc _
  have hX : W.heap[w.heap.size]? = some (.cells CA 31 (0, 0)) := by rw [hW]; exact at20 w _ _
  have hC : W.heap[w.heap.size + 1]? = some (.cells #[.slice none 0 0, .bool false, .int .i64 0, .bool false] 102 (0, 0)) := by rw [hW]; exact at21 w _ _
  have hwr : Wr W (w.heap.size + 1) w.heap.size [] (.slice none 0 0) := wr_new hC
  have hrW : x.Rows (· < w.heap.size) W := hr.keeps (hmW.keeps (fun _ _ _ f => f))
  have HN := tenant_wr hwr hmW.size (by simp) (T := w.heap.size) (o := 0) (pre := []) (post := []) (tt := 31) (t := x.t) (vp := x.vp) (vs := x.vs) (vt := x.vt) (by rw [hX, hCA]; simp [TV.cells]) rfl (by omega) (Nat.le_refl _) (by omega) (by decide) hok hnm hrW
  rw [hW] at HN
  have HN := Lib.hid HN
  have HM := Lib.hid hmW
  rw [hW] at HM
  clear hmW hX hC hwr hW W hrW hr hok hnm hCA
  go_enter Tryz.func54, Tryz.ntmps54
  go_wp2_with (first | (go_at_call 51; refine HN.out.mono ?_; rintro e w1 ⟨rfl, v', hw1, _, hm1, hr1⟩; obtain ⟨x1, y1, z1, rfl⟩ := own_slice hw1.own; have d0 : w1.cell? ⟨w.heap.size + 1, 0, none⟩ = some (.slice x1 y1 z1) := (blk_cell hw1.blk 0).trans rfl; have HW := Lib.hid (And.intro hw1 (And.intro hm1 hr1)); clear hw1 hm1 hr1) | fail)
  go_ret
  obtain ⟨hw1, hm1, hr1⟩ := HW.out
  refine ⟨_, rfl, hw1.own, HM.out.trans' hm1 (fun i hi hg => ?_)⟩
  rcases hg with h | h | h
  · omega
  · simp [Value.ownBlock] at h
  · omega
theorem conSize : (Tryz.prog.info? 36).map (·.size) = some 29 := by kernel_rfl
set_option maxRecDepth 100000 in
theorem box_con (CA : Array Value) (h : CA.size = 29) : ∀ W, (Instr.box 36 (.agg CA)).run Tryz.prog W = .ok (.pointer (some ⟨W.heap.size, 0, none⟩)) (W.alloc (.cells CA 36)) := by
  intro W
  go_simp
set_option maxRecDepth 100000 in
theorem cfgConfig_ok {w : World} (c : Con) (vt : Value) (l : List TV) (hip : c.ip < 4294967296) (hdr : c.drain < 4294967296) (hrows : ∃ P p, vt = .slice P l.length p ∧ RowAt (· < w.heap.size) w P (tvCells l))
    (hok : ∀ x ∈ l, x.t.Ok ∧ x.t.name.length ≤ 100000000 ∧ x.Rows (· < w.heap.size) w) :
    Calls Tryz.prog 39 #[.agg (c.cells vt)] w fun e w' => ∃ v, e = .returned v ∧ OwnB w' w.heap.size v (wcon c l) ∧ Mod No w w' := by
  obtain ⟨CA, hCA⟩ : ∃ CA, CA = c.cells vt := ⟨_, rfl⟩
  rw [← hCA]
  have bA := box_con CA (by rw [hCA]; rfl)
  obtain ⟨W, hW⟩ : ∃ W, W = (w.alloc (.cells CA 36)).alloc (.cells #[.slice none 0 0, .bool false, .int .i64 0, .bool false] 102) := ⟨_, rfl⟩
  have hmW : Mod No w W := by rw [hW]; exact ((Mod.refl _ _).alloc _).alloc _
  have hX : W.heap[w.heap.size]? = some (.cells CA 36 (0, 0)) := by rw [hW]; exact at20 w _ _
  have hC : W.heap[w.heap.size + 1]? = some (.cells #[.slice none 0 0, .bool false, .int .i64 0, .bool false] 102 (0, 0)) := by rw [hW]; exact at21 w _ _
  have hwr : Wr W (w.heap.size + 1) w.heap.size [] (.slice none 0 0) := wr_new hC
  have hk : Keeps (· < w.heap.size) w W := hmW.keeps (fun _ _ _ f => f)
  have HN := config_wr (c := c) (vt := vt) (l := l) hwr rfl hmW.size (T := w.heap.size) (by rw [hX, hCA]) (by omega) (by omega) hip hdr (by obtain ⟨P, p, e1, r1⟩ := hrows; exact ⟨P, p, e1, r1.keeps hk⟩) (fun x hx => ⟨(hok x hx).1, (hok x hx).2.1, (hok x hx).2.2.keeps hk⟩)
  rw [hW] at HN
  have HN := Lib.hid HN
  have HM := Lib.hid hmW
  rw [hW] at HM
  clear hmW hX hC hwr hW W hk hrows hok hCA hip hdr
  go_enter Tryz.func39, Tryz.ntmps39
  go_wp2_with (first | (go_at_call 55; refine HN.out.mono ?_; rintro e w1 ⟨rfl, v', hw1, hm1, hr1⟩; obtain ⟨x1, y1, z1, rfl⟩ := own_slice hw1.own; have d0 : w1.cell? ⟨w.heap.size + 1, 0, none⟩ = some (.slice x1 y1 z1) := (blk_cell hw1.blk 0).trans rfl; have HW := Lib.hid (And.intro hw1 (And.intro hm1 hr1)); clear hw1 hm1 hr1) | fail)
  go_ret
  obtain ⟨hw1, hm1, hr1⟩ := HW.out
  exact ⟨_, rfl, hw1.own, HM.out.trans' hm1 (fun i hi hg => by omega)⟩
theorem wten_ne (t : Ten) : wten t ≠ [] := by
  intro e
  have := congrArg List.length e
  simp [wten, wfields, nameB', be_length] at this
/-- A change's cells. -/
def cChg (put : Bool) (name : List UInt8) (x : TV) : Array Value := #[.bool put, .string (str name)] ++ x.cells.toArray
theorem cChg_size (put : Bool) (name : List UInt8) (x : TV) : (cChg put name x).size = 35 := by simp [cChg, TV.len]
theorem cChg0 (put : Bool) (name : List UInt8) (x : TV) : (cChg put name x)[0]? = some (.bool put) := by simp [cChg]
theorem cChg1 (put : Bool) (name : List UInt8) (x : TV) : (cChg put name x)[1]? = some (.string (str name)) := by simp [cChg]
theorem cChg2 (put : Bool) (name : List UInt8) (x : TV) (j : Nat) : (cChg put name x)[2 + j]? = x.cells[j]? := by
  rw [cChg, Array.getElem?_append_right (by simp)]; simp
def wchg (put : Bool) (name : List UInt8) (t : Ten) : List UInt8 := if put then 1 :: wten t else 0 :: nameB name
set_option maxRecDepth 100000 in
theorem cfgChange_ok {w : World} (put : Bool) (name : List UInt8) (x : TV) (hr : x.Rows (· < w.heap.size) w) (hok : x.t.Ok) (hnm : x.t.name.length ≤ 100000000) (hn : name.length ≤ 100000000) :
    Calls Tryz.prog 35 #[.agg (cChg put name x)] w fun e w' => ∃ v, e = .returned v ∧ OwnB w' w.heap.size v (wchg put name x.t) ∧ Mod No w w' := by
  cases put with
  | false =>
    refine (change_name_ok (cChg false name x) (cChg_size _ _ _) name hn (cChg0 _ _ _) (cChg1 _ _ _)).mono fun e w' ⟨v, e1, e2, e3⟩ => ⟨v, e1, e2, e3⟩
  | true =>
    obtain ⟨CA, hCA⟩ : ∃ CA, CA = cChg true name x := ⟨_, rfl⟩
    rw [← hCA]
    have bA := box_chg CA (by rw [hCA]; exact cChg_size _ _ _)
    obtain ⟨W, hW⟩ : ∃ W, W = (w.alloc (.cells CA 33)).alloc (.cells #[.int .u8 1] 5) := ⟨_, rfl⟩
    have hmW : Mod No w W := by rw [hW]; exact ((Mod.refl _ _).alloc _).alloc _
    have hX : W.heap[w.heap.size]? = some (.cells CA 33 (0, 0)) := by rw [hW]; exact at20 w _ _
    have hR : W.heap[w.heap.size + 1]? = some (.cells #[.int .u8 1] 5 (0, 0)) := by rw [hW]; exact at21 w _ _
    have hc0 : CA[0]? = some (.bool true) := by rw [hCA]; exact cChg0 _ _ _
    have hld := tenLoad_mid W w.heap.size 2 x.cells rfl (fun j v hj => by
      rw [blk_cell hX, hCA, cChg2]
      exact hj)
    have HT := cfgTenant_ok (w := W) x ((hr.keeps (hmW.keeps (fun _ _ _ f => f))).imp (fun b hb => Nat.lt_of_lt_of_le hb hmW.size)) hok hnm
    obtain ⟨TA, hTA⟩ : ∃ TA, TA = x.cells.toArray := ⟨_, rfl⟩
    rw [← hTA] at HT hld
    rw [hW] at HT hld
    have HT := Lib.hid HT
    have HM := Lib.hid hmW
    have HR := Lib.hid hR
    rw [hW] at HM HR
    obtain ⟨i0, hi, hz0, hz1, hz2⟩ := info_parts infoU8
    have HL := Lib.hid (wten_len x.t)
    have HNE := Lib.hid (wten_ne x.t)
    have c0 : ((w.alloc (.cells CA 33))).cell? ⟨w.heap.size, 0, none⟩ = some (.bool true) := (blk_cell (at10 w _) 0).trans hc0
    clear hmW hX hR hW W hr hok hnm hCA hTA hc0
    go_enter Tryz.func35, Tryz.ntmps35
    obtain ⟨X, hX⟩ : ∃ X, X = wten x.t := ⟨_, rfl⟩
    rw [← hX] at HT HL HNE
    have hw : wchg true name x.t = 1 :: X := by rw [hX]; rfl
    rw [hw]
    clear hX hw
    go_wp2_with (first
      | (go_at_call 54; refine HT.out.mono ?_; rintro e w1 ⟨v', rfl, ho1, hm1⟩; obtain ⟨g1, c1, rfl, hg1, hg2, hg3, hc1⟩ := OwnB.at ho1 HNE.out
         have hR1 := hm1.obj HR.out id
         have hown : w1.ownsRow w.heap.size 5 1 (.slice (some ⟨w.heap.size + 1, 0, none⟩) 1 1) 1 (bcells [1]) := ⟨rfl, .inr ⟨w.heap.size + 1, 1, #[.int .u8 1], rfl, by omega, hR1, Nat.le_refl _, by decide, rfl, rfl⟩⟩
         have HW := Lib.hid (And.intro hm1 (And.intro hc1 hown)); clear ho1 hm1 hc1 hR1 hown)
      | (at_builtin; refine wpList_append_own_at _ (by rfl) _ _ 40 (by rfl) w.heap.size 5 i0 _ 1 1 Tryz.underlying40 hi hz0 hz1 hz2 rfl (by decide) _ 1 (bcells [1]) (by rfl) HW.out.2.2 ⟨g1, 0, none⟩ X.length c1 (bcells X) (by rfl) (by rw [bcells_length, Nat.mul_one]) (fun j u hj => by rw [Addr.add_lit, Nat.zero_add]; exact HW.out.2.1 j u hj) (bcells_one X) (by have := HL.out; unfold maxLen; omega) (by have := HL.out; omega) (by have := HM.out.size; have := HW.out.1.size; omega) ?_
         intro v2 w2 own2 hg2' _ hrow2; have H2 := Lib.hid (And.intro own2 (And.intro hg2' hrow2)); clear own2 hg2' hrow2)
      | fail)
    go_ret
    obtain ⟨o2, gr2, rr2⟩ := H2.out
    refine ⟨v2, rfl, ?_, ?_⟩
    · unfold OwnB
      rw [← bcells_append] at o2
      rw [List.length_cons, Nat.add_comm]
      exact o2
    · have m1 : Mod No w w1 := HM.out.trans HW.out.1
      refine m1.trans' (F := No) (G := fun k => k = w.heap.size + 1) (Mod.grown (Mod.refl _ _) gr2 (fun k hk => .inr ?_)) (fun i hi hg => by omega)
      simpa [Value.ownBlock] using hk.symm
end

section
attribute [local go_sem] stPair gtPair gtK8 gtM6 run_store_func
attribute [local go_sem high] neqPair eqK8 eqM6
attribute [local go_sem ↓] load_fold store_fold alloc_fold
open Go.ChangeShapes Go.WideShapes Go.ChangeAt Go.RowKit Go.Deep
set_option linter.unusedVariables false
variable {H : Type} {enc : TypeId × Value → H} {w : World}
theorem Ten.wf.ok {t : Ten} (h : t.wf) : t.Ok := ⟨h.vni, h.vtep, h.lo, h.hi, h.rate, h.burst, h.pool, h.statics, h.twices⟩
/-- What an argument's tenant gives. -/
structure TV.Open (w : World) (x : TV) : Prop where
  rows : x.Rows (fun _ => True) w
  wf : x.t.wf
theorem open_tv {fuel : Nat} {cs : List Value} {x : DataW H × List MemPlace} (h : DataW.trod enc Tryz.prog w 0 (fun _ => true) true fuel 31 cs = some x) : ∃ x : TV, cs = x.cells ∧ x.Open w := by
  obtain ⟨t, ⟨P, p, Q, q, R, r, e, h1, h2, h3⟩, hw⟩ := open_ten h
  refine ⟨⟨t, .slice P t.pool.length p, .slice Q t.statics.length q, .slice R t.twices.length r⟩, ?_, ⟨⟨P, p, Q, q, R, r, rfl, rfl, rfl, h1, h2, h3⟩, hw⟩⟩
  have := congrArg Array.toList (Value.agg.inj e)
  simpa [TV.cells] using this
theorem TV.Open.val {w : World} {x : TV} (h : x.Open w) : TenV (fun _ => True) w x.t (.agg x.cells.toArray) := by
  obtain ⟨P, p, Q, q, R, r, e1, e2, e3, r1, r2, r3⟩ := h.rows
  exact ⟨P, p, Q, q, R, r, by simp [TV.cells, e1, e2, e3], r1, r2, r3⟩
/-- What is read lies in blocks that are there. -/
theorem TV.Open.here {w : World} {x : TV} (h : x.Open w) : x.Rows (· < w.heap.size) w := by
  obtain ⟨P, p, Q, q, R, r, e1, e2, e3, r1, r2, r3⟩ := h.rows
  exact ⟨P, p, Q, q, R, r, e1, e2, e3, r1.mono (fun b hb _ => hb), r2.mono (fun b hb _ => hb), r3.mono (fun b hb _ => hb)⟩
theorem open_tens {fuel : Nat} {c : Value} {x : DataW H × List MemPlace} (h : DataW.trod enc Tryz.prog w 0 (fun _ => true) true fuel 34 [c] = some x) :
    ∃ (A : Option Addr) (k : Nat) (l : List TV), c = .slice A l.length k ∧ l.length ≤ 9223372036854775807 ∧ RowAt (fun _ => True) w A (tvCells l) ∧ ∀ x ∈ l, x.Open w := by
  rcases open_slice Tryz.underlying34 h with ⟨hcs, hx⟩ | ⟨a, len, cap, m, n, D, Pl, hcs, _, hl, hm, hmm, _, hx⟩
  · cases hcs
    exact ⟨none, 0, [], rfl, by simp, .nil _ _ _, by simp⟩
  · cases hcs
    simp only [if_true] at hmm
    have hv : ∀ i, i < len → ∃ x : TV, x.Open w ∧ w.cells? 0 (a.add (i * 33)) 33 = some x.cells := by
      intro i hi
      obtain ⟨cs', h1, h2⟩ := hx i (by omega)
      rw [coTen] at h1
      obtain ⟨x, rfl, hxo⟩ := open_tv h2
      exact ⟨x, hxo, h1⟩
    obtain ⟨g, hg⟩ : ∃ g : Nat → TV, ∀ i, i < len → (g i).Open w ∧ w.cells? 0 (a.add (i * 33)) 33 = some (g i).cells :=
      ⟨fun i => if h : i < len then (hv i h).choose else ⟨default, .nilFunc, .nilFunc, .nilFunc⟩, fun i hi => by simp only [hi, dif_pos]; exact (hv i hi).choose_spec⟩
    refine ⟨some a, cap, (List.range len).map g, by simp, by simp; unfold maxLen at hm; omega, ?_, fun x hx => by
      obtain ⟨i, hi, rfl⟩ := List.mem_map.1 hx
      exact (hg i (by simpa using hi)).1⟩
    by_cases h0 : len = 0
    · subst h0
      exact .nil _ _ _
    · have hcell : ∀ i, i < len → ∀ j, j < 33 → w.cell? ((a.add (i * 33)).add j) = (g i).cells[j]? := by
        intro i hi j hj
        obtain ⟨h1, h2, h3⟩ := World.cells?_some (hg i hi).2
        exact h3 j hj
      obtain ⟨b, o, spot⟩ := a
      have hs : spot = none := by
        have h1 := hcell 0 (by omega) 0 (by decide)
        have h2 : ∃ v, (g 0).cells[0]? = some v := ⟨_, List.getElem?_eq_getElem (by rw [TV.len]; decide)⟩
        obtain ⟨v, hv⟩ := h2
        rw [hv] at h1
        simpa [Addr.add] using World.cell?_spot h1
      subst hs
      refine .inr ⟨b, o, rfl, trivial, fun j v hj => ?_⟩
      have hjl := (List.getElem?_eq_some_iff.1 hj).1
      rw [tvCells, flat_length TV.cells 33 TV.len, List.length_map, List.length_range] at hjl
      have hi : j / 33 < len := by omega
      have hr : ((List.range len).map g)[j / 33]? = some (g (j / 33)) := by simp [hi]
      have hf := flat_at TV.cells 33 TV.len _ (j / 33) (j % 33) _ hr (by omega)
      rw [show j / 33 * 33 + j % 33 = j by omega] at hf
      have hj' : (g (j / 33)).cells[j % 33]? = some v := by rw [← hf]; exact hj
      have h1 := hcell (j / 33) hi (j % 33) (by omega)
      rw [hj', Addr.add_lit, Addr.add_lit, show o + j / 33 * 33 + j % 33 = o + j by omega] at h1
      exact h1
theorem coLT : Tryz.prog.cellsOf 34 = 1 := by kernel_rfl
theorem coCon : Tryz.prog.cellsOf 36 = 29 := by kernel_rfl
theorem coChg : Tryz.prog.cellsOf 33 = 35 := by kernel_rfl
theorem coB : Tryz.prog.cellsOf 4 = 1 := by kernel_rfl
theorem list29 {α : Type} : ∀ (l : List α), l.length = 29 → ∃ c0 c1 c2 c3 c4 c5 c6 c7 c8 c9 c10 c11 c12 c13 c14 c15 c16 c17 c18 c19 c20 c21 c22 c23 c24 c25 c26 c27 c28, l = [c0, c1, c2, c3, c4, c5, c6, c7, c8, c9, c10, c11, c12, c13, c14, c15, c16, c17, c18, c19, c20, c21, c22, c23, c24, c25, c26, c27, c28]
  | c0 :: c1 :: c2 :: c3 :: c4 :: c5 :: c6 :: c7 :: c8 :: c9 :: c10 :: c11 :: c12 :: c13 :: c14 :: c15 :: c16 :: c17 :: c18 :: c19 :: c20 :: c21 :: c22 :: c23 :: c24 :: c25 :: c26 :: c27 :: c28 :: [], _ => ⟨c0, c1, c2, c3, c4, c5, c6, c7, c8, c9, c10, c11, c12, c13, c14, c15, c16, c17, c18, c19, c20, c21, c22, c23, c24, c25, c26, c27, c28, rfl⟩
theorem list35 {α : Type} : ∀ (l : List α), l.length = 35 → ∃ a b r, l = a :: b :: r ∧ r.length = 33
  | a :: b :: r, h => ⟨a, b, r, rfl, by simpa using h⟩
set_option maxRecDepth 100000 in
set_option maxHeartbeats 2000000 in
theorem open_con {fuel : Nat} {cs : List Value} {x : DataW H × List MemPlace} (h : DataW.trod enc Tryz.prog w 0 (fun _ => true) true fuel 36 cs = some x) :
    ∃ (c : Con) (A : Option Addr) (k : Nat) (l : List TV), cs.toArray = c.cells (.slice A l.length k) ∧ c.ip < 4294967296 ∧ c.drain < 4294967296 ∧ l.length ≤ 9223372036854775807 ∧ RowAt (fun _ => True) w A (tvCells l) ∧ ∀ x ∈ l, x.Open w := by
  obtain ⟨xs, n, _, _, hl, hlen, hf⟩ := DataW.trod_struct Tryz.underlying36 h
  rw [coCon] at hl
  obtain ⟨c0, c1, c2, c3, c4, c5, c6, c7, c8, c9, c10, c11, c12, c13, c14, c15, c16, c17, c18, c19, c20, c21, c22, c23, c24, c25, c26, c27, c28, rfl⟩ := list29 cs hl
  have hg : ∀ i, i < 7 → ∃ y, xs[i]? = some y := fun i hi => ⟨_, List.getElem?_eq_getElem (by rw [hlen]; exact hi)⟩
  obtain ⟨y0, hy0⟩ := hg 0 (by decide)
  have t0 : DataW.trod enc Tryz.prog w 0 (fun _ => true) true n 24 [c0] = some y0 := by
    have : DataW.trod enc Tryz.prog w 0 (fun _ => true) true n 24 ((List.drop 0 [c0, c1, c2, c3, c4, c5, c6, c7, c8, c9, c10, c11, c12, c13, c14, c15, c16, c17, c18, c19, c20, c21, c22, c23, c24, c25, c26, c27, c28]).take (Tryz.prog.cellsOf 24)) = xs[0]? := hf 0 _ rfl
    rw [hy0] at this
    rw [coU32] at this
    exact this
  obtain ⟨y1, hy1⟩ := hg 1 (by decide)
  have t1 : DataW.trod enc Tryz.prog w 0 (fun _ => true) true n 26 [c1, c2, c3, c4, c5, c6] = some y1 := by
    have : DataW.trod enc Tryz.prog w 0 (fun _ => true) true n 26 ((List.drop 1 [c0, c1, c2, c3, c4, c5, c6, c7, c8, c9, c10, c11, c12, c13, c14, c15, c16, c17, c18, c19, c20, c21, c22, c23, c24, c25, c26, c27, c28]).take (Tryz.prog.cellsOf 26)) = xs[1]? := hf 1 _ rfl
    rw [hy1] at this
    rw [coM6] at this
    exact this
  obtain ⟨y2, hy2⟩ := hg 2 (by decide)
  have t2 : DataW.trod enc Tryz.prog w 0 (fun _ => true) true n 26 [c7, c8, c9, c10, c11, c12] = some y2 := by
    have : DataW.trod enc Tryz.prog w 0 (fun _ => true) true n 26 ((List.drop 7 [c0, c1, c2, c3, c4, c5, c6, c7, c8, c9, c10, c11, c12, c13, c14, c15, c16, c17, c18, c19, c20, c21, c22, c23, c24, c25, c26, c27, c28]).take (Tryz.prog.cellsOf 26)) = xs[2]? := hf 2 _ rfl
    rw [hy2] at this
    rw [coM6] at this
    exact this
  obtain ⟨y3, hy3⟩ := hg 3 (by decide)
  have t3 : DataW.trod enc Tryz.prog w 0 (fun _ => true) true n 26 [c13, c14, c15, c16, c17, c18] = some y3 := by
    have : DataW.trod enc Tryz.prog w 0 (fun _ => true) true n 26 ((List.drop 13 [c0, c1, c2, c3, c4, c5, c6, c7, c8, c9, c10, c11, c12, c13, c14, c15, c16, c17, c18, c19, c20, c21, c22, c23, c24, c25, c26, c27, c28]).take (Tryz.prog.cellsOf 26)) = xs[3]? := hf 3 _ rfl
    rw [hy3] at this
    rw [coM6] at this
    exact this
  obtain ⟨y4, hy4⟩ := hg 4 (by decide)
  have t4 : DataW.trod enc Tryz.prog w 0 (fun _ => true) true n 22 [c19, c20, c21, c22, c23, c24, c25, c26] = some y4 := by
    have : DataW.trod enc Tryz.prog w 0 (fun _ => true) true n 22 ((List.drop 19 [c0, c1, c2, c3, c4, c5, c6, c7, c8, c9, c10, c11, c12, c13, c14, c15, c16, c17, c18, c19, c20, c21, c22, c23, c24, c25, c26, c27, c28]).take (Tryz.prog.cellsOf 22)) = xs[4]? := hf 4 _ rfl
    rw [hy4] at this
    rw [coK8] at this
    exact this
  obtain ⟨y5, hy5⟩ := hg 5 (by decide)
  have t5 : DataW.trod enc Tryz.prog w 0 (fun _ => true) true n 24 [c27] = some y5 := by
    have : DataW.trod enc Tryz.prog w 0 (fun _ => true) true n 24 ((List.drop 27 [c0, c1, c2, c3, c4, c5, c6, c7, c8, c9, c10, c11, c12, c13, c14, c15, c16, c17, c18, c19, c20, c21, c22, c23, c24, c25, c26, c27, c28]).take (Tryz.prog.cellsOf 24)) = xs[5]? := hf 5 _ rfl
    rw [hy5] at this
    rw [coU32] at this
    exact this
  obtain ⟨y6, hy6⟩ := hg 6 (by decide)
  have t6 : DataW.trod enc Tryz.prog w 0 (fun _ => true) true n 34 [c28] = some y6 := by
    have : DataW.trod enc Tryz.prog w 0 (fun _ => true) true n 34 ((List.drop 28 [c0, c1, c2, c3, c4, c5, c6, c7, c8, c9, c10, c11, c12, c13, c14, c15, c16, c17, c18, c19, c20, c21, c22, c23, c24, c25, c26, c27, c28]).take (Tryz.prog.cellsOf 34)) = xs[6]? := hf 6 _ rfl
    rw [hy6] at this
    rw [coLT] at this
    exact this
  clear hf hg h hl hlen
  obtain ⟨ip, rfl, bip⟩ := open_u32 t0
  obtain ⟨mac0, rfl⟩ := open_arr Tryz.underlying26 t1 0 _ (by decide) rfl
  obtain ⟨mac1, rfl⟩ := open_arr Tryz.underlying26 t1 1 _ (by decide) rfl
  obtain ⟨mac2, rfl⟩ := open_arr Tryz.underlying26 t1 2 _ (by decide) rfl
  obtain ⟨mac3, rfl⟩ := open_arr Tryz.underlying26 t1 3 _ (by decide) rfl
  obtain ⟨mac4, rfl⟩ := open_arr Tryz.underlying26 t1 4 _ (by decide) rfl
  obtain ⟨mac5, rfl⟩ := open_arr Tryz.underlying26 t1 5 _ (by decide) rfl
  obtain ⟨omac0, rfl⟩ := open_arr Tryz.underlying26 t2 0 _ (by decide) rfl
  obtain ⟨omac1, rfl⟩ := open_arr Tryz.underlying26 t2 1 _ (by decide) rfl
  obtain ⟨omac2, rfl⟩ := open_arr Tryz.underlying26 t2 2 _ (by decide) rfl
  obtain ⟨omac3, rfl⟩ := open_arr Tryz.underlying26 t2 3 _ (by decide) rfl
  obtain ⟨omac4, rfl⟩ := open_arr Tryz.underlying26 t2 4 _ (by decide) rfl
  obtain ⟨omac5, rfl⟩ := open_arr Tryz.underlying26 t2 5 _ (by decide) rfl
  obtain ⟨nmac0, rfl⟩ := open_arr Tryz.underlying26 t3 0 _ (by decide) rfl
  obtain ⟨nmac1, rfl⟩ := open_arr Tryz.underlying26 t3 1 _ (by decide) rfl
  obtain ⟨nmac2, rfl⟩ := open_arr Tryz.underlying26 t3 2 _ (by decide) rfl
  obtain ⟨nmac3, rfl⟩ := open_arr Tryz.underlying26 t3 3 _ (by decide) rfl
  obtain ⟨nmac4, rfl⟩ := open_arr Tryz.underlying26 t3 4 _ (by decide) rfl
  obtain ⟨nmac5, rfl⟩ := open_arr Tryz.underlying26 t3 5 _ (by decide) rfl
  obtain ⟨key0, rfl⟩ := open_arr Tryz.underlying22 t4 0 _ (by decide) rfl
  obtain ⟨key1, rfl⟩ := open_arr Tryz.underlying22 t4 1 _ (by decide) rfl
  obtain ⟨key2, rfl⟩ := open_arr Tryz.underlying22 t4 2 _ (by decide) rfl
  obtain ⟨key3, rfl⟩ := open_arr Tryz.underlying22 t4 3 _ (by decide) rfl
  obtain ⟨key4, rfl⟩ := open_arr Tryz.underlying22 t4 4 _ (by decide) rfl
  obtain ⟨key5, rfl⟩ := open_arr Tryz.underlying22 t4 5 _ (by decide) rfl
  obtain ⟨key6, rfl⟩ := open_arr Tryz.underlying22 t4 6 _ (by decide) rfl
  obtain ⟨key7, rfl⟩ := open_arr Tryz.underlying22 t4 7 _ (by decide) rfl
  obtain ⟨drain, rfl, bdrain⟩ := open_u32 t5
  obtain ⟨A, k, l, rfl, hlen, hrow, hl⟩ := open_tens t6
  exact ⟨⟨ip, ⟨mac0, mac1, mac2, mac3, mac4, mac5⟩, ⟨omac0, omac1, omac2, omac3, omac4, omac5⟩, ⟨nmac0, nmac1, nmac2, nmac3, nmac4, nmac5⟩, ⟨key0, key1, key2, key3, key4, key5, key6, key7⟩, drain⟩, A, k, l, rfl, bip, bdrain, hlen, hrow, hl⟩
theorem open_bool {fuel : Nat} {c : Value} {x : DataW H × List MemPlace} (h : DataW.trod enc Tryz.prog w 0 (fun _ => true) true fuel 4 [c] = some x) : ∃ b, c = .bool b := by
  obtain ⟨b, e, _⟩ := DataW.trod_bool Tryz.underlying4 h
  cases e
  exact ⟨b, rfl⟩
set_option maxRecDepth 100000 in
theorem open_chg {fuel : Nat} {cs : List Value} {x : DataW H × List MemPlace} (h : DataW.trod enc Tryz.prog w 0 (fun _ => true) true fuel 33 cs = some x) :
    ∃ (put : Bool) (name : List UInt8) (x : TV), cs.toArray = cChg put name x ∧ x.Open w := by
  obtain ⟨xs, n, _, _, hl, hlen, hf⟩ := DataW.trod_struct Tryz.underlying33 h
  rw [coChg] at hl
  obtain ⟨a, b, r, rfl, hr⟩ := list35 cs hl
  have hg : ∀ i, i < 3 → ∃ y, xs[i]? = some y := fun i hi => ⟨_, List.getElem?_eq_getElem (by rw [hlen]; exact hi)⟩
  obtain ⟨y0, hy0⟩ := hg 0 (by decide)
  obtain ⟨y1, hy1⟩ := hg 1 (by decide)
  obtain ⟨y2, hy2⟩ := hg 2 (by decide)
  have t0 : DataW.trod enc Tryz.prog w 0 (fun _ => true) true n 4 ((List.drop 0 (a :: b :: r)).take (Tryz.prog.cellsOf 4)) = xs[0]? := hf 0 _ rfl
  have t1 : DataW.trod enc Tryz.prog w 0 (fun _ => true) true n 9 ((List.drop 1 (a :: b :: r)).take (Tryz.prog.cellsOf 9)) = xs[1]? := hf 1 _ rfl
  have t2 : DataW.trod enc Tryz.prog w 0 (fun _ => true) true n 31 ((List.drop 2 (a :: b :: r)).take (Tryz.prog.cellsOf 31)) = xs[2]? := hf 2 _ rfl
  rw [hy0, coB] at t0
  rw [hy1, coStr] at t1
  rw [hy2, coTen] at t2
  have e2 : (List.drop 2 (a :: b :: r)).take 33 = r := by simp [List.take_of_length_le (Nat.le_of_eq hr)]
  rw [e2] at t2
  obtain ⟨put, hp⟩ := open_bool (c := a) t0
  obtain ⟨s, hs⟩ := trod_str Tryz.underlying9 t1
  obtain ⟨x, rfl, hx⟩ := open_tv t2
  obtain rfl : b = .string s := by simpa using hs
  subst hp
  refine ⟨put, s.data.toList, x, ?_, hx⟩
  simp [cChg, str_list]
end

section
attribute [local go_sem] stPair gtPair gtK8 gtM6 run_store_func
attribute [local go_sem high] neqPair eqK8 eqM6
attribute [local go_sem ↓] load_fold store_fold alloc_fold
open Go.RowKit
set_option linter.unusedVariables false
/-- Bytes of one's own that have grown since: those of v in w, now those of v' in w'. -/
structure Gr (base : Nat) (v : Value) (w : World) (v' : Value) (w' : World) (L : List UInt8) : Prop where
  own : OwnB w' base v' L
  mod : Mod (fun b => v.ownBlock = some b) w w'
  row : ∀ g, v'.ownBlock = some g → v.ownBlock = some g ∨ w.heap.size ≤ g
theorem Gr.refl {base : Nat} {v : Value} {w : World} {L : List UInt8} (h : OwnB w base v L) : Gr base v w v w L := ⟨h, Mod.refl _ _, fun _ h => .inl h⟩
theorem Gr.ext {base : Nat} {v v' : Value} {w w' w2 : World} {L : List UInt8} (h : Gr base v w v' w' L) (hm : Mod No w' w2) : Gr base v w v' w2 L :=
  ⟨OwnB.mod h.own hm (fun _ _ _ f => f), h.mod.trans (hm.mono (fun _ f => f.elim)), h.row⟩
theorem Gr.trans {base : Nat} {v v1 v2 : Value} {w w1 w2 : World} {L L' : List UInt8} (h : Gr base v w v1 w1 L) (k : Gr base v1 w1 v2 w2 L') : Gr base v w v2 w2 L' :=
  ⟨k.own, h.mod.trans' k.mod (fun i hi hg => by rcases h.row i hg with f | f; exact f; omega), fun g hg => by
    rcases k.row g hg with f | f
    · exact h.row g f
    · exact .inr (Nat.le_trans h.mod.size f)⟩
/-- Seen from an elder world. -/
theorem Gr.pre {base : Nat} {v v' : Value} {w0 w w' : World} {L : List UInt8} (h0 : Mod No w0 w) (h : Gr base v w v' w' L) : Gr base v w0 v' w' L :=
  ⟨h.own, (h0.mono (fun _ f => f.elim)).trans h.mod, fun g hg => by
    rcases h.row g hg with f | f
    · exact .inl f
    · exact .inr (Nat.le_trans h0.size f)⟩
theorem Gr.no {base : Nat} {v' : Value} {w w' : World} {L : List UInt8} (h : Gr base (.slice none 0 0) w v' w' L) : Mod No w w' := h.mod.mono (fun b f => by simp [Value.ownBlock] at f)
theorem nil_own (w : World) (base : Nat) : OwnB w base (.slice none 0 0) [] := ⟨rfl, .inl ⟨rfl, rfl⟩⟩
theorem gr_append {w w' : World} {base : Nat} {v v' : Value} {L X : List UInt8} (hw' : w'.ownsRow base 5 1 v' (L.length + X.length) (bcells L ++ bcells X)) (hg : w.grownBy w' v.ownBlock) (hr : v'.ownBlock = v.ownBlock ∨ v'.ownBlock = some w.heap.size) : Gr base v w v' w' (L ++ X) := by
  refine ⟨?_, Mod.grown (Mod.refl _ _) hg (fun k hk => .inr hk), fun g hg => ?_⟩
  · unfold OwnB
    rw [List.length_append, bcells_append]
    exact hw'
  · rcases hr with e | e
    · exact .inl (by rw [← e]; exact hg)
    · rw [hg] at e; simp at e; exact .inr (by omega)
theorem wrap_u8_low (n j : Nat) : IntKind.u8.wrap ((n : Int) / 2 ^ (8 * j)) = ((UInt8.ofNat (n / 256 ^ j)).toNat : Int) := by
  rw [← u8_shift n j]
  simp [IntKind.wrap, IntKind.bits, IntKind.signed]
set_option maxRecDepth 100000 in
theorem put32_ok {w : World} {base : Nat} {v : Value} {L : List UInt8} (h : OwnB w base v L) (hb : base ≤ w.heap.size) (hL : L.length ≤ 90000000) (n : Nat) (hn : n < 4294967296) :
    Calls Tryz.prog 43 #[v, .int .u32 (n : Int)] w fun e w' => ∃ v', e = .returned v' ∧ Gr base v w v' w' (L ++ be 4 n) := by
  obtain ⟨i0, hi, hz0, hz1, hz2⟩ := info_parts infoU8
  have hbe : bcells (be 4 n) = [.int .u8 ((n : Int) / 16777216 : Int), .int .u8 ((n : Int) / 65536 % 256 : Int), .int .u8 ((n : Int) / 256 % 256 : Int), .int .u8 ((n : Int) % 256 : Int)] := by
    simp [be, bcells]
    omega
  have HBE := Lib.hid hbe
  have HOW := Lib.hid h
  have HL := Lib.hid hL
  have HB := Lib.hid hb
  clear h hL hb hbe
  go_enter Tryz.func43, Tryz.ntmps43
  go_wp2_with (first
    | (at_builtin; refine wpList_append_own_at _ (by rfl) _ _ 40 (by rfl) base 5 i0 _ 1 1 Tryz.underlying40 hi hz0 hz1 hz2 rfl (by decide) v L.length (bcells L) (by rfl) (OwnB.mod HOW.out ((Mod.refl No w).alloc _) (fun _ _ _ f => f)) ⟨w.heap.size, 0, none⟩ 4 4 (bcells (be 4 n)) (by rfl) (by rw [bcells_length, be_length]) ?_ (bcells_one _) ?_ ?_ ?_ ?_;
       (rw [HBE.out]; exact World.news_of_block (at10 w _));
       (have := HL.out; unfold maxLen; omega);
       (have := HL.out; omega);
       (have := HB.out; simp; omega);
       intro v2 w2 own2 gr2 _ hr2; have H2 := Lib.hid (And.intro own2 (And.intro gr2 hr2)); clear own2 gr2 hr2)
    | fail)
  go_ret
  obtain ⟨own2, gr2, hr2⟩ := H2.out
  have hg := gr_append (base := base) (L := L) (X := be 4 n) (by rw [be_length]; exact own2) gr2 hr2
  exact ⟨v2, rfl, Gr.pre ((Mod.refl No w).alloc _) hg⟩
set_option maxRecDepth 100000 in
theorem put16_ok {w : World} {base : Nat} {v : Value} {L : List UInt8} (h : OwnB w base v L) (hb : base ≤ w.heap.size) (hL : L.length ≤ 90000000) (n : Nat) (hn : n < 65536) :
    Calls Tryz.prog 56 #[v, .int .u16 (n : Int)] w fun e w' => ∃ v', e = .returned v' ∧ Gr base v w v' w' (L ++ be 2 n) := by
  obtain ⟨i0, hi, hz0, hz1, hz2⟩ := info_parts infoU8
  have hbe : bcells (be 2 n) = [.int .u8 ((n : Int) / 256 : Int), .int .u8 ((n : Int) % 256 : Int)] := by
    simp [be, bcells]
    omega
  have HBE := Lib.hid hbe
  have HOW := Lib.hid h
  have HL := Lib.hid hL
  have HB := Lib.hid hb
  clear h hL hb hbe
  go_enter Tryz.func56, Tryz.ntmps56
  go_wp2_with (first
    | (at_builtin; refine wpList_append_own_at _ (by rfl) _ _ 40 (by rfl) base 5 i0 _ 1 1 Tryz.underlying40 hi hz0 hz1 hz2 rfl (by decide) v L.length (bcells L) (by rfl) (OwnB.mod HOW.out ((Mod.refl No w).alloc _) (fun _ _ _ f => f)) ⟨w.heap.size, 0, none⟩ 2 2 (bcells (be 2 n)) (by rfl) (by rw [bcells_length, be_length]) ?_ (bcells_one _) ?_ ?_ ?_ ?_;
       (rw [HBE.out]; exact World.news_of_block (at10 w _));
       (have := HL.out; unfold maxLen; omega);
       (have := HL.out; omega);
       (have := HB.out; simp; omega);
       intro v2 w2 own2 gr2 _ hr2; have H2 := Lib.hid (And.intro own2 (And.intro gr2 hr2)); clear own2 gr2 hr2)
    | fail)
  go_ret
  obtain ⟨own2, gr2, hr2⟩ := H2.out
  have hg := gr_append (base := base) (L := L) (X := be 2 n) (by rw [be_length]; exact own2) gr2 hr2
  exact ⟨v2, rfl, Gr.pre ((Mod.refl No w).alloc _) hg⟩
end

section
attribute [local go_sem] stPair gtPair gtK8 gtM6 run_store_func
attribute [local go_sem high] neqPair eqK8 eqM6
attribute [local go_sem ↓] load_fold store_fold alloc_fold
open Go.RowKit
set_option linter.unusedVariables false
/-- Bytes that lie somewhere are put behind one's own. -/
theorem step_gr {w : World} {ops : Array Oper} {o : Oper} {a : Act} {K : Act → World → Prop} {Q : Exit → Act → World → Prop} {E : Prop} (hgd : o.guard = none) (s x : Operand)
    (ho : o.op = .call { callee := .builtin .append, args := #[s, x], argTypes := #[40, 40] }) {w0 : World} {base : Nat} {v0 v : Value} {L : List UInt8} (gr : Gr base v0 w0 v w L) (hs : a.eval s = v)
    (X : List UInt8) (ad : Addr) (m c : Nat) (hx : a.eval x = .slice (some ad) m c) (hm : m = X.length) (hc : ∀ j u, (bcells X)[j]? = some u → w.cell? (ad.add j) = some u) (hl : L.length + X.length ≤ 100000000) (hm0 : X ≠ []) (hbase : base ≤ w.heap.size)
    (h : ∀ v' w', Gr base v0 w0 v' w' (L ++ X) → Mod (fun b => v.ownBlock = some b) w w' → K (a.put o.dst v') w') :
    if Region.wanted o (yielded ops a.tmps) = true then Oper.wp Tryz.prog o a w K Q else E := by
  subst hm
  refine step_append_bytes hgd s x ho v L base hs gr.own ad c X hx hc hl (List.length_pos_iff.2 hm0) hbase ?_
  intro g cap w' h1 h2 h3
  have hmd : Mod (fun b => v.ownBlock = some b) w w' := Mod.grown (Mod.refl _ _) h2 (fun k hk => .inr hk)
  refine h _ _ (gr.trans ⟨h1, hmd, fun g' hg' => ?_⟩) hmd
  obtain rfl : g = g' := by simpa [Value.ownBlock] using hg'
  rcases h3 with h3 | h3
  · exact .inl h3
  · exact .inr (by omega)
theorem str_cells (l : List UInt8) : Go.Lib.strCells (str l) = bcells l := rfl
/-- A text's bytes put behind one's own, in a world that is told which row it is. -/
theorem run_append_text {w : World} {base : Nat} {v : Value} {L : List UInt8} (h : OwnB w base v L) (t : List UInt8) (hl : L.length + t.length ≤ 100000000) (hb : base ≤ w.heap.size) (ty : TypeId) :
    ∃ v' w', (Builtin.append_ #[40, 9] ty #[v, .string (str t)]).run Tryz.prog w = .ok v' w' ∧ Gr base v w v' w' (L ++ t) := by
  obtain ⟨i0, hi, hz0, hz1, hz2⟩ := info_parts infoU8
  obtain ⟨v', w', hr, h1, h2, h3⟩ := Go.Lib.run_append_own_string (P := Tryz.prog) w base 40 9 ty 5 i0 Tryz.underlying40 Tryz.underlying9 hi hz0 hz1 hz2 v L.length (bcells L) h (str t) (by rw [str_size]; unfold maxLen; omega) (by rw [str_size]; omega) hb
  refine ⟨v', w', hr, ?_⟩
  rw [str_size, str_cells] at h1
  refine gr_append h1 h2 ?_
  rcases h.2 with ⟨rfl, h0⟩ | ⟨g, cap, cur, rfl, hbg, hg, hnc, hcm, hcs, htake⟩
  · by_cases hm : t.length = 0
    · have := h3.2 ⟨rfl, by rw [str_size]; exact hm⟩
      exact .inl (by rw [this])
    · have hr' := run_append_nil_string (P := Tryz.prog) w 40 9 ty 5 i0 (.int .u8 0) Tryz.underlying40 Tryz.underlying9 hi hz0 (str t) (by rw [str_size]; omega) (by rw [str_size]; omega) (by rw [hz2, str_size]; omega)
      rw [hr] at hr'
      injection hr' with e1 e2
      exact .inr (by rw [e1]; rfl)
  · by_cases hroom : L.length + t.length ≤ cap
    · have hcs' : cur.size = cap := by simpa using hcs
      have hr' := Go.Lib.run_append_room_string (P := Tryz.prog) w 40 9 ty 5 i0 Tryz.underlying40 Tryz.underlying9 hi hz1 g L.length cap cur hg (str t) (by rw [str_size]; exact hroom) (by rw [str_size]; omega)
      rw [hr] at hr'
      injection hr' with e1 e2
      exact .inl (by rw [e1]; rfl)
    · have holds : ∀ j u, (bcells L)[j]? = some u → w.cell? ((⟨g, 0, none⟩ : Addr).add j) = some u := h.cells (g := g) rfl
      have hr' := Go.Lib.run_append_grow_string (P := Tryz.prog) w 40 9 ty 5 i0 (.int .u8 0) Tryz.underlying40 Tryz.underlying9 hi hz0 ⟨g, 0, none⟩ L.length cap (bcells L) (by rw [hz1, bcells_length]; omega) holds (str t) (by rw [str_size]; omega) (by rw [str_size]; omega) (by rw [hz2]; exact growslice_fits (by rw [str_size]; omega) (by rw [str_size]; omega))
      rw [hr] at hr'
      injection hr' with e1 e2
      exact .inr (by rw [e1]; rfl)
theorem step_gr_text {w : World} {ops : Array Oper} {o : Oper} {a : Act} {K : Act → World → Prop} {Q : Exit → Act → World → Prop} {E : Prop} (hgd : o.guard = none) (s x : Operand)
    (ho : o.op = .call { callee := .builtin .append, args := #[s, x], argTypes := #[40, 9] }) {w0 : World} {base : Nat} {v0 v : Value} {L : List UInt8} (gr : Gr base v0 w0 v w L) (hs : a.eval s = v)
    (X : List UInt8) (hx : a.eval x = .string (str X)) (hl : L.length + X.length ≤ 100000000) (hbase : base ≤ w.heap.size)
    (h : ∀ v' w', Gr base v0 w0 v' w' (L ++ X) → Mod (fun b => v.ownBlock = some b) w w' → K (a.put o.dst v') w') :
    if Region.wanted o (yielded ops a.tmps) = true then Oper.wp Tryz.prog o a w K Q else E := by
  have hw : Region.wanted o (yielded ops a.tmps) = true := by simp [Region.wanted, hgd]
  rw [if_pos hw]
  obtain ⟨v', w', hr, hg⟩ := run_append_text gr.own X hl hbase o.type
  unfold Oper.wp execOp
  simp only [ho, resolve, invoke, builtin, Sem.run_bind, Sem.run_pure, Result.andThen_ok, List.map_toArray, List.map_cons, List.map_nil, hs, hx, hr]
  exact h _ _ (gr.trans hg) hg.mod
theorem str_take (l : List UInt8) (k : Nat) : (str l).extract 0 k = str (l.take k) := by
  apply ByteArray.ext
  apply Array.ext'
  simp [str]
set_option maxRecDepth 100000 in
theorem refName_ok {w : World} {base : Nat} {v : Value} {L : List UInt8} (h : OwnB w base v L) (hb : base ≤ w.heap.size) (hL : L.length ≤ 90000000) (l : List UInt8) (hl : l.length ≤ 100000000) :
    Calls Tryz.prog 42 #[v, .string (str l)] w fun e w' => ∃ v', e = .returned v' ∧ Gr base v w v' w' (L ++ nameB' l) := by
  obtain ⟨k, hk⟩ : ∃ k, k = min l.length 255 := ⟨_, rfl⟩
  obtain ⟨n, hn⟩ : ∃ n, n = l.length := ⟨_, rfl⟩
  have hmin : min (n : Int) 255 = k := by omega
  have hsz : (str l).size = n := by rw [str_size, hn]
  have hext : (str l).extract 0 k = str (l.take 255) := by rw [str_take, hk, take_min]
  have hk1 : (k : Int) ≤ n := by omega
  have hk8 : IntKind.u8.wrap (k : Int) = k := by simp [IntKind.wrap, IntKind.bits, IntKind.signed]; omega
  have hbe : bcells (be 1 k) = [.int .u8 (k : Int)] := by
    have : k < 256 := by omega
    simp [be, bcells]
    omega
  have hX : nameB' l = be 1 k ++ l.take 255 := by rw [nameB', hk]
  rw [hX]
  obtain ⟨T, hT⟩ : ∃ T, T = l.take 255 := ⟨_, rfl⟩
  rw [← hT] at hext
  rw [← hT]
  have HT := Lib.hid (show T.length ≤ 255 by rw [hT]; exact List.length_take_le _ _)
  obtain ⟨X1, hX1⟩ : ∃ X1, X1 = be 1 k := ⟨_, rfl⟩
  rw [← hX1] at hbe
  rw [← hX1]
  have HBE := Lib.hid hbe
  have HX1 := Lib.hid (show X1.length = 1 by rw [hX1]; exact be_length _ _)
  have HGR := Lib.hid (Gr.refl h)
  have HL := Lib.hid hL
  have HB := Lib.hid hb
  clear h hL hb hX hbe hk hn hl hX1 hT
  go_enter Tryz.func42, Tryz.ntmps42
  go_wp2_with fail
  go_region_law (first
    | (refine step_gr (by rfl) _ _ (by rfl) (Gr.ext HGR.out ?_) (by rfl) X1 _ _ _ (by rfl) ?_ ?_ ?_ ?_ ?_ ?_;
       (exact ((Mod.refl No w).drew).alloc _);
       (exact HX1.out.symm);
       (rw [HBE.out]; exact World.news_of_block (at10 _ _));
       (have := HL.out; have := HX1.out; omega);
       (intro e; have := HX1.out; rw [e] at this; simp at this);
       (have := HB.out; simp; omega);
       intro v1 w1 gr1 _; have H1 := Lib.hid gr1; clear gr1)
    | (refine step_gr_text (by rfl) _ _ (by rfl) H1.out (by rfl) T (by rfl) ?_ ?_ ?_;
       (have := HL.out; have := HX1.out; have := HT.out; rw [List.length_append]; omega);
       (have := HB.out; have := H1.out.mod.size; omega);
       intro v2 w2 gr2 _; have H2 := Lib.hid gr2; clear gr2))
  all_goals
    go_wp2
    go_ret
    refine ⟨v2, rfl, ?_⟩
    rw [← List.append_assoc]
    exact H2.out
theorem OwnB.ge {w : World} {base : Nat} {v : Value} {L : List UInt8} (h : OwnB w base v L) {g : Nat} (hg : v.ownBlock = some g) : base ≤ g ∧ g < w.heap.size := by
  rcases h.2 with ⟨rfl, _⟩ | ⟨g', cap, cur, rfl, hb, hh, _⟩
  · simp [Value.ownBlock] at hg
  · obtain rfl : g' = g := by simpa [Value.ownBlock] using hg
    exact ⟨hb, lt_of_block hh⟩
theorem OwnB.keeps {w w' : World} {base : Nat} {v : Value} {L : List UInt8} (h : OwnB w base v L) (hm : Mod (fun b => v.ownBlock = some b) w w') : Keeps (· < base) w w' :=
  hm.keeps fun b hb hs f => by have := (h.ge f).1; omega
set_option maxRecDepth 100000 in
theorem refPairs_ok {w : World} {base : Nat} {v : Value} {L : List UInt8} (h : OwnB w base v L) (hb : base ≤ w.heap.size) (hL : L.length ≤ 80000000) (l : List Pr) (hl : l.length ≤ 100000000) (hz : ∀ x ∈ l, x.a < 4294967296 ∧ x.b < 4294967296) {A : Option Addr} {c : Nat} (hrow : RowAt (· < base) w A (prCells l)) :
    Calls Tryz.prog 57 #[v, .slice A l.length c] w fun e w' => ∃ v', e = .returned v' ∧ Gr base v w v' w' (L ++ prs8 (l.take 255)) := by
  obtain ⟨n, hn⟩ : ∃ n, n = l.length := ⟨_, rfl⟩
  rw [← hn]
  have hn8 : n ≤ 100000000 := by omega
  have HN := Lib.hid hn
  have H0 := Lib.hid (And.intro h (And.intro hrow (And.intro hb (And.intro hL hz))))
  clear h hb hL hz hrow hn hl
  go_enter Tryz.func57, Tryz.ntmps57
  go_wp2
  go_loopw [5, 0] (fun i b wr => ∃ (j : Nat) (v' : Value), i = .int .i64 j ∧ v' = b ∧ j ≤ n ∧ j ≤ 255 ∧ Gr base v w v' wr (L ++ prs8 (l.take j))) (fun i _ _ => 255 - (intOf i).toNat)
  case atStart => exact ⟨0, v, rfl, rfl, by omega, by omega, by simpa [prs8] using Gr.refl H0.out.1⟩
  case round =>
    obtain ⟨j, v', rfl, rfl, hj, hj8, hg⟩ := hrel
    have HG := Lib.hid hg
    clear hg
    by_cases hlt : j < n
    · by_cases h255 : j < 255
      · obtain ⟨z, hz⟩ : ∃ z, l[j]? = some z := ⟨_, List.getElem?_eq_getElem (by have := HN.out; omega)⟩
        have hkp := H0.out.1.keeps HG.out.mod
        obtain ⟨b, o, rfl, hbb, hblt, hx0, hx1⟩ := prs_at (H0.out.2.1.keeps hkp) hz
        have hzz := H0.out.2.2.2.2 z (List.mem_of_getElem? hz)
        have HZ := Lib.hid (And.intro hz hzz)
        have p1 : (0:Int) ≤ j := by omega
        have p2 : (j:Int) < n := by omega
        have p3 : (j:Int) < 255 := by omega
        have hlen : (prs8 (l.take j)).length ≤ 8 * 255 := by rw [prs8_length, List.length_take]; omega
        have HX := Lib.hid (And.intro hlen (And.intro hbb hx1))
        have hP1 : ∀ W, Mod No wr W → Calls Tryz.prog 43 #[v', .int .u32 (z.a : Int)] W fun e w' => ∃ v2, e = .returned v2 ∧ Gr base v w v2 w' (L ++ prs8 (l.take j) ++ be 4 z.a) ∧ w'.cell? ⟨b, o + j * 2 + 1, none⟩ = some (.int .u32 (z.b : Int)) := by
          intro W hW
          have hge := HG.out.ext hW
          refine (put32_ok hge.own (Nat.le_trans H0.out.2.2.1 hge.mod.size) (by have := H0.out.2.2.2.1; rw [List.length_append]; omega) z.a hzz.1).mono fun e w' ⟨v2, e1, g1⟩ => ⟨v2, e1, hge.trans g1, ?_⟩
          exact g1.mod.cell (hW.cell hx1 id) (fun f => by have hbb' : b < base := hbb; have := (hge.own.ge f).1; simp at this; omega)
        have hP2 : ∀ W w1 v2, Gr base v w v2 w1 (L ++ prs8 (l.take j) ++ be 4 z.a) → Mod No w1 W → Calls Tryz.prog 43 #[v2, .int .u32 (z.b : Int)] W fun e w' => ∃ v3, e = .returned v3 ∧ Gr base v w v3 w' (L ++ prs8 (l.take (j + 1))) := by
          intro W w1 v2 g1 hW
          have hge := g1.ext hW
          refine (put32_ok hge.own (Nat.le_trans H0.out.2.2.1 hge.mod.size) (by have := H0.out.2.2.2.1; rw [List.length_append, List.length_append, be_length]; omega) z.b hzz.2).mono fun e w' ⟨v3, e1, g2⟩ => ⟨v3, e1, ?_⟩
          have := hge.trans g2
          rw [take_snoc' hz, prs8, List.flatMap_append, ← List.append_assoc]
          simpa [prs8] using this
        have HP1 := Lib.hid hP1
        have HP2 := Lib.hid hP2
        clear hP1 hP2 hz hzz hkp hlen
        go_wp2_with fail
        go_region_law (first
          | (go_simp; go_at_call 43; refine (HP2.out _ w1 v2 H1.out ?_).mono ?_; (repeat (first | with_reducible exact Mod.refl _ _ | refine Mod.drew ?_)); rintro e w2 ⟨v3, rfl, g2⟩; have H2 := Lib.hid g2; clear g2)
          | (go_simp; go_at_call 43; refine (HP1.out _ ?_).mono ?_; (repeat (first | with_reducible exact Mod.refl _ _ | refine Mod.drew ?_)); rintro e w1 ⟨v2, rfl, g1, d1⟩; have H1 := Lib.hid g1; clear g1))
        all_goals
          go_wp2
          refine ⟨⟨j + 1, v3, by go_num, rfl, by omega, by omega, H2.out⟩, by simp [intOf]; omega⟩
      · obtain rfl : j = 255 := by omega
        go_wp2
        go_ret
        exact ⟨v', rfl, HG.out⟩
    · have hk' : j = n := by omega
      subst hk'
      have hf : l.take 255 = l.take j := by rw [List.take_of_length_le (by have := HN.out; omega), List.take_of_length_le (by have := HN.out; omega)]
      have HF := Lib.hid hf
      clear hf
      go_wp2
      go_ret
      refine ⟨v', rfl, ?_⟩
      rw [HF.out]
      exact HG.out
end

end Go.Proofs.YtpkieilmlnlpkaaGreat
