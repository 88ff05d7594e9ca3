/-
  Package cfg: settings read.
-/
import Derived.Test.YtcnemhhbihhcfaaRdE
import Derived.Test.YtcnemhhbihhcfaaCfgX
namespace Go.Proofs.Ytcnemhhbihhcfaa
open Go.RowKit
set_option linter.unusedVariables false

/-- Settings that are being read. -/
structure CS where
  c : Con
  nt : Nat
  l : List Ten
  s : St
def Con.zero : Con := ⟨0, .zero, .zero, .zero, .zero, 0⟩
def csteps (B : List UInt8) : List (CS → CS) := [
  fun r => { r with c := { r.c with ip := (rnum B 4 r.s).1 }, s := (rnum B 4 r.s).2 },
  fun r => { r with c := { r.c with mac := M6.of (rtake B r.s 6).1 }, s := (rtake B r.s 6).2 },
  fun r => { r with c := { r.c with omac := M6.of (rtake B r.s 6).1 }, s := (rtake B r.s 6).2 },
  fun r => { r with c := { r.c with nmac := M6.of (rtake B r.s 6).1 }, s := (rtake B r.s 6).2 },
  fun r => { r with c := { r.c with key := K8.of (rtake B r.s 8).1 }, s := (rtake B r.s 8).2 },
  fun r => { r with c := { r.c with drain := (rnum B 4 r.s).1 }, s := (rnum B 4 r.s).2 },
  fun r => { r with nt := (rnum B 1 r.s).1, s := (rnum B 1 r.s).2 },
  fun r => { r with l := (rmany (rten B) r.nt r.s).1, s := (rmany (rten B) r.nt r.s).2 }]
def ck (B : List UInt8) (s : St) (k : Nat) : CS := ((csteps B).take k).foldl (fun r f => f r) ⟨.zero, 0, [], s⟩
/-- Settings read. -/
def rcon (B : List UInt8) (s : St) : CS := ck B s 8

set_option maxRecDepth 100000 in
set_option maxHeartbeats 2000000 in
theorem con_list_rd {S : Nat → Prop} {w : World} {C : Nat} {A : Option Addr} {c : Nat} {s0 : St} (B : List UInt8) (hb : w.heap[C]? = some (rdObj A B.length c s0.1 s0.2)) (hrow : RowAt S w A (bcells B)) (hat : s0.1 ≤ B.length) (hc : B.length ≤ c) (hB : B.length ≤ 100000000) (hS : ¬ S C) {bc bt bp T o n : Nat} (hST : ¬ S T) (hx : BoxesC w bc bt C T o) (hn : n ≤ 1000) (hSn : ∀ b, S b → b < w.heap.size) (hp : w.heap[bp]? = some (.cells #[.int .i64 (n : Int)] 3 (0, 0)))
    {cs : Array Value} {t : TypeId} (hT : w.heap[T]? = some (.cells cs t (0, 0))) (ho : o + 28 < cs.size) (h1 : T ≠ C) :
    Calls Try.prog 84 #[.pointer (some ⟨bc, 0, none⟩), .pointer (some ⟨bp, 0, none⟩), .pointer (some ⟨bt, 0, none⟩)] w fun e w' => e = .returned (.tuple #[]) ∧ w'.heap[C]? = some (rdObj A B.length c (rmany (rten B) n s0).2.1 (rmany (rten B) n s0).2.2) ∧
      (∃ (v : Value) (l : List TV), w'.heap[T]? = some (.cells (cs.setIfInBounds (o + 28) v) t (0, 0)) ∧ l.map (·.t) = (rmany (rten B) n s0).1 ∧ TVs w' w.heap.size v l) ∧ Mod (fun b => b = C ∨ b = T) w w' := by
  obtain ⟨R, hR⟩ : ∃ R : World → Prop, R = fun w' => w'.heap[C]? = some (rdObj A B.length c (rmany (rten B) n s0).2.1 (rmany (rten B) n s0).2.2) ∧
      (∃ (v : Value) (l : List TV), w'.heap[T]? = some (.cells (cs.setIfInBounds (o + 28) v) t (0, 0)) ∧ l.map (·.t) = (rmany (rten B) n s0).1 ∧ TVs w' w.heap.size v l) ∧ Mod (fun b => b = C ∨ b = T) w w' := ⟨_, rfl⟩
  have hd : ∀ W, W = w.drew → Calls Try.prog 85 #[.pointer (some ⟨C, 0, none⟩), .int .i64 n, .pointer (some ⟨T, o + 28, none⟩), .func (.func 35) #[.pointer (some ⟨C, 0, none⟩)] #[]] W fun e w' => e = .returned (.tuple #[]) ∧ R w' := by
    intro W hW
    subst hW
    rw [hR]
    exact (list_ten_rd (w := w.drew) (S := S) B hb (hrow.keeps (Mod.keeps (Mod.drew (Mod.refl No w)) (fun _ _ _ f => f))) hat hc hB hS (T := T) (o := o + 28) hST hSn hT ho h1 n hn).mono fun e w' ⟨e1, e2, e3, e4⟩ => ⟨e1, e2, e3, (Mod.refl _ w).drew.trans e4⟩
  have c0 := blk_cell hx.c 0
  have c1 := blk_cell hx.t 0
  have c2 := blk_cell hp 0
  simp at c0 c1 c2
  suffices hs : Calls Try.prog 84 #[.pointer (some ⟨bc, 0, none⟩), .pointer (some ⟨bp, 0, none⟩), .pointer (some ⟨bt, 0, none⟩)] w fun e w' => e = .returned (.tuple #[]) ∧ R w' by
    rw [hR] at hs; exact hs
  have HD := Lib.hid hd
  clear hb hrow hat hc hB hS hx hT ho hd hR hp hn h1 hST hSn
  go_enter Try.func84, Try.ntmps84
  go_wp2_with fail
  go_region_law (first | (go_simp; go_at_call 85; refine (HD.out _ rfl).mono ?_; rintro e w1 ⟨rfl, hr⟩; have HW := Lib.hid hr; clear hr))
  all_goals
    go_wp2
    first | go_end0 | (simp only [Exit.inBlock, Exit.then]; refine bodyPost_ret (results_none rfl _ _ _) rfl ?_) | refine bodyPost_ret (results_none rfl _ _ _) rfl ?_
    exact ⟨rfl, HW.out⟩

structure KG (w0 : World) (n C T : Nat) (A : Option Addr) (c : Nat) (B : List UInt8) (S : Nat → Prop) : Prop where
  bx : BoxesC w0 n (n + 1) C T 0
  rw3 : w0.heap[n + 3]? = some (.cells (conRow n).toArray 1 (0, 0))
  C_lt : C < n
  T_lt : T < n
  TC : T ≠ C
  row : RowAt S w0 A (bcells B)
  S_lt : ∀ b, S b → b < n
  SC : ¬ S C
  ST : ¬ S T
  hc : B.length ≤ c
  hB : B.length ≤ 100000000
structure KR (w0 : World) (n C T : Nat) (A : Option Addr) (c : Nat) (B : List UInt8) (r : CS) (vt : Value) (l : List TV) (w : World) : Prop where
  rd : w.heap[C]? = some (rdObj A B.length c r.s.1 r.s.2)
  le : r.s.1 ≤ B.length
  con : w.heap[T]? = some (.cells (r.c.cells vt) 48 (0, 0))
  mod : Mod (fun b => b = C ∨ b = T ∨ b = n + 2) w0 w
  hn : w.heap[n + 2]? = some (.cells #[.int .i64 (r.nt : Int)] 3 (0, 0))
  cnt : r.nt < 256
  map : l.map (·.t) = r.l
  tens : TVs w (n + 4) vt l
section
variable {w0 : World} {n C T : Nat} {A : Option Addr} {c : Nat} {B : List UInt8} {S : Nat → Prop} {r : CS} {vt : Value} {l : List TV} {w : World}
theorem KR.keep (h : KR w0 n C T A c B r vt l w) (g : KG w0 n C T A c B S) {b : Nat} {ob : Obj} (hb : w0.heap[b]? = some ob) (h1 : n ≤ b) (h2 : b ≠ n + 2) : w.heap[b]? = some ob := by
  refine h.mod.obj hb ?_
  have := g.C_lt
  have := g.T_lt
  rintro (f | f | f) <;> omega
theorem KR.boxes (h : KR w0 n C T A c B r vt l w) (g : KG w0 n C T A c B S) : BoxesC w n (n + 1) C T 0 := ⟨h.keep g g.bx.c (by omega) (by omega), h.keep g g.bx.t (by omega) (by omega)⟩
theorem KR.row (h : KR w0 n C T A c B r vt l w) (g : KG w0 n C T A c B S) : RowAt S w A (bcells B) := g.row.keeps (h.mod.keeps fun b hb hs f => by
  have := g.S_lt b hs
  rcases f with f | f | f
  · exact g.SC (by rw [← f]; exact hs)
  · exact g.ST (by rw [← f]; exact hs)
  · omega)
theorem TVs.mod {F : Nat → Prop} {w w' : World} {base : Nat} {v : Value} {l : List TV} (h : TVs w base v l) (hm : Mod F w w') (hF : ∀ b, base ≤ b → b < w.heap.size → ¬ F b) : TVs w' base v l :=
  ⟨own_mod h.own hm fun k hk => by
    rcases h.own.2 with ⟨rfl, _⟩ | ⟨g, cap, cur, rfl, hb, hg, _⟩
    · simp [Value.ownBlock] at hk
    · obtain rfl : g = k := by simpa [Value.ownBlock] using hk
      exact hF g hb (lt_of_block hg), fun x hx => (h.rows x hx).keeps (hm.keeps fun b hb hs => hF b hs.1 hb)⟩
theorem KR.next (h : KR w0 n C T A c B r vt l w) (g : KG w0 n C T A c B S) {w' : World} {c' : Con} {s' : St} (hs : s'.1 ≤ B.length) (hrd : w'.heap[C]? = some (rdObj A B.length c s'.1 s'.2)) (ht : w'.heap[T]? = some (.cells (c'.cells vt) 48 (0, 0)))
    (hm : Mod (fun b => b = C ∨ b = T) w w') : KR w0 n C T A c B { r with c := c', s := s' } vt l w' := by
  have k1 := g.C_lt
  have k2 := g.T_lt
  exact ⟨hrd, hs, ht, h.mod.trans (hm.mono fun b f => by rcases f with f | f; exact .inl f; exact .inr (.inl f)), hm.obj h.hn (by rintro (f | f) <;> omega), h.cnt, h.map, h.tens.mod hm (fun b hb _ f => by rcases f with f | f <;> omega)⟩
def KI (w0 : World) (n C T : Nat) (A : Option Addr) (c : Nat) (B : List UInt8) (s : St) (k : Nat) (w : World) : Prop := ∃ vt l, KR w0 n C T A c B (ck B s k) vt l w
theorem con_size (c : Con) (vt : Value) : (c.cells vt).size = 29 := rfl
theorem con_len (c : Con) (vt : Value) : (c.cells vt).toList.length = 29 := rfl
theorem con_set (c : Con) (vt : Value) (j : Nat) (v : Value) (c' : Con) (vt' : Value) (h : (c.cells vt).toList.set j v = (c'.cells vt').toList) : (Obj.cells ((c.cells vt).setIfInBounds j v) 48) = .cells (c'.cells vt') 48 := by
  congr 1
  apply Array.toList_inj.1
  simpa using h
theorem mac_splice (c : Con) (vt : Value) (xs : List UInt8) (h : xs.length = 6) : (splice (c.cells vt).toList 1 (bcells xs)).toArray = ({ c with mac := M6.of xs } : Con).cells vt := by
  match xs, h with
  | [a, b, c, d, e, f], _ => rfl
theorem omac_splice (c : Con) (vt : Value) (xs : List UInt8) (h : xs.length = 6) : (splice (c.cells vt).toList 7 (bcells xs)).toArray = ({ c with omac := M6.of xs } : Con).cells vt := by
  match xs, h with
  | [a, b, c, d, e, f], _ => rfl
theorem nmac_splice (c : Con) (vt : Value) (xs : List UInt8) (h : xs.length = 6) : (splice (c.cells vt).toList 13 (bcells xs)).toArray = ({ c with nmac := M6.of xs } : Con).cells vt := by
  match xs, h with
  | [a, b, c, d, e, f], _ => rfl
theorem ckey_splice (c : Con) (vt : Value) (xs : List UInt8) (h : xs.length = 8) : (splice (c.cells vt).toList 19 (bcells xs)).toArray = ({ c with key := K8.of xs } : Con).cells vt := by
  match xs, h with
  | [a, b, c, d, e, f, g, i], _ => rfl
end

section
variable {w0 : World} {n C T : Nat} {A : Option Addr} {c : Nat} {B : List UInt8} {S : Nat → Prop} {s : St} {w : World}
theorem ki_0 (g : KG w0 n C T A c B S) (h : KI w0 n C T A c B s 0 w) :
    Calls Try.prog 77 #[bxv n, bxv (n + 1)] w fun e w' => e = .returned (.tuple #[]) ∧ KI w0 n C T A c B s 1 w' := by
  obtain ⟨vt, l, h⟩ := h
  have hk : ck B s 1 = (fun r : CS => ({ r with c := { r.c with ip := (rnum B 4 r.s).1 }, s := (rnum B 4 r.s).2 } : CS)) (ck B s 0) := rfl
  unfold KI
  rw [hk]
  generalize ck B s 0 = r at h ⊢
  clear hk
  refine (con_ip_rd (o := 0) B h.rd (h.row g) h.le g.hc g.hB g.SC (h.boxes g) h.con (by rw [con_size]; decide) g.TC).mono fun e w' ⟨he, a1, a2, a3⟩ => ⟨he, vt, l, h.next g (rnum_le B 4 _ h.le) a1 ?_ a3⟩
  rw [a2]
  exact congrArg some (con_set _ _ _ _ _ _ rfl)
theorem ki_1 (g : KG w0 n C T A c B S) (h : KI w0 n C T A c B s 1 w) :
    Calls Try.prog 78 #[bxv n, bxv (n + 1)] w fun e w' => e = .returned (.tuple #[]) ∧ KI w0 n C T A c B s 2 w' := by
  obtain ⟨vt, l, h⟩ := h
  have hk : ck B s 2 = (fun r : CS => ({ r with c := { r.c with mac := M6.of (rtake B r.s 6).1 }, s := (rtake B r.s 6).2 } : CS)) (ck B s 1) := rfl
  unfold KI
  rw [hk]
  generalize ck B s 1 = r at h ⊢
  clear hk
  refine (con_mac_rd (o := 0) (cs := (r.c.cells vt).toList) B h.rd (h.row g) h.le g.hc g.hB g.SC (h.boxes g) h.con (by rw [con_len]; decide) g.TC).mono fun e w' ⟨he, a1, a2, a3⟩ => ⟨he, vt, l, h.next g (rtake_le B _ 6 h.le) a1 ?_ a3⟩
  rw [a2, Nat.zero_add, mac_splice _ _ _ (rtake_length _ _ _)]
theorem ki_2 (g : KG w0 n C T A c B S) (h : KI w0 n C T A c B s 2 w) :
    Calls Try.prog 79 #[bxv n, bxv (n + 1)] w fun e w' => e = .returned (.tuple #[]) ∧ KI w0 n C T A c B s 3 w' := by
  obtain ⟨vt, l, h⟩ := h
  have hk : ck B s 3 = (fun r : CS => ({ r with c := { r.c with omac := M6.of (rtake B r.s 6).1 }, s := (rtake B r.s 6).2 } : CS)) (ck B s 2) := rfl
  unfold KI
  rw [hk]
  generalize ck B s 2 = r at h ⊢
  clear hk
  refine (con_omac_rd (o := 0) (cs := (r.c.cells vt).toList) B h.rd (h.row g) h.le g.hc g.hB g.SC (h.boxes g) h.con (by rw [con_len]; decide) g.TC).mono fun e w' ⟨he, a1, a2, a3⟩ => ⟨he, vt, l, h.next g (rtake_le B _ 6 h.le) a1 ?_ a3⟩
  rw [a2, Nat.zero_add, omac_splice _ _ _ (rtake_length _ _ _)]
theorem ki_3 (g : KG w0 n C T A c B S) (h : KI w0 n C T A c B s 3 w) :
    Calls Try.prog 80 #[bxv n, bxv (n + 1)] w fun e w' => e = .returned (.tuple #[]) ∧ KI w0 n C T A c B s 4 w' := by
  obtain ⟨vt, l, h⟩ := h
  have hk : ck B s 4 = (fun r : CS => ({ r with c := { r.c with nmac := M6.of (rtake B r.s 6).1 }, s := (rtake B r.s 6).2 } : CS)) (ck B s 3) := rfl
  unfold KI
  rw [hk]
  generalize ck B s 3 = r at h ⊢
  clear hk
  refine (con_nmac_rd (o := 0) (cs := (r.c.cells vt).toList) B h.rd (h.row g) h.le g.hc g.hB g.SC (h.boxes g) h.con (by rw [con_len]; decide) g.TC).mono fun e w' ⟨he, a1, a2, a3⟩ => ⟨he, vt, l, h.next g (rtake_le B _ 6 h.le) a1 ?_ a3⟩
  rw [a2, Nat.zero_add, nmac_splice _ _ _ (rtake_length _ _ _)]
theorem ki_4 (g : KG w0 n C T A c B S) (h : KI w0 n C T A c B s 4 w) :
    Calls Try.prog 81 #[bxv n, bxv (n + 1)] w fun e w' => e = .returned (.tuple #[]) ∧ KI w0 n C T A c B s 5 w' := by
  obtain ⟨vt, l, h⟩ := h
  have hk : ck B s 5 = (fun r : CS => ({ r with c := { r.c with key := K8.of (rtake B r.s 8).1 }, s := (rtake B r.s 8).2 } : CS)) (ck B s 4) := rfl
  unfold KI
  rw [hk]
  generalize ck B s 4 = r at h ⊢
  clear hk
  refine (con_key_rd (o := 0) (cs := (r.c.cells vt).toList) B h.rd (h.row g) h.le g.hc g.hB g.SC (h.boxes g) h.con (by rw [con_len]; decide) g.TC).mono fun e w' ⟨he, a1, a2, a3⟩ => ⟨he, vt, l, h.next g (rtake_le B _ 8 h.le) a1 ?_ a3⟩
  rw [a2, Nat.zero_add, ckey_splice _ _ _ (rtake_length _ _ _)]
theorem ki_5 (g : KG w0 n C T A c B S) (h : KI w0 n C T A c B s 5 w) :
    Calls Try.prog 82 #[bxv n, bxv (n + 1)] w fun e w' => e = .returned (.tuple #[]) ∧ KI w0 n C T A c B s 6 w' := by
  obtain ⟨vt, l, h⟩ := h
  have hk : ck B s 6 = (fun r : CS => ({ r with c := { r.c with drain := (rnum B 4 r.s).1 }, s := (rnum B 4 r.s).2 } : CS)) (ck B s 5) := rfl
  unfold KI
  rw [hk]
  generalize ck B s 5 = r at h ⊢
  clear hk
  refine (con_drain_rd (o := 0) B h.rd (h.row g) h.le g.hc g.hB g.SC (h.boxes g) h.con (by rw [con_size]; decide) g.TC).mono fun e w' ⟨he, a1, a2, a3⟩ => ⟨he, vt, l, h.next g (rnum_le B 4 _ h.le) a1 ?_ a3⟩
  rw [a2]
  exact congrArg some (con_set _ _ _ _ _ _ rfl)
theorem ki_6 (g : KG w0 n C T A c B S) (h : KI w0 n C T A c B s 6 w) :
    Calls Try.prog 83 #[bxv n, bxv (n + 1), bxv (n + 2)] w fun e w' => e = .returned (.tuple #[]) ∧ KI w0 n C T A c B s 7 w' := by
  obtain ⟨vt, l, h⟩ := h
  have hk : ck B s 7 = (fun r : CS => ({ r with nt := (rnum B 1 r.s).1, s := (rnum B 1 r.s).2 } : CS)) (ck B s 6) := rfl
  unfold KI
  rw [hk]
  generalize ck B s 6 = r at h ⊢
  clear hk
  obtain ⟨P, p, e1, r1⟩ := own_rowAt h.tens.own
  subst e1
  have k1 := g.C_lt
  have k2 := g.T_lt
  refine (con_n_rd (o := 0) B h.rd (h.row g) h.le g.hc g.hB g.SC (h.boxes g) ((blk_cell h.con 28).trans rfl) h.hn (by omega)).mono fun e w' ⟨he, a1, a2, a3⟩ => ⟨he, _, l, ⟨a1, rnum_le B 1 _ h.le, a3.obj h.con (by rintro (f | f); exact g.TC f; omega), h.mod.trans (a3.mono fun b f => by rcases f with f | f; exact .inl f; exact .inr (.inr f)), a2, rnum_lt B 1 _, h.map, h.tens.mod a3 (fun b hb _ f => by rcases f with f | f <;> omega)⟩⟩
theorem ki_7 (g : KG w0 n C T A c B S) (h : KI w0 n C T A c B s 7 w) :
    Calls Try.prog 84 #[bxv n, bxv (n + 2), bxv (n + 1)] w fun e w' => e = .returned (.tuple #[]) ∧ KI w0 n C T A c B s 8 w' := by
  obtain ⟨vt, l, h⟩ := h
  have hk : ck B s 8 = (fun r : CS => ({ r with l := (rmany (rten B) r.nt r.s).1, s := (rmany (rten B) r.nt r.s).2 } : CS)) (ck B s 7) := rfl
  unfold KI
  rw [hk]
  have hl0 : (ck B s 7).l = [] := rfl
  generalize ck B s 7 = r at h hl0 ⊢
  clear hk
  have k1 := g.C_lt
  have k2 := g.T_lt
  have hsz : n + 3 < w.heap.size := Nat.lt_of_lt_of_le (lt_of_block g.rw3) h.mod.size
  refine (con_list_rd (o := 0) B h.rd (h.row g) h.le g.hc g.hB g.SC g.ST (h.boxes g) (by have := h.cnt; omega) (fun b hb => by have := g.S_lt b hb; omega) h.hn h.con (by rw [con_size]; decide) g.TC).mono fun e w' ⟨he, a1, ⟨v, l2, a2, a4, a5⟩, a3⟩ => ⟨he, v, l2, ⟨a1, rmany_le (rten_le B) _ _ h.le, ?_, h.mod.trans (a3.mono fun b f => by rcases f with f | f; exact .inl f; exact .inr (.inl f)), a3.obj h.hn (by rintro (f | f) <;> omega), h.cnt, a4, ?_⟩⟩
  · rw [a2]
    exact congrArg some (con_set _ _ _ _ _ _ rfl)
  · exact ⟨own_base a5.own (by omega), fun x hx => (a5.rows x hx).imp (fun b hb => ⟨by have := hb.1; omega, hb.2⟩)⟩
theorem ki_step (g : KG w0 n C T A c B S) : ∀ k w1 f cc, conFn[k]? = some f → (conCap n)[k]? = some cc → KI w0 n C T A c B s k w1 → w1.heap[n + 3]? = some (.cells (conRow n).toArray 1 (0, 0)) ∧ Calls Try.prog f cc w1 fun e w' => e = .returned (.tuple #[]) ∧ KI w0 n C T A c B s (k + 1) w' := by
  intro k w1 f cc hf hc h
  have hk : k < 8 := (List.getElem?_eq_some_iff.1 hf).1
  have hor : k = 0 ∨ k = 1 ∨ k = 2 ∨ k = 3 ∨ k = 4 ∨ k = 5 ∨ k = 6 ∨ k = 7 := by omega
  refine ⟨?_, ?_⟩
  · obtain ⟨vt, l, h⟩ := h
    exact h.keep g g.rw3 (by omega) (by omega)
  clear hk
  rcases hor with rfl | rfl | rfl | rfl | rfl | rfl | rfl | rfl
  · obtain rfl : 77 = f := Option.some.inj hf; obtain rfl : #[bxv n, bxv (n + 1)] = cc := Option.some.inj hc; exact ki_0 g h
  · obtain rfl : 78 = f := Option.some.inj hf; obtain rfl : #[bxv n, bxv (n + 1)] = cc := Option.some.inj hc; exact ki_1 g h
  · obtain rfl : 79 = f := Option.some.inj hf; obtain rfl : #[bxv n, bxv (n + 1)] = cc := Option.some.inj hc; exact ki_2 g h
  · obtain rfl : 80 = f := Option.some.inj hf; obtain rfl : #[bxv n, bxv (n + 1)] = cc := Option.some.inj hc; exact ki_3 g h
  · obtain rfl : 81 = f := Option.some.inj hf; obtain rfl : #[bxv n, bxv (n + 1)] = cc := Option.some.inj hc; exact ki_4 g h
  · obtain rfl : 82 = f := Option.some.inj hf; obtain rfl : #[bxv n, bxv (n + 1)] = cc := Option.some.inj hc; exact ki_5 g h
  · obtain rfl : 83 = f := Option.some.inj hf; obtain rfl : #[bxv n, bxv (n + 1), bxv (n + 2)] = cc := Option.some.inj hc; exact ki_6 g h
  · obtain rfl : 84 = f := Option.some.inj hf; obtain rfl : #[bxv n, bxv (n + 2), bxv (n + 1)] = cc := Option.some.inj hc; exact ki_7 g h

def zCon : Array Value := Con.zero.cells (.slice none 0 0)
/-- SETTINGS READ. -/
theorem config_rd (hb : w.heap[C]? = some (rdObj A B.length c s.1 s.2)) (hrow : RowAt S w A (bcells B)) (hat : s.1 ≤ B.length) (hc : B.length ≤ c) (hB : B.length ≤ 100000000) (hS : ¬ S C) (hST : ¬ S T) (hSl : ∀ b, S b → b < w.heap.size)
    (hT : w.heap[T]? = some (.cells zCon 48 (0, 0))) (hTC : T ≠ C) :
    Calls Try.prog 38 #[.pointer (some ⟨C, 0, none⟩), .pointer (some ⟨T, 0, none⟩)] w fun e w' => e = .returned (.tuple #[]) ∧ ∃ vt l, l.map (·.t) = (rcon B s).l ∧ (rcon B s).s.1 ≤ B.length ∧ w'.heap[C]? = some (rdObj A B.length c (rcon B s).s.1 (rcon B s).s.2) ∧
      w'.heap[T]? = some (.cells ((rcon B s).c.cells vt) 48 (0, 0)) ∧ TVs w' w.heap.size vt l ∧ Mod (fun b => b = C ∨ b = T) w w' := by
  have hC := lt_of_block hb
  have hTl := lt_of_block hT
  refine config_walk (fun w' => ∃ vt l, l.map (·.t) = (rcon B s).l ∧ (rcon B s).s.1 ≤ B.length ∧ w'.heap[C]? = some (rdObj A B.length c (rcon B s).s.1 (rcon B s).s.2) ∧
      w'.heap[T]? = some (.cells ((rcon B s).c.cells vt) 48 (0, 0)) ∧ TVs w' w.heap.size vt l ∧ Mod (fun b => b = C ∨ b = T) w w') (fun w0 hm hbx h2 h6 => ?_)
  have g : KG w0 w.heap.size C T A c B S := { bx := hbx, rw3 := h6, C_lt := hC, T_lt := hTl, TC := hTC, row := hrow.keeps (hm.keeps (fun _ _ _ f => f)), S_lt := hSl, SC := hS, ST := hST, hc := hc, hB := hB }
  refine ⟨KI w0 w.heap.size C T A c B s, ?_, ki_step g, fun w' ⟨vt, l, h'⟩ => ?_⟩
  · exact ⟨.slice none 0 0, [], ⟨hm.obj hb id, hat, hm.obj hT id, Mod.refl _ _, h2, show (0:Nat) < 256 by decide, rfl, ⟨rfl, .inl ⟨rfl, rfl⟩⟩, by simp⟩⟩
  · have hsz := hm.size
    refine ⟨vt, l, h'.map, h'.le, h'.rd, h'.con, ⟨own_base h'.tens.own (by omega), fun x hx => (h'.tens.rows x hx).imp (fun b hb => ⟨by have := hb.1; omega, hb.2⟩)⟩, ?_⟩
    refine (hm.mono (fun _ f => f.elim)).trans' h'.mod (fun i hi f => ?_)
    rcases f with f | f | f
    · exact .inl f
    · exact .inr f
    · omega
end

end Go.Proofs.Ytcnemhhbihhcfaa
