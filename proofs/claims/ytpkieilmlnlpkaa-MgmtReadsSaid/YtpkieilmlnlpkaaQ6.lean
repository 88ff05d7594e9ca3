/-
  MgA, MgB, MgC, MgF, MgH, MgD, MgE, MgJ, MgK, MgG in one text (pack.py).
-/
import Derived.Test.YtpkieilmlnlpkaaQ5
import Derived.Laws.CopyOwn
namespace Go.Proofs.Ytpkieilmlnlpkaa

section
attribute [local go_sem] stPair gtPair gtK8 gtM6 run_store_func
attribute [local go_sem high] neqPair eqK8 eqM6
attribute [local go_sem ↓] load_fold store_fold alloc_fold slice_op_fold con_load_fold chg_load_fold ten_zero_fold con_alloc_fold con_store_fold con_zero_fold chg_alloc_fold chg_store_fold chg_zero_fold chg_put_fold macLoad_fold macStore_fold keyLoad_fold keyStore_fold chg_make_fold chg_slice_fold
open Go.RowKit
set_option linter.unusedVariables false
/-- A request as data; its change's and its settings' cells. -/
structure AskD where
  key : K8
  op : Int
  ver : Nat
  chg : List Value
  con : List Value
  name : List UInt8
def AskD.cells (a : AskD) : List Value := bcells a.key.l ++ ([.int .i64 a.op, .int .u64 (a.ver : Int)] ++ (a.chg ++ (a.con ++ [.string (str a.name)])))
structure AskD.ok (a : AskD) : Prop where
  chg : a.chg.length = 35
  con : a.con.length = 29
  chg1 : ∀ v ∈ a.chg, v.oneCell' = true
  con1 : ∀ v ∈ a.con, v.oneCell' = true
def AskD.zero : AskD := ⟨.zero, 0, 0, zChg.toList, zCon.toList, []⟩
theorem K8.cells_len (k : K8) : (bcells k.l).length = 8 := rfl
theorem AskD.len {a : AskD} (h : a.ok) : a.cells.length = 75 := by
  simp only [AskD.cells, List.length_append, K8.cells_len, h.chg, h.con, List.length_cons, List.length_nil]
theorem AskD.size {a : AskD} (h : a.ok) : a.cells.toArray.size = 75 := by rw [List.size_toArray]; exact a.len h
theorem AskD.one {a : AskD} (h : a.ok) : a.cells.toArray.all (·.oneCell') = true := by
  rw [Array.all_eq_true_iff_forall_mem]
  intro v hv
  simp only [List.mem_toArray, AskD.cells, List.mem_append, List.mem_cons, List.mem_nil_iff, or_false] at hv
  rcases hv with h1 | (rfl | rfl) | h1 | h1 | rfl
  · exact bcells_one _ v h1
  · rfl
  · rfl
  · exact h.chg1 v h1
  · exact h.con1 v h1
  · rfl
theorem AskD.zero_ok : AskD.zero.ok := ⟨rfl, rfl, by decide +kernel, by decide +kernel⟩
theorem AskD.at8 (a : AskD) : a.cells[8]? = some (.int .i64 a.op) := by
  rw [AskD.cells, List.getElem?_append_right (by rw [K8.cells_len]; exact Nat.le_refl _), K8.cells_len]; rfl
theorem AskD.at9 (a : AskD) : a.cells[9]? = some (.int .u64 (a.ver : Int)) := by
  rw [AskD.cells, List.getElem?_append_right (by rw [K8.cells_len]; decide), K8.cells_len]; rfl
theorem AskD.atKey (a : AskD) (j : Nat) (hj : j < 8) : a.cells[j]? = (bcells a.key.l)[j]? := by
  rw [AskD.cells, List.getElem?_append_left (by rw [K8.cells_len]; exact hj)]
theorem AskD.atChg {a : AskD} (h : a.ok) (j : Nat) (hj : j < 35) : a.cells[10 + j]? = a.chg[j]? := by
  rw [AskD.cells, List.getElem?_append_right (by rw [K8.cells_len]; omega), K8.cells_len, List.getElem?_append_right (by simp; omega), List.getElem?_append_left (by rw [h.chg]; simp; omega)]
  congr 1
  simp
  omega
theorem AskD.atCon {a : AskD} (h : a.ok) (j : Nat) (hj : j < 29) : a.cells[45 + j]? = a.con[j]? := by
  rw [AskD.cells, List.getElem?_append_right (by rw [K8.cells_len]; omega), K8.cells_len, List.getElem?_append_right (by simp; omega), List.getElem?_append_right (by rw [h.chg]; simp; omega), List.getElem?_append_left (by rw [h.con, h.chg]; simp; omega)]
  congr 1
  rw [h.chg]
  simp
  omega
theorem AskD.at74 {a : AskD} (h : a.ok) : a.cells[74]? = some (.string (str a.name)) := by
  rw [AskD.cells, List.getElem?_append_right (by rw [K8.cells_len]; omega), K8.cells_len, List.getElem?_append_right (by simp), List.getElem?_append_right (by rw [h.chg]; simp), List.getElem?_append_right (by rw [h.con, h.chg]; simp), h.chg, h.con]
  rfl
theorem splice_app {α : Type} (p m q m' : List α) (o : Nat) (ho : p.length = o) (hm : m'.length = m.length) : splice (p ++ (m ++ q)) o m' = p ++ (m' ++ q) := by
  subst ho
  simp [splice, hm, List.drop_append]
theorem set_app {α : Type} (p q : List α) (x y : α) (o : Nat) (ho : p.length = o) : (p ++ (x :: q)).set o y = p ++ (y :: q) := by
  subst ho
  simp
theorem AskD.setKey (a : AskD) (k : K8) : splice a.cells 0 (bcells k.l) = { a with key := k }.cells :=
  splice_app [] _ _ _ 0 rfl rfl
theorem AskD.setVer (a : AskD) (v : Nat) : a.cells.set 9 (.int .u64 (v : Int)) = { a with ver := v }.cells := by
  have := set_app (bcells a.key.l ++ [.int .i64 a.op]) (a.chg ++ (a.con ++ [.string (str a.name)])) (.int .u64 (a.ver : Int)) (.int .u64 (v : Int)) 9 rfl
  simpa [AskD.cells] using this
theorem AskD.setChg {a : AskD} (h : a.ok) (c : List Value) (hc : c.length = 35) : splice a.cells 10 c = { a with chg := c }.cells := by
  have := splice_app (bcells a.key.l ++ [.int .i64 a.op, .int .u64 (a.ver : Int)]) a.chg (a.con ++ [.string (str a.name)]) c 10 rfl (by rw [h.chg, hc])
  simpa [AskD.cells] using this
theorem AskD.setCon {a : AskD} (h : a.ok) (c : List Value) (hc : c.length = 29) : splice a.cells 45 c = { a with con := c }.cells := by
  have := splice_app (bcells a.key.l ++ ([.int .i64 a.op, .int .u64 (a.ver : Int)] ++ a.chg)) a.con [.string (str a.name)] c 45 (by simp [K8.cells_len, h.chg]) (by rw [h.con, hc])
  simpa [AskD.cells] using this
theorem AskD.setName {a : AskD} (h : a.ok) (n : List UInt8) : a.cells.set 74 (.string (str n)) = { a with name := n }.cells := by
  have := set_app (bcells a.key.l ++ ([.int .i64 a.op, .int .u64 (a.ver : Int)] ++ (a.chg ++ a.con))) [] (.string (str a.name)) (.string (str n)) 74 (by simp [K8.cells_len, h.chg, h.con])
  simpa [AskD.cells] using this
set_option maxRecDepth 100000 in
theorem askBox_raw (CA : Array Value) (h : CA.size = 75) (W : World) : (Instr.box 40 (.agg CA)).run Try.prog W = .ok (.pointer (some ⟨W.heap.size, 0, none⟩)) (W.alloc (.cells CA 40)) := by
  go_simp
def askLoad (v : Value) : Sem Value := Instr.loadAt 40 v
theorem askLoad_fold (v : Value) : Instr.loadAt 40 v = askLoad v := rfl
attribute [local go_sem ↓] askLoad_fold
def askStore (p v : Value) : Sem Unit := Instr.storeAt 40 p v
theorem askStore_fold (p v : Value) : Instr.storeAt 40 p v = askStore p v := rfl
attribute [local go_sem ↓] askStore_fold
def askAlloc (v : Value) : Sem Value := Instr.alloc 40 true v
theorem askAlloc_fold (v : Value) : Instr.alloc 40 true v = askAlloc v := rfl
attribute [local go_sem ↓] askAlloc_fold
def askBox (v : Value) : Sem Value := Instr.box 40 v
theorem askBox_fold (v : Value) : Instr.box 40 v = askBox v := rfl
attribute [local go_sem ↓] askBox_fold
def askZero : Sem Value := Instr.build 40 #[]
theorem askZero_fold (ρ : Operand → Value) (dst : Option Tmp) (ty : TypeId) (pos : String) (after : Array Edge) (g : Option (Nat × Bool)) :
    execOp ρ { dst := dst, op := .build 40 #[], type := ty, pos := pos, after := after, guard := g } = (do pure (Next.value (← askZero)) : Sem Next) := by
  show (do pure (Next.value (← Instr.build 40 (#[].map fun (i, x) => (i, ρ x)))) : Sem Next) = _
  simp only [Array.map_empty]
  rfl
attribute [local go_sem ↓] askZero_fold
theorem askSize : (Try.prog.info? 40).map (·.size) = some 75 := by kernel_rfl
set_option maxRecDepth 100000 in
theorem askAlloc_run (W : World) : (askAlloc (.tuple #[])).run Try.prog W = .ok (.pointer (some ⟨W.heap.size, 0, none⟩)) (W.alloc (.cells AskD.zero.cells.toArray 40)) := by kernel_rfl
set_option maxRecDepth 100000 in
theorem askZero_run (W : World) : askZero.run Try.prog W = .ok (.agg AskD.zero.cells.toArray) W := by kernel_rfl
theorem askBox_run (CA : Array Value) (h : CA.size = 75) (W : World) : (askBox (.agg CA)).run Try.prog W = .ok (.pointer (some ⟨W.heap.size, 0, none⟩)) (W.alloc (.cells CA 40)) := askBox_raw CA h W
theorem askLoad_run {W : World} {b : Nat} {CA : Array Value} (h : W.heap[b]? = some (.cells CA 40 (0, 0))) (hc : CA.size = 75) : (askLoad (.pointer (some ⟨b, 0, none⟩))).run Try.prog W = .ok (.agg CA) W := by
  simp only [askLoad, Instr.loadAt, Instr.sureAddr, Sem.run_bind, Sem.run_pure, Result.andThen_ok]
  exact run_loadVar_row W b _ _ CA (0, 0) _ h Try.underlying40 rfl (by rw [askSize, hc])
theorem askStore_run {W : World} {b : Nat} {old CA : Array Value} (h : W.heap[b]? = some (.cells old 40 (0, 0))) (ho : old.size = 75) (hc : CA.size = 75) (h1 : CA.all (·.oneCell') = true) :
    (askStore (.pointer (some ⟨b, 0, none⟩)) (.agg CA)).run Try.prog W = .ok () (W.setRow b CA) := by
  simp only [askStore, Instr.storeAt, Instr.sureAddr, Sem.run_bind, Sem.run_pure, Result.andThen_ok]
  exact run_storeVar_row W b _ _ old CA h (by rw [askSize, hc]) (by rw [ho, hc]) h1
theorem askBox_new (CA : Array Value) (h : CA.size = 75) : ∀ W : World, (askBox (.agg CA)).run Try.prog W = .ok (.pointer (some ⟨W.heap.size, 0, none⟩)) (W.alloc (.cells CA 40)) := askBox_run CA h
theorem askStore_new (W : World) (CA : Array Value) (hc : CA.size = 75) (h1 : CA.all (·.oneCell') = true) : (askStore (.pointer (some ⟨W.heap.size, 0, none⟩)) (.agg CA)).run Try.prog (W.alloc (.cells AskD.zero.cells.toArray 40)) = .ok () (W.alloc (.cells CA 40)) := by
  rw [← setRow_alloc W AskD.zero.cells.toArray CA]
  exact askStore_run (at10 W _) rfl hc h1
theorem askStore_newd (W : World) (CA : Array Value) (hc : CA.size = 75) (h1 : CA.all (·.oneCell') = true) : (askStore (.pointer (some ⟨W.heap.size, 0, none⟩)) (.agg CA)).run Try.prog (W.alloc (.cells AskD.zero.cells.toArray 40)).drew = .ok () (W.alloc (.cells CA 40)).drew := by
  rw [← setRow_alloc W AskD.zero.cells.toArray CA]
  exact askStore_run (W := (W.alloc (.cells AskD.zero.cells.toArray 40)).drew) (at10 W _) rfl hc h1
/-- A block that is a request. -/
def askAt (W : World) (b : Nat) (a : AskD) : Prop := W.heap[b]? = some (.cells a.cells.toArray 40 (0, 0))
theorem askAt_chg {W : World} {b : Nat} {a : AskD} (h : askAt W b a) (ha : a.ok) (c : Array Value) (hc : c.size = 35) (h1 : c.all (·.oneCell') = true) :
    ∃ W', (chgStore (.pointer (some ⟨b, 10, none⟩)) (.agg c)).run Try.prog W = .ok () W' ∧ askAt W' b { a with chg := c.toList } ∧ Mod (fun k => k = b) W W' := by
  refine ⟨_, arrStore_in chgSize h (by rw [AskD.size ha]; decide) hc h1, ?_, setRow_mod _⟩
  rw [askAt, setRow_heap _ _ _ _ _ _ h]
  simp only
  rw [AskD.setChg ha _ (by simpa using hc)]
theorem askAt_con {W : World} {b : Nat} {a : AskD} (h : askAt W b a) (ha : a.ok) (c : Array Value) (hc : c.size = 29) (h1 : c.all (·.oneCell') = true) :
    ∃ W', (conStore (.pointer (some ⟨b, 45, none⟩)) (.agg c)).run Try.prog W = .ok () W' ∧ askAt W' b { a with con := c.toList } ∧ Mod (fun k => k = b) W W' := by
  refine ⟨_, arrStore_in conSize h (by rw [AskD.size ha]; decide) hc h1, ?_, setRow_mod _⟩
  rw [askAt, setRow_heap _ _ _ _ _ _ h]
  simp only
  rw [AskD.setCon ha _ (by simpa using hc)]
theorem askAt_cell {W : World} {b : Nat} {a : AskD} (h : askAt W b a) (j : Nat) : W.cell? ⟨b, j, none⟩ = a.cells[j]? := by
  rw [blk_cell h]; simp
theorem askAt_chgLoad {W : World} {b : Nat} {a : AskD} (h : askAt W b a) (ha : a.ok) : (chgLoad (.pointer (some ⟨b, 10, none⟩))).run Try.prog W = .ok (.agg a.chg.toArray) W := by
  refine run_loadAt_mid W b 10 _ a.chg _ (fun j v hj => ?_) Try.underlying35 rfl (by rw [chgSize, ha.chg])
  have := (List.getElem?_eq_some_iff.1 hj).1
  rw [askAt_cell h, AskD.atChg ha j (by rw [← ha.chg]; exact this), hj]
theorem askAt_conLoad {W : World} {b : Nat} {a : AskD} (h : askAt W b a) (ha : a.ok) : (conLoad (.pointer (some ⟨b, 45, none⟩))).run Try.prog W = .ok (.agg a.con.toArray) W := by
  refine run_loadAt_mid W b 45 _ a.con _ (fun j v hj => ?_) Try.underlying38 rfl (by rw [conSize, ha.con])
  have := (List.getElem?_eq_some_iff.1 hj).1
  rw [askAt_cell h, AskD.atCon ha j (by rw [← ha.con]; exact this), hj]
theorem askAt_keyLoad {W : World} {b : Nat} {a : AskD} (h : askAt W b a) : (keyLoad (.pointer (some ⟨b, 0, none⟩))).run Try.prog W = .ok (.agg (bcells a.key.l).toArray) W := by
  refine run_loadAt_mid W b 0 _ (bcells a.key.l) _ (fun j v hj => ?_) Try.underlying24 rfl (by rw [keySize, K8.cells_len])
  have := (List.getElem?_eq_some_iff.1 hj).1
  rw [Nat.zero_add, askAt_cell h, AskD.atKey _ j (by simpa [K8.cells_len] using this), hj]
set_option maxRecDepth 100000 in
theorem reqBox_raw (CA : Array Value) (h : CA.size = 75) (W : World) : (Instr.box 44 (.agg CA)).run Try.prog W = .ok (.pointer (some ⟨W.heap.size, 0, none⟩)) (W.alloc (.cells CA 44)) := by
  go_simp
def reqLoad (v : Value) : Sem Value := Instr.loadAt 44 v
theorem reqLoad_fold (v : Value) : Instr.loadAt 44 v = reqLoad v := rfl
attribute [local go_sem ↓] reqLoad_fold
def reqStore (p v : Value) : Sem Unit := Instr.storeAt 44 p v
theorem reqStore_fold (p v : Value) : Instr.storeAt 44 p v = reqStore p v := rfl
attribute [local go_sem ↓] reqStore_fold
def reqAlloc (v : Value) : Sem Value := Instr.alloc 44 true v
theorem reqAlloc_fold (v : Value) : Instr.alloc 44 true v = reqAlloc v := rfl
attribute [local go_sem ↓] reqAlloc_fold
def reqBox (v : Value) : Sem Value := Instr.box 44 v
theorem reqBox_fold (v : Value) : Instr.box 44 v = reqBox v := rfl
attribute [local go_sem ↓] reqBox_fold
def reqZero : Sem Value := Instr.build 44 #[]
theorem reqZero_fold (ρ : Operand → Value) (dst : Option Tmp) (ty : TypeId) (pos : String) (after : Array Edge) (g : Option (Nat × Bool)) :
    execOp ρ { dst := dst, op := .build 44 #[], type := ty, pos := pos, after := after, guard := g } = (do pure (Next.value (← reqZero)) : Sem Next) := by
  show (do pure (Next.value (← Instr.build 44 (#[].map fun (i, x) => (i, ρ x)))) : Sem Next) = _
  simp only [Array.map_empty]
  rfl
attribute [local go_sem ↓] reqZero_fold
theorem reqSize : (Try.prog.info? 44).map (·.size) = some 75 := by kernel_rfl
set_option maxRecDepth 100000 in
theorem reqAlloc_run (W : World) : (reqAlloc (.tuple #[])).run Try.prog W = .ok (.pointer (some ⟨W.heap.size, 0, none⟩)) (W.alloc (.cells AskD.zero.cells.toArray 44)) := by kernel_rfl
set_option maxRecDepth 100000 in
theorem reqZero_run (W : World) : reqZero.run Try.prog W = .ok (.agg AskD.zero.cells.toArray) W := by kernel_rfl
theorem reqBox_run (CA : Array Value) (h : CA.size = 75) (W : World) : (reqBox (.agg CA)).run Try.prog W = .ok (.pointer (some ⟨W.heap.size, 0, none⟩)) (W.alloc (.cells CA 44)) := reqBox_raw CA h W
theorem reqLoad_run {W : World} {b : Nat} {CA : Array Value} (h : W.heap[b]? = some (.cells CA 44 (0, 0))) (hc : CA.size = 75) : (reqLoad (.pointer (some ⟨b, 0, none⟩))).run Try.prog W = .ok (.agg CA) W := by
  simp only [reqLoad, Instr.loadAt, Instr.sureAddr, Sem.run_bind, Sem.run_pure, Result.andThen_ok]
  exact run_loadVar_row W b _ _ CA (0, 0) _ h Try.underlying44 rfl (by rw [reqSize, hc])
theorem reqStore_run {W : World} {b : Nat} {old CA : Array Value} (h : W.heap[b]? = some (.cells old 44 (0, 0))) (ho : old.size = 75) (hc : CA.size = 75) (h1 : CA.all (·.oneCell') = true) :
    (reqStore (.pointer (some ⟨b, 0, none⟩)) (.agg CA)).run Try.prog W = .ok () (W.setRow b CA) := by
  simp only [reqStore, Instr.storeAt, Instr.sureAddr, Sem.run_bind, Sem.run_pure, Result.andThen_ok]
  exact run_storeVar_row W b _ _ old CA h (by rw [reqSize, hc]) (by rw [ho, hc]) h1
theorem reqBox_new (CA : Array Value) (h : CA.size = 75) : ∀ W : World, (reqBox (.agg CA)).run Try.prog W = .ok (.pointer (some ⟨W.heap.size, 0, none⟩)) (W.alloc (.cells CA 44)) := reqBox_run CA h
theorem reqStore_new (W : World) (CA : Array Value) (hc : CA.size = 75) (h1 : CA.all (·.oneCell') = true) : (reqStore (.pointer (some ⟨W.heap.size, 0, none⟩)) (.agg CA)).run Try.prog (W.alloc (.cells AskD.zero.cells.toArray 44)) = .ok () (W.alloc (.cells CA 44)) := by
  rw [← setRow_alloc W AskD.zero.cells.toArray CA]
  exact reqStore_run (at10 W _) rfl hc h1
/-- A block that is a request. -/
def reqAt (W : World) (b : Nat) (a : AskD) : Prop := W.heap[b]? = some (.cells a.cells.toArray 44 (0, 0))
theorem reqAt_chg {W : World} {b : Nat} {a : AskD} (h : reqAt W b a) (ha : a.ok) (c : Array Value) (hc : c.size = 35) (h1 : c.all (·.oneCell') = true) :
    ∃ W', (chgStore (.pointer (some ⟨b, 10, none⟩)) (.agg c)).run Try.prog W = .ok () W' ∧ reqAt W' b { a with chg := c.toList } ∧ Mod (fun k => k = b) W W' := by
  refine ⟨_, arrStore_in chgSize h (by rw [AskD.size ha]; decide) hc h1, ?_, setRow_mod _⟩
  rw [reqAt, setRow_heap _ _ _ _ _ _ h]
  simp only
  rw [AskD.setChg ha _ (by simpa using hc)]
theorem reqAt_con {W : World} {b : Nat} {a : AskD} (h : reqAt W b a) (ha : a.ok) (c : Array Value) (hc : c.size = 29) (h1 : c.all (·.oneCell') = true) :
    ∃ W', (conStore (.pointer (some ⟨b, 45, none⟩)) (.agg c)).run Try.prog W = .ok () W' ∧ reqAt W' b { a with con := c.toList } ∧ Mod (fun k => k = b) W W' := by
  refine ⟨_, arrStore_in conSize h (by rw [AskD.size ha]; decide) hc h1, ?_, setRow_mod _⟩
  rw [reqAt, setRow_heap _ _ _ _ _ _ h]
  simp only
  rw [AskD.setCon ha _ (by simpa using hc)]
theorem reqAt_cell {W : World} {b : Nat} {a : AskD} (h : reqAt W b a) (j : Nat) : W.cell? ⟨b, j, none⟩ = a.cells[j]? := by
  rw [blk_cell h]; simp
theorem reqAt_chgLoad {W : World} {b : Nat} {a : AskD} (h : reqAt W b a) (ha : a.ok) : (chgLoad (.pointer (some ⟨b, 10, none⟩))).run Try.prog W = .ok (.agg a.chg.toArray) W := by
  refine run_loadAt_mid W b 10 _ a.chg _ (fun j v hj => ?_) Try.underlying35 rfl (by rw [chgSize, ha.chg])
  have := (List.getElem?_eq_some_iff.1 hj).1
  rw [reqAt_cell h, AskD.atChg ha j (by rw [← ha.chg]; exact this), hj]
theorem reqAt_conLoad {W : World} {b : Nat} {a : AskD} (h : reqAt W b a) (ha : a.ok) : (conLoad (.pointer (some ⟨b, 45, none⟩))).run Try.prog W = .ok (.agg a.con.toArray) W := by
  refine run_loadAt_mid W b 45 _ a.con _ (fun j v hj => ?_) Try.underlying38 rfl (by rw [conSize, ha.con])
  have := (List.getElem?_eq_some_iff.1 hj).1
  rw [reqAt_cell h, AskD.atCon ha j (by rw [← ha.con]; exact this), hj]
theorem reqAt_keyLoad {W : World} {b : Nat} {a : AskD} (h : reqAt W b a) : (keyLoad (.pointer (some ⟨b, 0, none⟩))).run Try.prog W = .ok (.agg (bcells a.key.l).toArray) W := by
  refine run_loadAt_mid W b 0 _ (bcells a.key.l) _ (fun j v hj => ?_) Try.underlying24 rfl (by rw [keySize, K8.cells_len])
  have := (List.getElem?_eq_some_iff.1 hj).1
  rw [Nat.zero_add, reqAt_cell h, AskD.atKey _ j (by simpa [K8.cells_len] using this), hj]
theorem chgStore_nw (W : World) (CA : Array Value) (hc : CA.size = 35) (h1 : CA.all (·.oneCell') = true) : (chgStore (.pointer (some ⟨W.heap.size, 0, none⟩)) (.agg CA)).run Try.prog (W.alloc (.cells zChg 35)) = .ok () (W.alloc (.cells CA 35)) := by
  rw [← setRow_alloc W zChg CA]
  exact chgStore_row (at10 W _) zSize hc h1
theorem conStore_nw (W : World) (CA : Array Value) (hc : CA.size = 29) (h1 : CA.all (·.oneCell') = true) : (conStore (.pointer (some ⟨W.heap.size, 0, none⟩)) (.agg CA)).run Try.prog (W.alloc (.cells zCon 38)) = .ok () (W.alloc (.cells CA 38)) := by
  rw [← setRow_alloc W zCon CA]
  exact conStore_row (at10 W _) rfl hc h1
theorem keyLoad_mid (W : World) (b o : Nat) (k : K8) (h : ∀ j v, (bcells k.l)[j]? = some v → W.cell? ⟨b, o + j, none⟩ = some v) : (keyLoad (.pointer (some ⟨b, o, none⟩))).run Try.prog W = .ok (.agg (bcells k.l).toArray) W :=
  run_loadAt_mid W b o _ (bcells k.l) _ h Try.underlying24 rfl (by rw [keySize, K8.cells_len])
def askPut (k o : Value) : Sem Value := Instr.build 40 #[(0, k), (1, o)]
theorem askPut_fold (ρ : Operand → Value) (x y : Operand) (dst : Option Tmp) (ty : TypeId) (pos : String) (after : Array Edge) (g : Option (Nat × Bool)) :
    execOp ρ { dst := dst, op := .build 40 #[(0, x), (1, y)], type := ty, pos := pos, after := after, guard := g } = (do pure (Next.value (← askPut (ρ x) (ρ y))) : Sem Next) := by
  show (do pure (Next.value (← Instr.build 40 (#[(0, x), (1, y)].map fun (i, x) => (i, ρ x)))) : Sem Next) = _
  have hm : (#[((0 : Nat), x), (1, y)].map fun (i, x) => (i, ρ x)) = #[(0, ρ x), (1, ρ y)] := by simp
  rw [hm]
  rfl
attribute [local go_sem ↓] askPut_fold
set_option maxRecDepth 100000 in
theorem askPut_run (k : K8) (o : Int) (W : World) : (askPut (.agg (bcells k.l).toArray) (.int .i64 o)).run Try.prog W = .ok (.agg { AskD.zero with key := k, op := o }.cells.toArray) W := by kernel_rfl
def reqPut (o : Value) : Sem Value := Instr.build 44 #[(1, o)]
theorem reqPut_fold (ρ : Operand → Value) (y : Operand) (dst : Option Tmp) (ty : TypeId) (pos : String) (after : Array Edge) (g : Option (Nat × Bool)) :
    execOp ρ { dst := dst, op := .build 44 #[(1, y)], type := ty, pos := pos, after := after, guard := g } = (do pure (Next.value (← reqPut (ρ y))) : Sem Next) := by
  show (do pure (Next.value (← Instr.build 44 (#[(1, y)].map fun (i, x) => (i, ρ x)))) : Sem Next) = _
  have hm : (#[((1 : Nat), y)].map fun (i, x) => (i, ρ x)) = #[(1, ρ y)] := by simp
  rw [hm]
  rfl
attribute [local go_sem ↓] reqPut_fold
set_option maxRecDepth 100000 in
theorem reqPut_run (o : Int) (W : World) : (reqPut (.int .i64 o)).run Try.prog W = .ok (.agg { AskD.zero with op := o }.cells.toArray) W := by kernel_rfl
end

section
attribute [local go_sem] stPair gtPair gtK8 gtM6 run_store_func
attribute [local go_sem high] neqPair eqK8 eqM6
attribute [local go_sem ↓] load_fold store_fold alloc_fold slice_op_fold con_load_fold chg_load_fold ten_zero_fold con_alloc_fold con_store_fold con_zero_fold chg_alloc_fold chg_store_fold chg_zero_fold chg_put_fold macLoad_fold macStore_fold keyLoad_fold keyStore_fold chg_make_fold chg_slice_fold askLoad_fold askStore_fold askAlloc_fold askBox_fold askZero_fold reqLoad_fold reqStore_fold reqAlloc_fold reqBox_fold reqZero_fold askPut_fold reqPut_fold
open Go.RowKit
set_option linter.unusedVariables false
/-- What a request's rest comes to. -/
structure MRes where
  ok : Bool
  ver : Nat
  put : Bool
  cn : List UInt8
  ct : Ten
  cc : Con
  nm : List UInt8
def MRes.none (ok : Bool) : MRes := ⟨ok, 0, false, [], .zero, .zero, []⟩
def mnamed : List UInt8 → MRes
  | [] => .none false
  | x :: r => if x.toNat = r.length then { MRes.none true with nm := r } else .none false
def mchg (B : List UInt8) : MRes := if (ocg B).2.2.2 = 0 then ⟨true, 0, (ocg B).1, (ocg B).2.1, (ocg B).2.2.1, .zero, []⟩ else .none false
def mcon (B : List UInt8) : MRes := if (ocf B).2.2 = 0 ∧ (ocf B).2.1 = [] then { MRes.none true with cc := (ocf B).1 } else .none false
def mrest (op : Nat) (B : List UInt8) : MRes :=
  if op = 1 then (if B.length = 8 then { MRes.none true with ver := beval B } else .none false)
  else if op = 2 then mchg B
  else if op = 3 then mcon B
  else if op = 4 ∨ op = 5 ∨ op = 6 then .none (decide (B = []))
  else if op = 7 ∨ op = 8 then mnamed B
  else .none false
/-- The request that a rest makes. -/
def MRes.ask (r : MRes) (key : K8) (op : Nat) (x : TV) (Q : Option Addr) (q : Nat) : AskD :=
  ⟨key, op, r.ver, (cChg r.put r.cn x).toList, (r.cc.cells (.slice Q 0 q)).toList, r.nm⟩
theorem MRes.ask_ok {S : Nat → Prop} {w : World} (r : MRes) (key : K8) (op : Nat) {x : TV} (Q : Option Addr) (q : Nat) (h : x.Rows S w) : (r.ask key op x Q q).ok :=
  ⟨by simpa [MRes.ask] using cChg_size _ _ _, rfl, fun v hv => Array.all_eq_true_iff_forall_mem.1 (cChg_one r.put r.cn h) v (by simpa [MRes.ask] using hv),
    fun v hv => Array.all_eq_true_iff_forall_mem.1 (con_one r.cc Q 0 q) v (by simpa [MRes.ask] using hv)⟩
def askNew (key : K8) (op : Nat) : AskD := { AskD.zero with key := key, op := op }
theorem askNew_ok (key : K8) (op : Nat) : (askNew key op).ok := ⟨AskD.zero_ok.chg, AskD.zero_ok.con, AskD.zero_ok.chg1, AskD.zero_ok.con1⟩
theorem zchg_eq : zChg.toList = (cChg false [] TV.zero).toList := by kernel_rfl
theorem zcon_eq : zCon.toList = (Con.zero.cells (.slice none 0 0)).toList := by kernel_rfl
theorem askNew_eq (key : K8) (op : Nat) (b : Bool) : askNew key op = (MRes.none b).ask key op TV.zero none 0 := by
  have h1 := zchg_eq
  have h2 := zcon_eq
  unfold askNew AskD.zero MRes.ask MRes.none
  simp only
  rw [← h1, ← h2]
/-- What a closure that reads leaves: whether it was read, and in block T the request. -/
def RdC (r : MRes) (key : K8) (op T : Nat) (W : World) (e : Ending) (w' : World) : Prop :=
  e = .returned (.bool r.ok) ∧ Mod (fun b => b = T) W w' ∧ (r.ok = true → ∃ (x : TV) (Q : Option Addr) (q : Nat), askAt w' T (r.ask key op x Q q) ∧ x.t = r.ct ∧ x.Rows (fun b => W.heap.size ≤ b) w')
theorem rdC_none {key : K8} {op T : Nat} {W w' : World} {b : Bool} (hT : askAt W T (askNew key op)) (hw : w' = W) : RdC (.none b) key op T W (.returned (.bool b)) w' := by
  subst hw
  rw [askNew_eq key op b] at hT
  exact ⟨rfl, Mod.refl _ _, fun _ => ⟨TV.zero, none, 0, hT, rfl, TV.zero_rows _ _⟩⟩
theorem askName_eq (key : K8) (op : Nat) (r : List UInt8) : { askNew key op with name := r } = ({ MRes.none true with nm := r } : MRes).ask key op TV.zero none 0 := by
  rw [askNew_eq key op true]; simp only [MRes.ask, MRes.none]
theorem askVer_eq (key : K8) (op v : Nat) : { askNew key op with ver := v } = ({ MRes.none true with ver := v } : MRes).ask key op TV.zero none 0 := by
  rw [askNew_eq key op true]; simp only [MRes.ask, MRes.none]
theorem askChg_eq (key : K8) (op : Nat) (put : Bool) (name : List UInt8) (t : Ten) (x : TV) : { askNew key op with chg := (cChg put name x).toList } = (⟨true, 0, put, name, t, .zero, []⟩ : MRes).ask key op x none 0 := by
  rw [askNew_eq key op true]; simp only [MRes.ask, MRes.none]
theorem askCon_eq (key : K8) (op : Nat) (cc : Con) (Q : Option Addr) (q : Nat) : { askNew key op with con := (cc.cells (.slice Q 0 q)).toList } = ({ MRes.none true with cc := cc } : MRes).ask key op TV.zero Q q := by
  rw [askNew_eq key op true]; simp only [MRes.ask, MRes.none]
theorem rd_nothing {w : World} {T n c : Nat} {A : Option Addr} :
    Calls Try.prog 25 #[.pointer (some ⟨T, 0, none⟩), .slice A n c] w fun e w' => e = .returned (.bool (decide (n = 0))) ∧ w' = w := by
  obtain ⟨b, hb⟩ : ∃ b, b = decide (n = 0) := ⟨_, rfl⟩
  have p : ((n : Int) == 0) = b := by
    rw [hb, Bool.eq_iff_iff]
    simp
  rw [← hb]
  clear hb
  go_enter Try.func25, Try.ntmps25
  go_wp2
  go_ret
  exact ⟨rfl, rfl⟩
set_option maxRecDepth 100000 in
theorem rd_named {S : Nat → Prop} {w : World} {T c : Nat} {A : Option Addr} {key : K8} {op : Nat} (B : List UInt8) (hT : askAt w T (askNew key op)) (hrow : RowAt S w A (bcells B)) (hc : B.length ≤ c) (h63 : B.length ≤ 100000000) :
    Calls Try.prog 27 #[.pointer (some ⟨T, 0, none⟩), .slice A B.length c] w (RdC (mnamed B) key op T w) := by
  match B, hrow, hc, h63 with
  | [], hrow, hc, h63 =>
    have HT := Lib.hid hT
    clear hT hrow
    show Calls _ _ #[_, .slice A 0 c] w _
    go_enter Try.func27, Try.ntmps27
    go_wp2
    go_ret
    exact rdC_none HT.out rfl
  | x :: r, hrow, hc, h63 =>
    obtain ⟨b, o, rfl, _, _, hcl⟩ := hrow.open (by simp [bcells])
    have c0 := hcl 0 (.int .u8 (x.toNat : Int)) rfl
    rw [Nat.add_zero] at c0
    obtain ⟨A', sl, rl⟩ := own_tail (x :: r).length c 1 (some ⟨b, o, none⟩) (by simp) hc
    have hr1 := rl S w _ hrow
    have hd : ((bcells (x :: r)).drop 1).take ((x :: r).length - 1) = bcells r := by
      show (bcells r).take r.length = _
      rw [List.take_of_length_le (by rw [bcells_length]; exact Nat.le_refl _)]
    rw [hd] at hr1
    have hcv := conv_row (w := w) (c - 1) hr1
    have hl : (x :: r).length - 1 = r.length := by simp
    obtain ⟨n, hn⟩ : ∃ n, n = (x :: r).length := ⟨_, rfl⟩
    rw [← hn] at sl hc h63
    rw [← hn]
    have hrn : r.length = n - 1 := by rw [hn]; simp
    have hn0 : 0 < n := by rw [hn]; simp
    rw [hrn] at hcv
    have p0 : ((n : Int) == 0) = false := by rw [beq_eq_false_iff_ne]; omega
    have p1 : (0 : Int) < n := by omega
    have hx := x.toNat_lt
    have ht74 : w.cell? ⟨T, 74, none⟩ = some (.string (str [])) := (askAt_cell hT 74).trans (AskD.at74 (askNew_ok key op))
    have fr := blk_free hT 74
    have hfin : (w.setCell ⟨T, 74, none⟩ (.string (str r))).heap[T]? = some (.cells ({ askNew key op with name := r } : AskD).cells.toArray 40 (0, 0)) := by
      rw [heap_setCell_row hT, ← AskD.setName (askNew_ok key op) r]
      simp
    have HT := Lib.hid hT
    have HF := Lib.hid (And.intro hfin (And.intro hrn hn))
    have hpos : ∀ W, (Instr.slice 22 (.slice (some ⟨b, o, none⟩) n c) (some (.int .i64 1)) none none).run Try.prog W = .ok (.slice A' (n - 1) (c - 1)) W := sl
    clear hT hrow hcl sl rl hr1 hd hfin hl hn
    have p3 : (1:Int) ≤ n := by omega
    by_cases hq : x.toNat = r.length
    · have p2 : ((x.toNat : Int) != (n : Int) - 1) = false := by rw [bne_eq_false_iff_eq]; omega
      have hm : mnamed (x :: r) = { MRes.none true with nm := r } := by simp [mnamed, hq]
      rw [hm]
      have H0 := Lib.hid hrn
      clear hm hrn hq
      go_enter Try.func27, Try.ntmps27
      go_wp2
      go_ret
      exact ⟨rfl, Mod.setCell (F := fun b => b = T) (p := ⟨T, 74, none⟩) (Mod.refl _ _) (.inr rfl) _, fun _ => ⟨TV.zero, none, 0, by rw [askAt, ← askName_eq]; exact HF.out.1, rfl, TV.zero_rows _ _⟩⟩
    · have p2 : ((x.toNat : Int) != (n : Int) - 1) = true := by rw [bne_iff_ne]; omega
      have hm : mnamed (x :: r) = .none false := by simp [mnamed, hq]
      rw [hm]
      clear hm hrn hq
      go_enter Try.func27, Try.ntmps27
      go_wp2
      go_ret
      exact rdC_none HT.out rfl
end

section
attribute [local go_sem] stPair gtPair gtK8 gtM6 run_store_func
attribute [local go_sem high] neqPair eqK8 eqM6
attribute [local go_sem ↓] load_fold store_fold alloc_fold slice_op_fold con_load_fold chg_load_fold ten_zero_fold con_alloc_fold con_store_fold con_zero_fold chg_alloc_fold chg_store_fold chg_zero_fold chg_put_fold macLoad_fold macStore_fold keyLoad_fold keyStore_fold chg_make_fold chg_slice_fold askLoad_fold askStore_fold askAlloc_fold askBox_fold askZero_fold reqLoad_fold reqStore_fold reqAlloc_fold reqBox_fold reqZero_fold askPut_fold reqPut_fold
open Go.RowKit
set_option linter.unusedVariables false
/-- A version that is read, byte by byte. -/
def vfold (l : List UInt8) : Nat := l.foldl (fun n x => n % 2 ^ 56 * 256 + x.toNat) 0
theorem vfold_snoc (l : List UInt8) (x : UInt8) : vfold (l ++ [x]) = vfold l % 2 ^ 56 * 256 + x.toNat := by simp [vfold]
theorem vfold_beval : ∀ (l : List UInt8), l.length ≤ 8 → vfold l = beval l := by
  intro l
  have h : ∀ k, k ≤ 8 → k ≤ l.length → vfold (l.take k) = beval (l.take k) := by
    intro k
    induction k with
    | zero => intros; simp [vfold, beval]
    | succ k ih =>
      intro h8 hl
      have h1 := ih (by omega) (by omega)
      rw [List.take_succ_eq_append_getElem (by omega), vfold_snoc, beval_snoc, h1]
      have h2 := beval_lt (l.take k)
      rw [List.length_take, Nat.min_eq_left (by omega)] at h2
      have h3 : (256 : Nat) ^ k ≤ 256 ^ 7 := Nat.pow_le_pow_right (by omega) (by omega)
      rw [Nat.mod_eq_of_lt (by have : (256:Nat) ^ 7 = 2 ^ 56 := rfl; omega)]
  intro hl
  have := h l.length hl (Nat.le_refl _)
  rwa [List.take_length] at this
set_option maxRecDepth 100000 in
theorem rd_begin {w : World} {T c : Nat} {A : Option Addr} {key : K8} {op : Nat} (B : List UInt8) (hT : askAt w T (askNew key op)) (hrow : RowAt (fun b => b ≠ T) w A (bcells B)) (hc : B.length ≤ c) (hB : B.length ≤ 100000000) :
    Calls Try.prog 29 #[.pointer (some ⟨T, 0, none⟩), .slice A B.length c] w (RdC (if B.length = 8 then { MRes.none true with ver := beval B } else .none false) key op T w) := by
  obtain ⟨n, hn⟩ : ∃ n, n = B.length := ⟨_, rfl⟩
  rw [← hn] at hc hB
  rw [← hn]
  have H0 := Lib.hid (And.intro hT (And.intro hrow hn))
  obtain ⟨res, hres⟩ : ∃ res : MRes, res = (if n = 8 then { MRes.none true with ver := beval B } else .none false) := ⟨_, rfl⟩
  rw [← hres]
  have HRES := Lib.hid hres
  clear hT hrow hn hres
  go_enter Try.func29, Try.ntmps29
  go_wp2
  go_loopw [6, 9] (fun x i wr => ∃ (k : Nat), i = .int .i64 k ∧ k ≤ n ∧ askAt wr T { askNew key op with ver := vfold (B.take k) } ∧ Mod (fun b => b = T) w wr) (fun _ i _ => n - (intOf i).toNat)
  case atStart => exact ⟨0, rfl, by omega, H0.out.1, Mod.refl _ _⟩
  case round =>
    obtain ⟨k, rfl, hk, hat, hm⟩ := hrel
    by_cases hlt : k < n
    · obtain ⟨x, hx⟩ : ∃ x, B[k]? = some x := ⟨_, List.getElem?_eq_getElem (by have := H0.out.2.2; omega)⟩
      have hxc : (bcells B)[k]? = some (.int .u8 (x.toNat : Int)) := by simp [bcells, hx]
      have hrow' := H0.out.2.1.keeps (hm.keeps (fun b _ hb f => hb f))
      obtain ⟨b, o, rfl, hbT, _, hcell⟩ := hrow'.open (by intro e; rw [e] at hxc; simp at hxc)
      have hc0 := hcell k _ hxc
      obtain ⟨m, hmv⟩ : ∃ m, m = vfold (B.take k) := ⟨_, rfl⟩
      obtain ⟨m', hm'⟩ : ∃ m', m' = m % 2 ^ 56 := ⟨_, rfl⟩
      have c9 : wr.cell? ⟨T, 9, none⟩ = some (.int .u64 (m : Int)) := by rw [askAt_cell hat, AskD.at9, hmv]
      have f9 := blk_free hat 9
      have hx8 := x.toNat_lt
      have hm6 : m' < 2 ^ 56 := by rw [hm']; exact Nat.mod_lt _ (by decide)
      have e1 : IntKind.u64.wrap ((m : Int) * 256) = (m' : Int) * 256 := by rw [hm']; simp [IntKind.wrap, IntKind.bits, IntKind.signed]; omega
      have e2 : IntKind.u64.wrap (x.toNat : Int) = (x.toNat : Int) := by simp [IntKind.wrap, IntKind.bits, IntKind.signed]; omega
      have e3 := or_low m' x.toNat hm6 hx8
      have e4 : (m' : Int) * 256 + (x.toNat : Int) = ((m' * 256 + x.toNat : Nat) : Int) := by omega
      have e5 : vfold (B.take (k + 1)) = m' * 256 + x.toNat := by
        obtain ⟨hlx, ex⟩ := List.getElem?_eq_some_iff.1 hx
        rw [List.take_succ_eq_append_getElem hlx, ex, vfold_snoc, ← hmv, ← hm']
      have hfin : askAt (wr.setCell ⟨T, 9, none⟩ (.int .u64 ((m' * 256 + x.toNat : Nat) : Int))) T { askNew key op with ver := vfold (B.take (k + 1)) } := by
        have hs := AskD.setVer { askNew key op with ver := vfold (B.take k) } (m' * 256 + x.toNat)
        rw [askAt, heap_setCell_row hat, e5]
        simp only [List.setIfInBounds_toArray]
        rw [hs]
      have hmf : Mod (fun b => b = T) w (wr.setCell ⟨T, 9, none⟩ (.int .u64 ((m' * 256 + x.toNat : Nat) : Int))) := Mod.setCell (p := ⟨T, 9, none⟩) hm (.inr rfl) _
      have HX := Lib.hid (And.intro hfin (And.intro hmf e4))
      have p1 : (0:Int) ≤ k := by omega
      have p2 : (k:Int) < n := by omega
      clear hx hxc hcell hmv hm' hm6 hx8 hat hm hfin hmf e4 e5 hrow' hbT
      go_wp2
      rw [HX.out.2.2]
      exact ⟨⟨k + 1, by go_num, by omega, HX.out.1, HX.out.2.1⟩, by simp [intOf]; omega⟩
    · have hk' : k = n := by omega
      subst hk'
      have HR := Lib.hid (And.intro hat hm)
      clear hat hm
      by_cases h8 : k = 8
      · subst h8
        go_wp2
        go_ret
        rw [HRES.out, if_pos (by trivial)]
        refine ⟨rfl, HR.out.2, fun _ => ⟨TV.zero, none, 0, ?_, rfl, TV.zero_rows _ _⟩⟩
        have := HR.out.1
        rw [H0.out.2.2, List.take_length, vfold_beval _ (by rw [← H0.out.2.2]; exact Nat.le_refl _), askVer_eq] at this
        exact this
      · have p8 : ((k : Int) == 8) = false := by rw [beq_eq_false_iff_ne]; omega
        go_wp2
        go_ret
        rw [HRES.out, if_neg h8]
        exact ⟨rfl, HR.out.2, fun f => by cases f⟩
set_option maxRecDepth 100000 in
theorem rd_stage {w : World} {T c : Nat} {A : Option Addr} {key : K8} {op : Nat} (B : List UInt8) (hT : askAt w T (askNew key op)) (hrow : RowAt (fun b => b < w.heap.size) w A (bcells B)) (hc : B.length ≤ c) (hB : B.length ≤ 100000000) :
    Calls Try.prog 31 #[.pointer (some ⟨T, 0, none⟩), .slice A B.length c] w (RdC (mchg B) key op T w) := by
  obtain ⟨put, name, t, ce, hq⟩ : ∃ put name t ce, ocg B = (put, name, t, ce) := ⟨_, _, _, _, rfl⟩
  have HC := Lib.hid (chg_q (openChange_ok B hrow hc hB) hq)
  have hmc : mchg B = if ce = 0 then ⟨true, 0, put, name, t, .zero, []⟩ else .none false := by rw [mchg, hq]
  rw [hmc]
  obtain ⟨n, hn⟩ : ∃ n, n = B.length := ⟨_, rfl⟩
  rw [← hn] at HC
  rw [← hn]
  have H0 := Lib.hid hT
  clear hT hrow hn hmc hq hc hB
  obtain ⟨bb, hbb⟩ : ∃ bb, bb = decide (ce = 0) := ⟨_, rfl⟩
  have p0 : ((ce : Int) == 0) = bb := by rw [hbb, Bool.eq_iff_iff]; simp
  obtain ⟨res, hres⟩ : ∃ res : MRes, res = if ce = 0 then ⟨true, 0, put, name, t, .zero, []⟩ else .none false := ⟨_, rfl⟩
  rw [← hres]
  have HR := Lib.hid (And.intro hbb hres)
  clear hbb hres
  go_enter Try.func31, Try.ntmps31
  go_wp2_with (first
    | (go_at_call 32; refine HC.out.mono ?_; rintro e w1 ⟨CA, x, rfl, a1, a2, a3, a4, a5, a6⟩
       obtain ⟨W1, hst, hat, hmt⟩ := askAt_chg (a4.obj H0.out id) (askNew_ok key op) CA a5 a6
       have HN := Lib.hid (And.intro a1 (And.intro a2 (And.intro a3 (And.intro a4 (And.intro hat hmt))))); clear a1 a2 a3 a4 a5 a6 hat hmt)
    | fail)
  go_ret
  obtain ⟨a1, a2, a3, a4, hat, hmt⟩ := HN.out
  obtain ⟨hbb, hres⟩ := HR.out
  have hm : Mod (fun b => b = T) w W1 := (a4.mono (fun _ f => f.elim)).trans hmt
  by_cases h0 : ce = 0
  · rw [hres, if_pos h0]
    rw [h0] at hbb
    rw [hbb]
    have hTlt := lt_of_block H0.out
    refine ⟨rfl, hm, fun _ => ⟨x, none, 0, ?_, a2, a3.keeps (hmt.keeps (fun b _ hb f => by subst f; omega))⟩⟩
    rw [a1, askChg_eq key op put name t] at hat
    exact hat
  · rw [hres, if_neg h0]
    rw [hbb, decide_eq_false h0]
    exact ⟨rfl, hm, fun f => by cases f⟩
set_option maxRecDepth 100000 in
theorem rd_gate {w : World} {T c : Nat} {A : Option Addr} {key : K8} {op : Nat} (B : List UInt8) (hT : askAt w T (askNew key op)) (hrow : RowAt (fun b => b < w.heap.size) w A (bcells B)) (hc : B.length ≤ c) (hB : B.length ≤ 100000000) :
    Calls Try.prog 35 #[.pointer (some ⟨T, 0, none⟩), .slice A B.length c] w (RdC (mcon B) key op T w) := by
  obtain ⟨cc, lt, ce, hq⟩ : ∃ cc lt ce, ocf B = (cc, lt, ce) := ⟨_, _, _, rfl⟩
  have HC := Lib.hid (con_q (openConfig_ok B hrow hc hB) hq)
  have hmc : mcon B = if ce = 0 ∧ lt = [] then { MRes.none true with cc := cc } else .none false := by rw [mcon, hq]
  rw [hmc]
  obtain ⟨n, hn⟩ : ∃ n, n = B.length := ⟨_, rfl⟩
  rw [← hn] at HC
  rw [← hn]
  have H0 := Lib.hid hT
  clear hT hrow hn hmc hq hc hB
  have hfin : ∀ (W1 w1 : World) (CA : Array Value) (Q : Option Addr) (p : Nat), Mod No w w1 → Mod (fun b => b = T) w1 W1 → askAt W1 T { askNew key op with con := CA.toList } → CA = cc.cells (.slice Q lt.length p) → RdC (if ce = 0 ∧ lt = [] then { MRes.none true with cc := cc } else .none false) key op T w (.returned (.bool (decide (ce = 0 ∧ lt = [])))) W1 := by
    intro W1 w1 CA Q p a4 hmt hat a1
    have hm : Mod (fun b => b = T) w W1 := (a4.mono (fun _ f => f.elim)).trans hmt
    by_cases h0 : ce = 0 ∧ lt = []
    · rw [if_pos h0, decide_eq_true h0]
      refine ⟨rfl, hm, fun _ => ⟨TV.zero, Q, p, ?_, rfl, TV.zero_rows _ _⟩⟩
      rw [a1, h0.2] at hat
      rw [askAt, ← askCon_eq]
      exact hat
    · rw [if_neg h0, decide_eq_false h0]
      exact ⟨rfl, hm, fun f => by cases f⟩
  have HF := Lib.hid hfin
  clear hfin
  by_cases h0 : ce = 0
  · subst h0
    obtain ⟨bb, hbb⟩ : ∃ bb, bb = decide (((0:Nat) = 0 ∧ lt = [])) := ⟨_, rfl⟩
    obtain ⟨m, hml⟩ : ∃ m, m = lt.length := ⟨_, rfl⟩
    have p0 : ((m : Int) == 0) = bb := by
      rw [hbb, Bool.eq_iff_iff, hml]
      simp
    obtain ⟨res, hres⟩ : ∃ res : MRes, res = if 0 = 0 ∧ lt = [] then { MRes.none true with cc := cc } else .none false := ⟨_, rfl⟩
    rw [← hres]
    have HR := Lib.hid (And.intro hbb (And.intro hres hml))
    clear hbb hres hml
    go_enter Try.func35, Try.ntmps35
    go_wp2_with (first
      | (go_at_call 36; refine HC.out.mono ?_; rintro e w1 ⟨CA, Q, p, l, rfl, a1, a2, a3, a4, a5, a6⟩
         obtain ⟨W1, hst, hat, hmt⟩ := askAt_con (a4.obj H0.out id) (askNew_ok key op) CA a5 a6
         have c73 : W1.cell? ⟨T, 73, none⟩ = some (.slice Q m p) := (askAt_cell hat 73).trans ((AskD.atCon (a := { askNew key op with con := CA.toList }) ⟨(askNew_ok key op).chg, by simpa using a5, (askNew_ok key op).chg1, fun v hv => Array.all_eq_true_iff_forall_mem.1 a6 v (by simpa using hv)⟩ 28 (by decide)).trans (by simp only; rw [a1, HR.out.2.2]; rfl))
         have HN := Lib.hid (And.intro a1 (And.intro a4 (And.intro hat hmt))); clear a1 a2 a3 a4 a5 a6 hat hmt)
      | fail)
    go_ret
    obtain ⟨a1, a4, hat, hmt⟩ := HN.out
    rw [HR.out.1, HR.out.2.1]
    exact HF.out _ _ _ _ _ a4 hmt hat a1
  · have p0 : ((ce : Int) == 0) = false := by rw [beq_eq_false_iff_ne]; omega
    have hbb : decide (ce = 0 ∧ lt = []) = false := by simp [h0]
    obtain ⟨res, hres⟩ : ∃ res : MRes, res = if ce = 0 ∧ lt = [] then { MRes.none true with cc := cc } else .none false := ⟨_, rfl⟩
    rw [← hres]
    have HR := Lib.hid (And.intro hbb hres)
    clear hbb hres
    go_enter Try.func35, Try.ntmps35
    go_wp2_with (first
      | (go_at_call 36; refine HC.out.mono ?_; rintro e w1 ⟨CA, Q, p, l, rfl, a1, a2, a3, a4, a5, a6⟩
         obtain ⟨W1, hst, hat, hmt⟩ := askAt_con (a4.obj H0.out id) (askNew_ok key op) CA a5 a6
         have HN := Lib.hid (And.intro a1 (And.intro a4 (And.intro hat hmt))); clear a1 a2 a3 a4 a5 a6 hat hmt)
      | fail)
    go_ret
    obtain ⟨a1, a4, hat, hmt⟩ := HN.out
    have := HF.out _ _ _ _ _ a4 hmt hat a1
    rw [HR.out.1] at this
    rw [HR.out.2]
    exact this
end

section
attribute [local go_sem] stPair gtPair gtK8 gtM6 run_store_func
attribute [local go_sem high] neqPair eqK8 eqM6
attribute [local go_sem ↓] load_fold store_fold alloc_fold slice_op_fold con_load_fold chg_load_fold ten_zero_fold con_alloc_fold con_store_fold con_zero_fold chg_alloc_fold chg_store_fold chg_zero_fold chg_put_fold macLoad_fold macStore_fold keyLoad_fold keyStore_fold chg_make_fold chg_slice_fold askLoad_fold askStore_fold askAlloc_fold askBox_fold askZero_fold reqLoad_fold reqStore_fold reqAlloc_fold reqBox_fold reqZero_fold askPut_fold reqPut_fold
open Go.RowKit
set_option linter.unusedVariables false
/-- Two bytes of a number. -/
def eb (e : Int) : List UInt8 := [UInt8.ofNat ((e / 256) % 256).toNat, UInt8.ofNat (e % 256).toNat]
theorem eb_cells (x : Int) : bcells (eb x) = [.int .u8 (x / 256 % 256), .int .u8 (x % 256)] := by
  simp [bcells, eb]
  omega
theorem owns_lit {w : World} {E : TypeId} (cs : Array Value) (n : Nat) (h : cs.size = n) (hn : n ≤ 1000) : (w.alloc (.cells cs E)).ownsRow w.heap.size E 1 (.slice (some ⟨w.heap.size, 0, none⟩) n n) n cs.toList :=
  ⟨by simpa using h, .inr ⟨w.heap.size, n, cs, rfl, Nat.le_refl _, at10 w _, Nat.le_refl _, by unfold maxLen; omega, by simpa using h, by rw [Nat.mul_one, List.take_of_length_le (by simp [h])]⟩⟩
set_option maxRecDepth 100000 in
theorem reply_ok {S : Nat → Prop} {w : World} (x : Int) (B : List UInt8) {A : Option Addr} {c : Nat} (hrow : RowAt S w A (bcells B)) (hB : B.length ≤ 100000) :
    Calls Try.prog 10 #[.int .i64 x, .slice A B.length c] w fun e w' => ∃ v, e = .returned v ∧ OwnB w' w.heap.size v (eb x ++ B) ∧ Mod No w w' := by
  obtain ⟨i0, hi, hz0, hz1, hz2⟩ := info_parts infoU8
  have hm1 : Mod No w (w.alloc (.cells #[.int .u8 (x / 256 % 256), .int .u8 (x % 256)] 5)) := (Mod.refl _ _).alloc _
  obtain ⟨v2, w2, hrun, ho2, hg2, hb2⟩ := run_append_row (P := Try.prog) (w.alloc (.cells #[.int .u8 (x / 256 % 256), .int .u8 (x % 256)] 5)) w.heap.size 22 22 5 i0 _ 1 1 Try.underlying22 hi hz0 hz1 hz2 rfl (by decide) _ _ _ (owns_lit _ 2 rfl (by decide)) A B.length c (bcells B) (hrow.keeps (hm1.keeps (fun _ _ _ f => f))) (by rw [bcells_length, Nat.mul_one]) (bcells_one B) (by unfold maxLen; omega) (by omega) (by simp)
  have hm2 : Mod No w w2 := hm1.trans' (F := No) (G := fun b => b = w.heap.size) (Mod.grown (Mod.refl _ _) hg2 (fun q hq => .inr (by simpa [Value.ownBlock] using hq.symm))) (fun i hi hg => by omega)
  have hfin : OwnB w2 w.heap.size v2 (eb x ++ B) := by
    unfold OwnB
    rw [bcells_append, eb_cells, List.length_append]
    exact ho2
  have HF := Lib.hid (And.intro hfin hm2)
  clear hrow hm1 ho2 hg2 hb2 hm2 hfin hi hz0 hz1 hz2
  go_enter Try.func10, Try.ntmps10
  go_wp2_with (at_builtin; refine Lib.wpList_append_run _ (by rfl) _ _ _ _ (by rfl) _ _ (by rfl) (by rfl) _ _ hrun ?_)
  go_ret
  exact ⟨_, rfl, HF.out⟩
theorem or_byte (n x : Nat) (hn : n < 256) (hx : x < 256) : bits .or .i64 ((n : Int) * 256) (x : Int) = (n : Int) * 256 + x := by
  have h1 : (BitVec.ofInt 64 ((n : Int) * 256)) = BitVec.ofNat 64 (n <<< 8) := by
    have e : ((n : Int) * (256 : Int)) = ((n <<< 8 : Nat) : Int) := by rw [Nat.shiftLeft_eq]; omega
    rw [e]
    exact BitVec.ofInt_natCast ..
  have h2 : (BitVec.ofInt 64 (x : Int)) = BitVec.ofNat 64 x := BitVec.ofInt_natCast ..
  have h3 : n <<< 8 ||| x = n * 256 + x := by rw [← Nat.shiftLeft_add_eq_or_of_lt (by simpa using hx), Nat.shiftLeft_eq]
  have h4 : (BitVec.ofNat 64 (n <<< 8) ||| BitVec.ofNat 64 x).toNat = n * 256 + x := by
    rw [BitVec.toNat_or, BitVec.toNat_ofNat, BitVec.toNat_ofNat, Nat.mod_eq_of_lt (by rw [Nat.shiftLeft_eq]; omega), Nat.mod_eq_of_lt (by omega), h3]
  have h5 : bits .or .i64 ((n : Int) * 256) (x : Int) = IntKind.i64.wrap ((BitVec.ofInt 64 ((n : Int) * 256) ||| BitVec.ofInt 64 (x : Int)).toNat) := rfl
  rw [h5, h1, h2, h4]
  simp [IntKind.wrap, IntKind.bits, IntKind.signed]
  omega
set_option maxRecDepth 100000 in
theorem openReply_ok {S : Nat → Prop} {w : World} (x y : UInt8) (B : List UInt8) {A : Option Addr} {n c : Nat} (hrow : RowAt S w A (bcells (x :: y :: B))) (hn : n = B.length + 2) (hc : n ≤ c) (hB : B.length ≤ 100000) :
    Calls Try.prog 11 #[.slice A n c] w fun e w' => ∃ v, e = .returned (.tuple #[.int .i64 ((x.toNat : Int) * 256 + y.toNat), v, .bool true]) ∧ OwnB w' w.heap.size v B ∧ Mod No w w' := by
  obtain ⟨b, o, rfl, _, _, hcl⟩ := hrow.open (by simp [bcells])
  have c0 := hcl 0 (.int .u8 (x.toNat : Int)) rfl
  have c1 := hcl 1 (.int .u8 (y.toNat : Int)) rfl
  rw [Nat.add_zero] at c0
  obtain ⟨A2, sl2, rl2⟩ := own_tail n c 2 (some ⟨b, o, none⟩) (by omega) hc
  have hr2 := rl2 S w _ hrow
  have hd : ((bcells (x :: y :: B)).drop 2).take (n - 2) = bcells B := by
    show (bcells B).take (n - 2) = _
    rw [List.take_of_length_le (by rw [bcells_length]; omega)]
  rw [hd] at hr2
  have HC : ∀ W, Mod No w W → Calls Try.prog 22 #[.slice A2 (n - 2) (c - 2)] W fun e w' => ∃ v, e = .returned v ∧ OwnB w' w.heap.size v B ∧ Mod No w w' ∧ w'.cell? ⟨b, o, none⟩ = some (.int .u8 (x.toNat : Int)) ∧ w'.cell? ⟨b, o + 1, none⟩ = some (.int .u8 (y.toNat : Int)) := fun W hW => by
    refine (clone_okU8 (w := W) (n := n - 2) (bcells B) (hr2.keeps (hW.keeps (fun _ _ _ f => f))) (by rw [bcells_length]; omega) (bcells_one B) (by omega)).mono ?_
    rintro e w' ⟨v, rfl, ho, hm⟩
    have hl : B.length = n - 2 := by omega
    refine ⟨v, rfl, ?_, hW.trans hm, (hW.trans hm).cell c0 id, (hW.trans hm).cell c1 id⟩
    unfold OwnB
    rw [hl]
    exact own_base ho hW.size
  have sl2' : ∀ W, (Instr.slice 22 (.slice (some ⟨b, o, none⟩) n c) (some (.int .i64 2)) none none).run Try.prog W = .ok (.slice A2 (n - 2) (c - 2)) W := sl2
  have hx := x.toNat_lt
  have hy := y.toNat_lt
  have hor := or_byte x.toNat y.toNat (by omega) (by omega)
  have e1 : IntKind.i64.wrap (x.toNat : Int) = x.toNat := IntWalk.i64_in _ (by omega)
  have e2 : IntKind.i64.wrap ((x.toNat : Int) * 256) = (x.toNat : Int) * 256 := IntWalk.i64_in _ (by omega)
  have e3 : IntKind.i64.wrap (y.toNat : Int) = y.toNat := IntWalk.i64_in _ (by omega)
  have p1 : ¬ (n : Int) < 2 := by omega
  have p2 : (1 : Int) < n := by omega
  have p3 : (0 : Int) < n := by omega
  have p4 : 0 < n := by omega
  have p5 : 1 < n := by omega
  have HCC := Lib.hid HC
  have C := Lib.hid (And.intro c0 c1)
  clear hrow hcl sl2 rl2 hr2 hd hn hB HC hx hy
  go_enter Try.func11, Try.ntmps11
  go_upto_region 3 with fail
  go_region_held3 (fun W => W.cell? ⟨b, o, none⟩ = some (.int .u8 (x.toNat : Int)) ∧ W.cell? ⟨b, o + 1, none⟩ = some (.int .u8 (y.toNat : Int)))
    (first | go_keep | (exact H1.out.2.2))
    ((go_at_call 22; refine (HCC.out _ ?_).mono ?_; (repeat (first | with_reducible exact Mod.refl _ _ | refine Mod.drew ?_)); rintro e w1 ⟨v1, rfl, h1, h2, h3⟩; have H1 := Lib.hid (And.intro h1 (And.intro h2 h3)); clear h1 h2 h3))
  go_wp2
  go_ret3
  exact ⟨_, rfl, H1.out.1, H1.out.2.1⟩
end

section
attribute [local go_sem] stPair gtPair gtK8 gtM6 run_store_func
attribute [local go_sem high] neqPair eqK8 eqM6
attribute [local go_sem ↓] load_fold store_fold alloc_fold slice_op_fold con_load_fold chg_load_fold ten_zero_fold con_alloc_fold con_store_fold con_zero_fold chg_alloc_fold chg_store_fold chg_zero_fold chg_put_fold macLoad_fold macStore_fold keyLoad_fold keyStore_fold chg_make_fold chg_slice_fold askLoad_fold askStore_fold askAlloc_fold askBox_fold askZero_fold reqLoad_fold reqStore_fold reqAlloc_fold reqBox_fold reqZero_fold askPut_fold reqPut_fold
open Go.RowKit
set_option linter.unusedVariables false
set_option maxRecDepth 100000 in
theorem get_ok {S : Nat → Prop} {w : World} {A : Option Addr} {c : Nat} (B : List UInt8) (hrow : RowAt S w A (bcells B)) (hB : B.length ≤ 100000000) :
    Calls Try.prog 17 #[.slice A B.length c] w fun e w' => e = .returned (.int .u64 (vfold B : Nat)) ∧ w' = w := by
  obtain ⟨n, hn⟩ : ∃ n, n = B.length := ⟨_, rfl⟩
  rw [← hn] at hB
  rw [← hn]
  have H0 := Lib.hid (And.intro hrow hn)
  obtain ⟨R, hR⟩ : ∃ R, R = vfold B := ⟨_, rfl⟩
  rw [← hR]
  have HR := Lib.hid hR
  clear hrow hn hR
  go_enter Try.func17, Try.ntmps17
  go_wp2
  go_loopw [3, 4] (fun v i wr => ∃ (k m : Nat), i = .int .i64 k ∧ k ≤ n ∧ v = .int .u64 m ∧ m = vfold (B.take k) ∧ w = wr) (fun _ i _ => n - (intOf i).toNat)
  case atStart => exact ⟨0, 0, rfl, by omega, rfl, by simp [vfold], rfl⟩
  case round =>
    obtain ⟨k, m, rfl, hk, rfl, hmv, rfl⟩ := hrel
    by_cases hlt : k < n
    · obtain ⟨x, hx⟩ : ∃ x, B[k]? = some x := ⟨_, List.getElem?_eq_getElem (by have := H0.out.2; omega)⟩
      have hxc : (bcells B)[k]? = some (.int .u8 (x.toNat : Int)) := by simp [bcells, hx]
      obtain ⟨b, o, rfl, hbT, _, hcell⟩ := H0.out.1.open (by intro e; rw [e] at hxc; simp at hxc)
      have hc0 := hcell k _ hxc
      obtain ⟨m', hm'⟩ : ∃ m', m' = m % 2 ^ 56 := ⟨_, rfl⟩
      have hx8 := x.toNat_lt
      have hm6 : m' < 2 ^ 56 := by rw [hm']; exact Nat.mod_lt _ (by decide)
      have e1 : IntKind.u64.wrap ((m : Int) * 256) = (m' : Int) * 256 := by rw [hm']; simp [IntKind.wrap, IntKind.bits, IntKind.signed]; omega
      have e2 : IntKind.u64.wrap (x.toNat : Int) = (x.toNat : Int) := by simp [IntKind.wrap, IntKind.bits, IntKind.signed]; omega
      have e3 := or_low m' x.toNat hm6 hx8
      have e5 : m' * 256 + x.toNat = vfold (B.take (k + 1)) := by
        obtain ⟨hlx, ex⟩ := List.getElem?_eq_some_iff.1 hx
        rw [List.take_succ_eq_append_getElem hlx, ex, vfold_snoc, ← hmv, ← hm']
      have HX := Lib.hid e5
      have p1 : (0:Int) ≤ k := by omega
      have p2 : (k:Int) < n := by omega
      clear hx hxc hcell hmv hm' hm6 hx8 e5 hbT
      go_wp2
      exact ⟨⟨k + 1, m' * 256 + x.toNat, by go_num, by omega, by first | simp | go_num, HX.out, by first | rfl | trivial⟩, by simp [intOf]; omega⟩
    · have hk' : k = n := by omega
      subst hk'
      have hf : m = R := by rw [hmv, HR.out, H0.out.2, List.take_length]
      subst hf
      clear hmv
      go_wp2
      go_ret
      exact ⟨rfl, rfl⟩
end

section
attribute [local go_sem] stPair gtPair gtK8 gtM6 run_store_func
attribute [local go_sem high] neqPair eqK8 eqM6
attribute [local go_sem ↓] load_fold store_fold alloc_fold slice_op_fold con_load_fold chg_load_fold ten_zero_fold con_alloc_fold con_store_fold con_zero_fold chg_alloc_fold chg_store_fold chg_zero_fold chg_put_fold macLoad_fold macStore_fold keyLoad_fold keyStore_fold chg_make_fold chg_slice_fold askLoad_fold askStore_fold askAlloc_fold askBox_fold askZero_fold reqLoad_fold reqStore_fold reqAlloc_fold reqBox_fold reqZero_fold askPut_fold reqPut_fold
open Go.RowKit
set_option linter.unusedVariables false
theorem run_store_nilFunc {P : Program} {w : World} {a : Addr} {m : Mode} : (store a .nilFunc m).run P w = stored P w a .nilFunc m := run_store P w a _ m rfl
attribute [local go_sem] run_store_nilFunc
def fnv (n : Nat) : Value := .func (.func n) #[] #[]
def kindOf (op : Int) : Option (Nat × Nat) :=
  if op = 1 then some (29, 30)
  else if op = 2 then some (31, 33)
  else if op = 3 then some (35, 37)
  else if op = 4 ∨ op = 5 ∨ op = 6 then some (25, 26)
  else if op = 7 ∨ op = 8 then some (27, 28)
  else none
/-- What kinds tells. -/
def kindV (op : Int) : Value :=
  match kindOf op with
  | some (r, wr) => .tuple #[.agg #[fnv r, fnv wr], .bool true]
  | none => .tuple #[.agg #[.nilFunc, .nilFunc], .bool false]
set_option maxRecDepth 100000 in
theorem kinds_lit (w : World) (op : Int) (h : op = 1 ∨ op = 2 ∨ op = 3 ∨ op = 4 ∨ op = 5 ∨ op = 6 ∨ op = 7 ∨ op = 8) :
    Calls Try.prog 16 #[.int .i64 op] w fun e w' => e = .returned (kindV op) ∧ Mod No w w' := by
  obtain ⟨kv, hkv⟩ : ∃ kv, kv = kindV op := ⟨_, rfl⟩
  rw [← hkv]
  have HK := Lib.hid hkv
  clear hkv
  rcases h with rfl | rfl | rfl | rfl | rfl | rfl | rfl | rfl
  all_goals
    go_enter Try.func16, Try.ntmps16
    go_wp2
    refine bodyPost_ret (v := kv) ?_ rfl ⟨rfl, ?_⟩
    · rw [HK.out]
      simp [results, Try.results16, go_sem, kindV, kindOf, fnv]
    · repeat (first | with_reducible exact Mod.refl _ _ | refine Mod.alloc ?_ _ | refine Mod.setCell ?_ (.inl (by simp)) _)
set_option maxRecDepth 100000 in
theorem kinds_no (w : World) (op : Int) (h : ¬ (op = 1 ∨ op = 2 ∨ op = 3 ∨ op = 4 ∨ op = 5 ∨ op = 6 ∨ op = 7 ∨ op = 8)) :
    Calls Try.prog 16 #[.int .i64 op] w fun e w' => e = .returned (kindV op) ∧ Mod No w w' := by
  have p1 : (op == 1) = false := by rw [beq_eq_false_iff_ne]; omega
  have p2 : (op == 2) = false := by rw [beq_eq_false_iff_ne]; omega
  have p3 : (op == 3) = false := by rw [beq_eq_false_iff_ne]; omega
  have p4 : (op == 4) = false := by rw [beq_eq_false_iff_ne]; omega
  have p5 : (op == 5) = false := by rw [beq_eq_false_iff_ne]; omega
  have p6 : (op == 6) = false := by rw [beq_eq_false_iff_ne]; omega
  have p7 : (op == 7) = false := by rw [beq_eq_false_iff_ne]; omega
  have p8 : (op == 8) = false := by rw [beq_eq_false_iff_ne]; omega
  have hv : kindV op = .tuple #[.agg #[.nilFunc, .nilFunc], .bool false] := by
    have : kindOf op = none := by
      unfold kindOf
      rw [if_neg (by omega), if_neg (by omega), if_neg (by omega), if_neg (by omega), if_neg (by omega)]
    rw [kindV, this]
  rw [hv]
  clear h hv
  go_enter Try.func16, Try.ntmps16
  go_wp2
  refine bodyPost_ret (v := .tuple #[.agg #[.nilFunc, .nilFunc], .bool false]) ?_ rfl ⟨rfl, ?_⟩
  · simp [results, Try.results16, go_sem]
  · repeat (first | with_reducible exact Mod.refl _ _ | refine Mod.alloc ?_ _ | refine Mod.setCell ?_ (.inl (by simp)) _)
theorem kinds_ok (w : World) (op : Int) : Calls Try.prog 16 #[.int .i64 op] w fun e w' => e = .returned (kindV op) ∧ Mod No w w' := by
  by_cases h : op = 1 ∨ op = 2 ∨ op = 3 ∨ op = 4 ∨ op = 5 ∨ op = 6 ∨ op = 7 ∨ op = 8
  · exact kinds_lit w op h
  · exact kinds_no w op h
theorem kindOf_some {op : Int} {r wr : Nat} (h : kindOf op = some (r, wr)) : (op = 1 ∧ r = 29 ∧ wr = 30) ∨ (op = 2 ∧ r = 31 ∧ wr = 33) ∨ (op = 3 ∧ r = 35 ∧ wr = 37) ∨
    ((op = 4 ∨ op = 5 ∨ op = 6) ∧ r = 25 ∧ wr = 26) ∨ ((op = 7 ∨ op = 8) ∧ r = 27 ∧ wr = 28) := by
  unfold kindOf at h
  by_cases h1 : op = 1
  · rw [if_pos h1] at h; cases h; exact .inl ⟨h1, rfl, rfl⟩
  rw [if_neg h1] at h
  by_cases h2 : op = 2
  · rw [if_pos h2] at h; cases h; exact .inr (.inl ⟨h2, rfl, rfl⟩)
  rw [if_neg h2] at h
  by_cases h3 : op = 3
  · rw [if_pos h3] at h; cases h; exact .inr (.inr (.inl ⟨h3, rfl, rfl⟩))
  rw [if_neg h3] at h
  by_cases h4 : op = 4 ∨ op = 5 ∨ op = 6
  · rw [if_pos h4] at h; cases h; exact .inr (.inr (.inr (.inl ⟨h4, rfl, rfl⟩)))
  rw [if_neg h4] at h
  by_cases h5 : op = 7 ∨ op = 8
  · rw [if_pos h5] at h; cases h; exact .inr (.inr (.inr (.inr ⟨h5, rfl, rfl⟩)))
  rw [if_neg h5] at h
  cases h
theorem kind_enters {op : Int} {r wr : Nat} (h : kindOf op = some (r, wr)) : (∀ (a : Array Value) (W : World), (callFunc r a).run Try.prog W = .ok (.enter r a) W) ∧ (∀ (a : Array Value) (W : World), (callFunc wr a).run Try.prog W = .ok (.enter wr a) W) := by
  rcases kindOf_some h with ⟨_, rfl, rfl⟩ | ⟨_, rfl, rfl⟩ | ⟨_, rfl, rfl⟩ | ⟨_, rfl, rfl⟩ | ⟨_, rfl, rfl⟩ <;> exact ⟨fun a W => by go_simp, fun a W => by go_simp⟩
/-- Any closure that reads. -/
theorem read_any {op r wr : Nat} (h : kindOf op = some (r, wr)) {W : World} {T c : Nat} {A : Option Addr} {key : K8} (B : List UInt8) (hT : askAt W T (askNew key op)) (hrow : RowAt (fun b => b < W.heap.size ∧ b ≠ T) W A (bcells B)) (hc : B.length ≤ c) (hB : B.length ≤ 100000000) :
    Calls Try.prog r #[.pointer (some ⟨T, 0, none⟩), .slice A B.length c] W (RdC (mrest op B) key op T W) := by
  have h1 := hrow.mono (S' := fun b => b < W.heap.size) (fun b _ hb => hb.1)
  have h2 := hrow.mono (S' := fun b => b ≠ T) (fun b _ hb => hb.2)
  rcases kindOf_some h with ⟨e, rfl, _⟩ | ⟨e, rfl, _⟩ | ⟨e, rfl, _⟩ | ⟨e, rfl, _⟩ | ⟨e, rfl, _⟩
  · obtain rfl : op = 1 := by omega
    exact rd_begin B hT h2 hc hB
  · obtain rfl : op = 2 := by omega
    exact rd_stage B hT h1 hc hB
  · obtain rfl : op = 3 := by omega
    exact rd_gate B hT h1 hc hB
  · have : mrest op B = .none (decide (B = [])) := by
      unfold mrest
      rw [if_neg (by omega), if_neg (by omega), if_neg (by omega), if_pos (by omega)]
    rw [this]
    refine rd_nothing.mono ?_
    rintro e w' ⟨rfl, rfl⟩
    have hd : decide (B.length = 0) = decide (B = []) := by simp
    rw [hd]
    exact rdC_none hT rfl
  · have : mrest op B = mnamed B := by
      unfold mrest
      rw [if_neg (by omega), if_neg (by omega), if_neg (by omega), if_neg (by omega), if_pos (by omega)]
    rw [this]
    exact rd_named B hT h2 hc hB
theorem mrest_none {op : Nat} (h : kindOf op = none) (B : List UInt8) : mrest op B = .none false := by
  unfold kindOf at h
  unfold mrest
  by_cases h1 : (op : Int) = 1
  · rw [if_pos h1] at h; cases h
  rw [if_neg h1] at h
  by_cases h2 : (op : Int) = 2
  · rw [if_pos h2] at h; cases h
  rw [if_neg h2] at h
  by_cases h3 : (op : Int) = 3
  · rw [if_pos h3] at h; cases h
  rw [if_neg h3] at h
  by_cases h4 : (op : Int) = 4 ∨ (op : Int) = 5 ∨ (op : Int) = 6
  · rw [if_pos h4] at h; cases h
  rw [if_neg h4] at h
  by_cases h5 : (op : Int) = 7 ∨ (op : Int) = 8
  · rw [if_pos h5] at h; cases h
  rw [if_neg (by omega), if_neg (by omega), if_neg (by omega), if_neg (by omega), if_neg (by omega)]
end

section
attribute [local go_sem] stPair gtPair gtK8 gtM6 run_store_func run_store_nilFunc
attribute [local go_sem high] neqPair eqK8 eqM6
attribute [local go_sem ↓] load_fold store_fold alloc_fold slice_op_fold con_load_fold chg_load_fold ten_zero_fold con_alloc_fold con_store_fold con_zero_fold chg_alloc_fold chg_store_fold chg_zero_fold chg_put_fold macLoad_fold macStore_fold keyLoad_fold keyStore_fold chg_make_fold chg_slice_fold askLoad_fold askStore_fold askAlloc_fold askBox_fold askZero_fold reqLoad_fold reqStore_fold reqAlloc_fold reqBox_fold reqZero_fold askPut_fold reqPut_fold
open Go.RowKit
set_option linter.unusedVariables false
theorem slice_head' (n c k b o : Nat) (hk : k ≤ c) : ∀ W, (Instr.slice 22 (.slice (some ⟨b, o, none⟩) n c) none (some (.int .i64 (k : Int))) none).run Try.prog W = .ok (.slice (some ⟨b, o, none⟩) k c) W := by
  intro W
  have hz : (sizeOf 5).run Try.prog W = .ok 1 W := by kernel_rfl
  have he : Try.prog.elem 22 = 5 := by kernel_rfl
  rw [run_slice_h W 22 _ _ _ (by rw [he]; exact Try.underlying22) .i64 (k : Int) (by omega) (by omega), he, hz]
  simp only [Result.andThen, sliced, Int.toNat_natCast, Nat.zero_mul, Nat.sub_zero]
  split <;> first | rfl | (simp [Addr.add]; done)
def mkey (B : List UInt8) : K8 := K8.of (B.take 8)
def mop (B : List UInt8) : Nat := (B.getD 8 0).toNat
def mread (B : List UInt8) : MRes := if B.length < 9 then .none false else mrest (mop B) (B.drop 9)
/-- What a request that is read comes to. -/
def MReadQ (r : MRes) (key : K8) (op : Nat) (w : World) (e : Ending) (w' : World) : Prop :=
  Mod No w w' ∧ (r.ok = true → ∃ (x : TV) (Q : Option Addr) (q : Nat), e = .returned (.tuple #[.agg (r.ask key op x Q q).cells.toArray, .int .i64 0]) ∧ x.t = r.ct ∧ x.Rows (fun b => w.heap.size ≤ b) w') ∧
    (r.ok = false → e = .returned (.tuple #[.agg AskD.zero.cells.toArray, .int .i64 160]))
theorem MReadQ.bad {r : MRes} {key : K8} {op : Nat} {w w' : World} (hr : r.ok = false) (hm : Mod No w w') : MReadQ r key op w (.returned (.tuple #[.agg AskD.zero.cells.toArray, .int .i64 160])) w' :=
  ⟨hm, (fun f => by rw [hr] at f; cases f), (fun _ => rfl)⟩
theorem mkey_cells (B : List UInt8) (h9 : ¬ B.length < 9) : bcells (mkey B).l = (bcells B).take 8 := by
  have hl : (B.take 8).length = 8 := by rw [List.length_take]; omega
  have : (mkey B).l = B.take 8 := by
    unfold mkey
    obtain ⟨a0, a1, a2, a3, a4, a5, a6, a7, e⟩ : ∃ a0 a1 a2 a3 a4 a5 a6 a7, B.take 8 = [a0, a1, a2, a3, a4, a5, a6, a7] := by
      match B.take 8, hl with
      | [a0, a1, a2, a3, a4, a5, a6, a7], _ => exact ⟨a0, a1, a2, a3, a4, a5, a6, a7, rfl⟩
    rw [e]; rfl
  rw [this, bcells, bcells, List.map_take]
set_option maxRecDepth 100000 in
theorem mread_short {w : World} {A : Option Addr} {n c : Nat} (hn : n < 9) (r : MRes) (hr : r.ok = false) (key : K8) (op : Nat) :
    Calls Try.prog 7 #[.slice A n c] w (MReadQ r key op w) := by
  have hal := askAlloc_run
  have hz := askZero_run
  have hst := askStore_new w AskD.zero.cells.toArray (AskD.size AskD.zero_ok) (AskD.one AskD.zero_ok)
  obtain ⟨Z, hZ⟩ : ∃ Z, Z = AskD.zero.cells.toArray := ⟨_, rfl⟩
  have hZs : Z.size = 75 := by rw [hZ]; exact AskD.size AskD.zero_ok
  rw [← hZ] at hst hz
  have hal' : ∀ W : World, (askAlloc (.tuple #[])).run Try.prog W = .ok (.pointer (some ⟨W.heap.size, 0, none⟩)) (W.alloc (.cells Z 40)) := fun W => by rw [hZ]; exact hal W
  have p : (n : Int) < 9 := by omega
  have HZ := Lib.hid (And.intro hZ (And.intro hZs hr))
  clear hal hZ hZs hr hn
  go_enter Try.func7, Try.ntmps7
  go_wp2
  refine bodyPost_ret (results_cell_tmp rfl _ _ w.heap.size 40 Z (0, 0) _ rfl (at10 w _) Try.underlying40 rfl (by rw [askSize, HZ.out.2.1])) rfl ?_
  rw [HZ.out.1]
  exact MReadQ.bad HZ.out.2.2 ((Mod.refl _ _).alloc _)
set_option maxRecDepth 100000 in
set_option maxHeartbeats 1000000 in
theorem mread_ok {w : World} {A : Option Addr} {c : Nat} (B : List UInt8) (hrow : RowAt (fun b => b < w.heap.size) w A (bcells B)) (hc : B.length ≤ c) (hB : B.length ≤ 100000000) :
    Calls Try.prog 7 #[.slice A B.length c] w (MReadQ (mread B) (mkey B) (mop B) w) := by
  by_cases h9 : B.length < 9
  · exact mread_short h9 _ (by rw [mread, if_pos h9]; rfl) _ _
  obtain ⟨b, o, rfl, hbw, hblt, hcl⟩ := hrow.open (by intro e; have := congrArg List.length e; rw [bcells_length, List.length_nil] at this; omega)
  obtain ⟨x8, hx8⟩ : ∃ x, B[8]? = some x := ⟨_, List.getElem?_eq_getElem (by omega)⟩
  have hop : mop B = x8.toNat := by rw [mop, List.getD_eq_getElem?_getD, hx8]; rfl
  have hmr : mread B = mrest x8.toNat (B.drop 9) := by rw [mread, if_neg h9, hop]
  rw [hmr, hop]
  have c8 : w.cell? ⟨b, o + 8, none⟩ = some (.int .u8 (x8.toNat : Int)) := hcl 8 _ (by simp [bcells, hx8])
  have hk8 : bcells (mkey B).l = (bcells B).take 8 := mkey_cells B h9
  obtain ⟨key, hkey⟩ : ∃ key, key = mkey B := ⟨_, rfl⟩
  rw [← hkey] at hk8
  rw [← hkey]
  have hkl : ∀ W, Mod No w W → (keyLoad (.pointer (some ⟨b, o, none⟩))).run Try.prog W = .ok (.agg (bcells key.l).toArray) W := fun W hW =>
    keyLoad_mid W b o key (fun j v hj => hW.cell (hcl j v (by
      rw [hk8] at hj
      have := (List.getElem?_eq_some_iff.1 hj).1
      rw [List.length_take] at this
      rwa [List.getElem?_take_of_lt (by omega)] at hj)) id)
  obtain ⟨A9, sl9, rl9⟩ := own_tail B.length c 9 (some ⟨b, o, none⟩) (by omega) hc
  have sl8 := slice_head' B.length c 8 b o (by omega)
  have hrest : ∀ W T, Mod No w W → w.heap.size ≤ T → RowAt (fun b => b < W.heap.size ∧ b ≠ T) W A9 (bcells (B.drop 9)) := fun W T hW hT => by
    have h1 := (hrow.mono (S' := fun b => b < W.heap.size ∧ b ≠ T) (fun b _ hb => ⟨Nat.lt_of_lt_of_le hb hW.size, by omega⟩)).keeps (hW.keeps (fun _ _ _ f => f))
    have h2 := rl9 _ _ _ h1
    have e : ((bcells B).drop 9).take (B.length - 9) = bcells (B.drop 9) := by
      rw [bcells, bcells, List.map_drop, List.take_of_length_le (by simp)]
    rwa [e] at h2
  have hl9 : (B.drop 9).length = B.length - 9 := by simp
  obtain ⟨op, hopn⟩ : ∃ op, op = x8.toNat := ⟨_, rfl⟩
  have hop8 : op < 256 := by rw [hopn]; exact x8.toNat_lt
  rw [← hopn] at c8
  rw [← hopn]
  have HRD : Hid (∀ r wr, kindOf op = some (r, wr) → ∀ W T, askAt W T (askNew key op) → Mod No w W → w.heap.size ≤ T → Calls Try.prog r #[.pointer (some ⟨T, 0, none⟩), .slice A9 (B.length - 9) (c - 9)] W (RdC (mrest op (B.drop 9)) key op T W)) :=
    Lib.hid (fun r wr h W T hT hW hwT => by
      have := read_any h (B.drop 9) hT (hrest W T hW hwT) (by rw [hl9]; omega) (by rw [hl9]; omega) (c := c - 9)
      rwa [hl9] at this)
  have hmn := fun h => mrest_none (op := op) h (B.drop 9)
  obtain ⟨res, hres⟩ : ∃ res, res = mrest op (B.drop 9) := ⟨_, rfl⟩
  rw [← hres] at HRD hmn
  rw [← hres]
  obtain ⟨n, hn⟩ : ∃ n, n = B.length := ⟨_, rfl⟩
  rw [← hn] at HRD sl9 sl8 hc hB h9
  rw [← hn]
  have HK := Lib.hid (fun W => kinds_ok W op)
  have HKL := Lib.hid hkl
  have HMN := Lib.hid hmn
  have hal := askAlloc_run
  have hz := askZero_run
  have hpt := askPut_run key op
  have hcv : IntKind.i64.wrap (op : Int) = op := by simp [IntKind.wrap, IntKind.bits, IntKind.signed]; omega
  have p1 : ¬ (n : Int) < 9 := by omega
  have p2 : (8 : Int) < n := by omega
  clear hrow hcl hx8 hop hmr hk8 hkey hkl rl9 hrest hl9 hopn hres hn hmn
  obtain ⟨Z, hZ⟩ : ∃ Z, Z = AskD.zero.cells.toArray := ⟨_, rfl⟩
  have hal' : ∀ W : World, (askAlloc (.tuple #[])).run Try.prog W = .ok (.pointer (some ⟨W.heap.size, 0, none⟩)) (W.alloc (.cells Z 40)) := fun W => by rw [hZ]; exact hal W
  obtain ⟨N, hN⟩ : ∃ N, N = (askNew key op).cells.toArray := ⟨_, rfl⟩
  rw [← hZ] at hz
  have hpt' : ∀ W, (askPut (.agg (bcells key.l).toArray) (.int .i64 op)).run Try.prog W = .ok (.agg N) W := fun W => by rw [hN]; exact hpt W
  have hst : ∀ W : World, (askStore (.pointer (some ⟨W.heap.size, 0, none⟩)) (.agg N)).run Try.prog (W.alloc (.cells Z 40)) = .ok () (W.alloc (.cells N 40)) := fun W => by rw [hZ, hN]; exact askStore_new W _ (AskD.size (askNew_ok key op)) (AskD.one (askNew_ok key op))
  have hst2 : (askStore (.pointer (some ⟨w.heap.size + 1, 0, none⟩)) (.agg N)).run Try.prog ((w.alloc (.cells Z 40)).alloc (.cells Z 40)).drew = .ok () ((w.alloc (.cells Z 40)).alloc (.cells N 40)).drew := by
    have := askStore_newd (w.alloc (.cells Z 40)) N (by rw [hN]; exact AskD.size (askNew_ok key op)) (by rw [hN]; exact AskD.one (askNew_ok key op))
    rw [← hZ] at this
    simpa using this
  have HZ := Lib.hid (And.intro hZ hN)
  clear hal hpt hZ hN
  have sl9' : ∀ W, (Instr.slice 22 (.slice (some ⟨b, o, none⟩) n c) (some (.int .i64 9)) none none).run Try.prog W = .ok (.slice A9 (n - 9) (c - 9)) W := sl9
  have sl8' : ∀ W, (Instr.slice 22 (.slice (some ⟨b, o, none⟩) n c) none (some (.int .i64 8)) none).run Try.prog W = .ok (.slice (some ⟨b, o, none⟩) 8 c) W := sl8
  have hav : ∀ W, (Instr.arrayAt 24 (.slice (some ⟨b, o, none⟩) 8 c)).run Try.prog W = .ok (.pointer (some ⟨b, o, none⟩)) W := fun W => by kernel_rfl
  have C8 := Lib.hid c8
  obtain ⟨K, hK⟩ : ∃ K, K = (bcells key.l).toArray := ⟨_, rfl⟩
  rw [← hK] at hpt'
  rw [← hK] at HKL
  clear sl8 sl9 c8 hK
  go_enter Try.func7, Try.ntmps7
  go_upto_region 3 with fail
  go_region_held3 (fun W => (keyLoad (.pointer (some ⟨b, o, none⟩))).run Try.prog W = .ok (.agg K) W ∧ W.cell? ⟨b, o + 8, none⟩ = some (.int .u8 (op : Int)))
    ((refine ⟨HKL.out _ ?_, Mod.cell (F := No) ?_ C8.out id⟩ <;> (repeat (first | with_reducible exact Mod.refl _ _ | refine Mod.alloc ?_ _ | refine Mod.drew ?_))))
    (fail)
  all_goals
    go_upto_region 4 with fail
    refine grab_world fun W0 hW0 => ?_
    have hm0 : Mod No w W0 := by rw [hW0]; exact (((Mod.refl _ _).alloc _).alloc _).drew
    have hT0 : askAt W0 (w.heap.size + 1) (askNew key op) := by rw [hW0, askAt, ← HZ.out.2]; exact at21 w _ _
    have hX0 : W0.heap[w.heap.size]? = some (.cells Z 40 (0, 0)) := by rw [hW0]; exact at20 w _ _
    have c8' : W0.cell? ⟨w.heap.size + 1, 8, none⟩ = some (.int .i64 (op : Int)) := (askAt_cell hT0 8).trans (AskD.at8 _)
    have H0 := Lib.hid (And.intro hm0 (And.intro hT0 hX0))
    clear hW0 hm0 hT0 hX0
    cases hko : kindOf (op : Int) with
    | none =>
      have hkv : kindV (op : Int) = .tuple #[.agg #[.nilFunc, .nilFunc], .bool false] := by rw [kindV, hko]
      have hrn := HMN.out hko
      rw [hkv] at HK
      have HR := Lib.hid hrn
      clear hkv hko hrn HMN
      go_upto_region 5 with (first | (go_at_call 16; refine (HK.out _).mono ?_; rintro e w1 ⟨rfl, hm1⟩; have H1 := Lib.hid hm1; clear hm1) | fail)
      refine grab_world fun V hV => ?_
      have hmV : Mod No W0 V := by rw [hV]; exact H1.out.alloc _
      have hXV := hmV.obj H0.out.2.2 id
      have hst3 : ∀ q, (askStore (.pointer (some ⟨w.heap.size, 0, none⟩)) (.agg Z)).run Try.prog (V.drewN q) = .ok () ((V.drewN q).setRow w.heap.size Z) := fun q => askStore_run (W := V.drewN q) hXV (by rw [HZ.out.1]; exact AskD.size AskD.zero_ok) (by rw [HZ.out.1]; exact AskD.size AskD.zero_ok) (by rw [HZ.out.1]; exact AskD.one AskD.zero_ok)
      have HF := Lib.hid (And.intro hmV hXV)
      clear hV hmV hXV
      go_quiet (fail)
      go_wp2
      refine bodyPost_ret (results_cell_tmp rfl _ _ w.heap.size 40 Z (0, 0) _ rfl (setRow_heap _ _ _ _ _ _ HF.out.2) Try.underlying40 rfl (by rw [askSize, HZ.out.1, AskD.size AskD.zero_ok])) rfl ?_
      rw [HZ.out.1]
      exact MReadQ.bad (by rw [HR.out]; rfl) ((H0.out.1.trans (HF.out.1.drewN _)).trans' (setRow_mod _) (fun i hi hg => by omega))
    | some rw =>
      obtain ⟨r, wr⟩ := rw
      have hkv : kindV (op : Int) = .tuple #[.agg #[.func (.func r) #[] #[], .func (.func wr) #[] #[]], .bool true] := by rw [kindV, hko]; rfl
      rw [hkv] at HK
      have hen := (kind_enters hko).1
      have HRR := Lib.hid (HRD.out r wr hko)
      clear hkv hko HMN HRD
      go_upto_region 5 with (first | (go_at_call 16; refine (HK.out _).mono ?_; rintro e w1 ⟨rfl, hm1⟩; have H1 := Lib.hid hm1; clear hm1) | fail)
      refine grab_world fun V hV => ?_
      have hmV : Mod No W0 V := by rw [hV]; exact H1.out.alloc _
      have hXV := hmV.obj H0.out.2.2 id
      have hTV : askAt V (w.heap.size + 1) (askNew key op) := hmV.obj H0.out.2.1 id
      have ck : V.cell? ⟨w1.heap.size, 0, none⟩ = some (.func (.func r) #[] #[]) := by rw [hV]; exact (blk_cell (at10 w1 _) 0).trans rfl
      have hne : w1.heap.size ≠ w.heap.size + 1 := by have := lt_of_block H0.out.2.1; have := H1.out.size; omega
      have HF := Lib.hid (And.intro hmV (And.intro hXV hTV))
      have HN := Lib.hid (And.intro hne ck)
      clear hV hmV hXV hTV hne
      have hZ2 := AskD.size AskD.zero_ok
      have hZ3 := AskD.one AskD.zero_ok
      rw [← HZ.out.1] at hZ2 hZ3
      have HZZ := Lib.hid (And.intro hZ2 hZ3)
      clear hZ2 hZ3
      cases hro : res.ok with
      | false =>
        have HRO := Lib.hid hro
        clear hro
        go_region_held3 (fun W => W.cell? ⟨w1.heap.size, 0, none⟩ = some (.func (.func r) #[] #[])) (first | go_keep | (exact Mod.cell H2.out.1 HN.out.2 HN.out.1))
          ((refine (HRR.out V.drew _ ?_ ?_ ?_).mono ?_; (exact HF.out.2.2); (exact (H0.out.1.trans HF.out.1).drew); (simp); (intro e w2 hq; obtain ⟨hq1, hm2, hok⟩ := hq; rw [HRO.out] at hq1; subst hq1; have hX2 := hm2.obj (show V.drew.heap[w.heap.size]? = _ from HF.out.2.1) (by omega); have hst3 := askStore_run hX2 HZZ.out.1 HZZ.out.1 HZZ.out.2; have H2 := Lib.hid (And.intro hm2 hX2); clear hm2 hX2 hok)))
        go_wp2
        refine bodyPost_ret (results_cell_tmp rfl _ _ w.heap.size 40 Z (0, 0) _ rfl (setRow_heap _ _ _ _ _ _ H2.out.2) Try.underlying40 rfl (by rw [askSize, HZZ.out.1])) rfl ?_
        rw [HZ.out.1]
        exact MReadQ.bad HRO.out (((H0.out.1.trans HF.out.1).drew.trans' H2.out.1 (fun i hi hg => by omega)).trans' (setRow_mod _) (fun i hi hg => by omega))
      | true =>
        have HRO := Lib.hid hro
        clear hro
        go_region_held3 (fun W => W.cell? ⟨w1.heap.size, 0, none⟩ = some (.func (.func r) #[] #[])) (first | go_keep | (exact Mod.cell H2.out.1 HN.out.2 HN.out.1))
          ((refine (HRR.out V.drew _ ?_ ?_ ?_).mono ?_; (exact HF.out.2.2); (exact (H0.out.1.trans HF.out.1).drew); (simp); (intro e w2 hq; obtain ⟨hq1, hm2, hok⟩ := hq; obtain ⟨x, Q, q, hat, hxt, hxr⟩ := hok HRO.out; rw [HRO.out] at hq1; subst hq1; have hX2 := hm2.obj (show V.drew.heap[w.heap.size]? = _ from HF.out.2.1) (by omega); have hao := MRes.ask_ok res key op Q q hxr; obtain ⟨CA, hCA⟩ : ∃ CA, CA = (res.ask key op x Q q).cells.toArray := ⟨_, rfl⟩; have hs := AskD.size hao; have h1 := AskD.one hao; rw [← hCA] at hs h1; rw [askAt, ← hCA] at hat; have hld := askLoad_run hat hs; have hst3 := askStore_run hX2 HZZ.out.1 hs h1; have H2 := Lib.hid (And.intro hm2 (And.intro hX2 (And.intro hxt (And.intro hxr (And.intro hCA hs))))); clear hm2 hX2 hok hat hxt hxr hao hs h1 hCA)))
        go_wp2
        refine bodyPost_ret (results_cell_tmp rfl _ _ w.heap.size 40 CA (0, 0) _ rfl (setRow_heap _ _ _ _ _ _ H2.out.2.1) Try.underlying40 rfl (by rw [askSize, H2.out.2.2.2.2.2])) rfl ?_
        obtain ⟨hm2, hX2, hxt, hxr, hCA, hs⟩ := H2.out
        have hmV := (H0.out.1.trans HF.out.1).drew
        refine ⟨(hmV.trans' hm2 (fun i hi hg => by omega)).trans' (setRow_mod _) (fun i hi hg => by omega), (fun _ => ⟨x, Q, q, (by rw [hCA]; rfl), hxt, ?_⟩), (fun f => by rw [HRO.out] at f; cases f)⟩
        have hlt := lt_of_block HF.out.2.1
        refine ((hxr.imp (S' := fun b => b ≠ w.heap.size ∧ w.heap.size ≤ b) (fun b hb => ?_)).keeps ((setRow_mod _).keeps (fun b _ hb hg => hb.1 hg))).imp (fun b hb => hb.2)
        have : V.heap.size ≤ b := hb
        omega
end

section
attribute [local go_sem] stPair gtPair gtK8 gtM6 run_store_func run_store_nilFunc
attribute [local go_sem high] neqPair eqK8 eqM6
attribute [local go_sem ↓] load_fold store_fold alloc_fold slice_op_fold con_load_fold chg_load_fold ten_zero_fold con_alloc_fold con_store_fold con_zero_fold chg_alloc_fold chg_store_fold chg_zero_fold chg_put_fold macLoad_fold macStore_fold keyLoad_fold keyStore_fold chg_make_fold chg_slice_fold askLoad_fold askStore_fold askAlloc_fold askBox_fold askZero_fold reqLoad_fold reqStore_fold reqAlloc_fold reqBox_fold reqZero_fold askPut_fold reqPut_fold
open Go.RowKit
set_option linter.unusedVariables false
set_option linter.unusedSimpArgs false
set_option maxRecDepth 100000 in
theorem rread_short {w : World} {A : Option Addr} {n c : Nat} (hn : n < 9) (r : MRes) (hr : r.ok = false) (key : K8) (op : Nat) :
    Calls Try.prog 8 #[.slice A n c] w (MReadQ r key op w) := by
  have hal := reqAlloc_run
  have hz := reqZero_run
  have hst := reqStore_new w AskD.zero.cells.toArray (AskD.size AskD.zero_ok) (AskD.one AskD.zero_ok)
  obtain ⟨Z, hZ⟩ : ∃ Z, Z = AskD.zero.cells.toArray := ⟨_, rfl⟩
  have hZs : Z.size = 75 := by rw [hZ]; exact AskD.size AskD.zero_ok
  rw [← hZ] at hst hz
  have hal' : ∀ W : World, (reqAlloc (.tuple #[])).run Try.prog W = .ok (.pointer (some ⟨W.heap.size, 0, none⟩)) (W.alloc (.cells Z 44)) := fun W => by rw [hZ]; exact hal W
  have p : (n : Int) < 9 := by omega
  have HZ := Lib.hid (And.intro hZ (And.intro hZs hr))
  clear hal hZ hZs hr hn
  go_enter Try.func8, Try.ntmps8
  go_wp2
  refine bodyPost_ret (results_cell_tmp rfl _ _ w.heap.size 44 Z (0, 0) _ rfl (at10 w _) Try.underlying44 rfl (by rw [reqSize, HZ.out.2.1])) rfl ?_
  rw [HZ.out.1]
  exact MReadQ.bad HZ.out.2.2 ((Mod.refl _ _).alloc _)
/-- Where the reader stands when it looks at the Op. -/
structure RV (w V : World) (Z : Array Value) (key : K8) (op : Nat) : Prop where
  mod : Mod No w V
  res : V.heap[w.heap.size]? = some (.cells Z 44 (0, 0))
  req : reqAt V (w.heap.size + 1) (askNew key op)
set_option maxRecDepth 100000 in
set_option maxHeartbeats 1000000 in
theorem rread_ok {w : World} {A : Option Addr} {c : Nat} (B : List UInt8) (hrow : RowAt (fun b => b < w.heap.size) w A (bcells B)) (hc : B.length ≤ c) (hB : B.length ≤ 100000000) :
    Calls Try.prog 8 #[.slice A B.length c] w (MReadQ (mread B) (mkey B) (mop B) w) := by
  by_cases h9 : B.length < 9
  · exact rread_short h9 _ (by rw [mread, if_pos h9]; rfl) _ _
  obtain ⟨b, o, rfl, hbw, hblt, hcl⟩ := hrow.open (by intro e; have := congrArg List.length e; rw [bcells_length, List.length_nil] at this; omega)
  obtain ⟨x8, hx8⟩ : ∃ x, B[8]? = some x := ⟨_, List.getElem?_eq_getElem (by omega)⟩
  have hop : mop B = x8.toNat := by rw [mop, List.getD_eq_getElem?_getD, hx8]; rfl
  have hmr : mread B = mrest x8.toNat (B.drop 9) := by rw [mread, if_neg h9, hop]
  rw [hmr, hop]
  have c8 : w.cell? ⟨b, o + 8, none⟩ = some (.int .u8 (x8.toNat : Int)) := hcl 8 _ (by simp [bcells, hx8])
  have hk8 : bcells (mkey B).l = (bcells B).take 8 := mkey_cells B h9
  obtain ⟨key, hkey⟩ : ∃ key, key = mkey B := ⟨_, rfl⟩
  rw [← hkey] at hk8
  rw [← hkey]
  have hkl : ∀ j v, (bcells key.l)[j]? = some v → w.cell? ⟨b, o + j, none⟩ = some v := fun j v hj => hcl j v (by
      rw [hk8] at hj
      have := (List.getElem?_eq_some_iff.1 hj).1
      rw [List.length_take] at this
      rwa [List.getElem?_take_of_lt (by omega)] at hj)
  obtain ⟨A9, sl9, rl9⟩ := own_tail B.length c 9 (some ⟨b, o, none⟩) (by omega) hc
  have sl8 := slice_head' B.length c 8 b o (by omega)
  obtain ⟨X, hX⟩ : ∃ X, X = B.drop 9 := ⟨_, rfl⟩
  have hrest : RowAt (fun b => b < w.heap.size) w A9 (bcells X) := by
    have h2 := rl9 _ _ _ hrow
    have e : ((bcells B).drop 9).take (B.length - 9) = bcells X := by
      rw [hX, bcells, bcells, List.map_drop, List.take_of_length_le (by simp)]
    rwa [e] at h2
  have hl9 : B.length - 9 = X.length := by rw [hX]; simp
  rw [hl9] at sl9
  rw [← hX]
  obtain ⟨op, hopn⟩ : ∃ op, op = x8.toNat := ⟨_, rfl⟩
  have hop8 : op < 256 := by rw [hopn]; exact x8.toNat_lt
  rw [← hopn] at c8
  rw [← hopn]
  obtain ⟨res, hres⟩ : ∃ res, res = mrest op X := ⟨_, rfl⟩
  rw [← hres]
  obtain ⟨n, hn⟩ : ∃ n, n = B.length := ⟨_, rfl⟩
  rw [← hn] at sl9 sl8 hc hB h9 hl9
  rw [← hn]
  obtain ⟨m, hm⟩ : ∃ m, m = X.length := ⟨_, rfl⟩
  obtain ⟨c9, hc9⟩ : ∃ c9, c9 = c - 9 := ⟨_, rfl⟩
  rw [← hm, ← hc9] at sl9
  have hm8 : m ≤ 100000000 := by omega
  have hmc : m ≤ c9 := by omega
  have hal := reqAlloc_run
  have hz := reqZero_run
  have hpt := reqPut_run op
  have hcv : IntKind.i64.wrap (op : Int) = op := by simp [IntKind.wrap, IntKind.bits, IntKind.signed]; omega
  have p1 : ¬ (n : Int) < 9 := by omega
  have p2 : (8 : Int) < n := by omega
  obtain ⟨Z, hZ⟩ : ∃ Z, Z = AskD.zero.cells.toArray := ⟨_, rfl⟩
  have hal' : ∀ W : World, (reqAlloc (.tuple #[])).run Try.prog W = .ok (.pointer (some ⟨W.heap.size, 0, none⟩)) (W.alloc (.cells Z 44)) := fun W => by rw [hZ]; exact hal W
  obtain ⟨N, hN⟩ : ∃ N, N = (askNew .zero op).cells.toArray := ⟨_, rfl⟩
  rw [← hZ] at hz
  have hpt' : ∀ W, (reqPut (.int .i64 op)).run Try.prog W = .ok (.agg N) W := fun W => by rw [hN]; exact hpt W
  have hst2 : (reqStore (.pointer (some ⟨w.heap.size + 1, 0, none⟩)) (.agg N)).run Try.prog ((w.alloc (.cells Z 44)).alloc (.cells Z 44)) = .ok () ((w.alloc (.cells Z 44)).alloc (.cells N 44)) := by
    have := reqStore_new (w.alloc (.cells Z 44)) N (by rw [hN]; exact AskD.size (askNew_ok .zero op)) (by rw [hN]; exact AskD.one (askNew_ok .zero op))
    rw [← hZ] at this
    simpa using this
  have sl9' : ∀ W, (Instr.slice 22 (.slice (some ⟨b, o, none⟩) n c) (some (.int .i64 9)) none none).run Try.prog W = .ok (.slice A9 m c9) W := sl9
  have sl8' : ∀ W, (Instr.slice 22 (.slice (some ⟨b, o, none⟩) n c) none (some (.int .i64 8)) none).run Try.prog W = .ok (.slice (some ⟨b, o, none⟩) 8 c) W := sl8
  have hsz8 : (Try.prog.info? 5).map (·.size) = some 1 := by kernel_rfl
  have H0 := Lib.hid (And.intro hZ (And.intro hN (And.intro hkl (And.intro hrest (And.intro hres hm)))))
  have HS8 := Lib.hid hsz8
  clear hrow hcl hx8 hop hmr hk8 hkey hkl rl9 hrest hl9 hopn hres hn hm hal hZ hN hpt sl8 sl9 hX hc9 hsz8
  go_enter Try.func8, Try.ntmps8
  go_upto_region 4 with fail
  go_region_law ((refine step_copy_splice (by rfl) _ _ 22 22 (by rfl) 5 Try.underlying22 HS8.out (some ⟨w.heap.size + 1, 0, none⟩) (some ⟨b, o, none⟩) 8 8 8 c (by rfl) (by rfl) (w.heap.size + 1) 0 (askNew .zero op).cells 44 (by have := at21 w (.cells Z 44) (.cells N 44); rw [H0.out.2.1] at this ⊢; exact this) (bcells key.l) rfl (fun _ => ⟨rfl, _, rfl, fun j v hj => by rw [Addr.add_lit]; exact (((Mod.refl No w).alloc _).alloc _).drew.cell (H0.out.2.2.1 j v hj) id⟩) (by rw [AskD.len (askNew_ok _ _), K8.cells_len]; decide) (bcells_one _) (w.heap.size + 1) ((w.alloc (.cells Z 44)).alloc (.cells N 44)).drew (Below.refl _ _) (Nat.le_refl _) ?_; intro V hV hbl))
  have hb0 : RV w V Z key op := by
    have hm0 : Mod No w ((w.alloc (.cells Z 44)).alloc (.cells N 44)).drew := (((Mod.refl _ _).alloc _).alloc _).drew
    refine ⟨hm0.trans' (F := No) (G := fun b => w.heap.size + 1 ≤ b) ⟨hbl.os, hbl.tape, hbl.output, by have := hbl.size; simpa using this, fun k hk hf => hbl.block k (by omega)⟩ (fun i hi hg => by omega), ?_, ?_⟩
    · rw [hbl.block w.heap.size (by omega)]
      exact at20 w _ _
    · have := hV.out
      rw [AskD.setKey] at this
      exact this
  have c8' : V.cell? ⟨w.heap.size + 1, 8, none⟩ = some (.int .i64 (op : Int)) := (reqAt_cell hb0.req 8).trans (AskD.at8 _)
  have HV := Lib.hid hb0
  clear hV hbl hb0 hst2 hpt' hal' c8 sl8'
  go_upto_region 8 with fail
  have hZ2 := AskD.size AskD.zero_ok
  have hZ3 := AskD.one AskD.zero_ok
  rw [← H0.out.1] at hZ2 hZ3
  have HZZ := Lib.hid (And.intro hZ2 hZ3)
  have HBAD : Hid (∀ W', Mod No w W' → res.ok = false → MReadQ res key op w (.returned (.tuple #[.agg Z, .int .i64 160])) W') := Lib.hid (fun W' hW' hr => by rw [H0.out.1]; exact MReadQ.bad hr hW')
  have HFIN : Hid (∀ (W' : World) (a : AskD) (CA : Array Value) (x : TV) (Q : Option Addr) (q : Nat), W'.heap[w.heap.size]? = some (.cells Z 44 (0, 0)) → reqAt W' (w.heap.size + 1) a → a = res.ask key op x Q q → res.ok = true → Mod No w W' → x.t = res.ct → x.Rows (fun b => w.heap.size < b) W' → CA = a.cells.toArray →
      (reqLoad (.pointer (some ⟨w.heap.size + 1, 0, none⟩))).run Try.prog W' = .ok (.agg CA) W' ∧ (reqStore (.pointer (some ⟨w.heap.size, 0, none⟩)) (.agg CA)).run Try.prog W' = .ok () (W'.setRow w.heap.size CA) ∧ (W'.setRow w.heap.size CA).heap[w.heap.size]? = some (.cells CA 44 (0, 0)) ∧ CA.size = 75 ∧ MReadQ res key op w (.returned (.tuple #[.agg CA, .int .i64 0])) (W'.setRow w.heap.size CA)) :=
    Lib.hid (fun W' a CA x Q q h1 h2 h3 hok h4 h5 h6 h7 => by
      have hao := MRes.ask_ok res key op Q q h6
      rw [← h3] at hao
      have hs := AskD.size hao
      have h1c := AskD.one hao
      rw [reqAt, ← h7] at h2
      rw [← h7] at hs h1c
      refine ⟨reqLoad_run h2 hs, reqStore_run h1 HZZ.out.1 hs h1c, setRow_heap _ _ _ _ _ _ h1, hs, h4.trans' (setRow_mod _) (fun i hi hg => by omega), (fun _ => ⟨x, Q, q, by rw [h7, h3], h5, ?_⟩), (fun f => by rw [hok] at f; cases f)⟩
      exact ((h6.imp (S' := fun b => b ≠ w.heap.size ∧ w.heap.size ≤ b) (fun b hb => ⟨by omega, by omega⟩)).keeps ((setRow_mod _).keeps (fun b _ hb hg => hb.1 hg))).imp (fun b hb => hb.2))
  have hstb : (reqStore (.pointer (some ⟨w.heap.size, 0, none⟩)) (.agg Z)).run Try.prog V = .ok () (V.setRow w.heap.size Z) := reqStore_run HV.out.res HZZ.out.1 HZZ.out.1 HZZ.out.2
  clear hZ2 hZ3
  have HSTB := Lib.hid hstb
  clear hstb
  have q0 : (0 : Int) ≤ op := by omega
  by_cases o4 : op = 4 ∨ op = 5 ∨ op = 6
  · have hres : res = .none (decide (X = [])) := by
      rw [H0.out.2.2.2.2.1]
      unfold mrest
      rw [if_neg (by omega), if_neg (by omega), if_neg (by omega), if_pos o4]
    by_cases hX : X = []
    · have hm0 : m = 0 := by rw [H0.out.2.2.2.2.2, hX]; rfl
      rw [decide_eq_true hX] at hres
      obtain ⟨CA, hCA⟩ : ∃ CA, CA = (askNew key op).cells.toArray := ⟨_, rfl⟩
      have hF := HFIN.out V (askNew key op) CA TV.zero none 0 HV.out.res HV.out.req (by rw [hres]; exact askNew_eq key op true) (by rw [hres]; rfl) HV.out.mod (by rw [hres]; rfl) (TV.zero_rows _ _) hCA
      obtain ⟨f1, f2, f3, f4, f5⟩ := hF
      have HF := Lib.hid (And.intro f3 (And.intro f4 f5))
      subst hm0
      clear hCA f3 f4 f5 hres hX HFIN HBAD
      rcases o4 with rfl | rfl | rfl
      all_goals
        go_wp2
        refine bodyPost_ret (results_cell_tmp rfl _ _ w.heap.size 44 CA (0, 0) _ rfl HF.out.1 Try.underlying44 rfl (by rw [reqSize, HF.out.2.1])) rfl ?_
        exact HF.out.2.2
    · have hm0 : ((m : Int) == 0) = false := by
        rw [beq_eq_false_iff_ne, H0.out.2.2.2.2.2]
        intro f
        exact hX (List.eq_nil_of_length_eq_zero (by omega))
      rw [decide_eq_false hX] at hres
      have HR := Lib.hid (show res.ok = false by rw [hres]; rfl)
      have hstb := HSTB.out
      clear hres hX HFIN
      rcases o4 with rfl | rfl | rfl
      all_goals
        go_wp2
        refine bodyPost_ret (results_cell_tmp rfl _ _ w.heap.size 44 Z (0, 0) _ rfl (setRow_heap _ _ _ _ _ _ HV.out.res) Try.underlying44 rfl (by rw [reqSize, HZZ.out.1])) rfl ?_
        exact HBAD.out _ (HV.out.mod.trans' (setRow_mod _) (fun i hi hg => by omega)) HR.out
  by_cases o1 : op = 1
  · subst o1
    have hres : res = if X.length = 8 then { MRes.none true with ver := beval X } else .none false := by
      rw [H0.out.2.2.2.2.1]; rfl
    by_cases h8 : m = 8
    · have hX8 : X.length = 8 := by rw [← H0.out.2.2.2.2.2]; exact h8
      rw [if_pos hX8] at hres
      obtain ⟨ver, hver⟩ : ∃ ver, ver = vfold X := ⟨_, rfl⟩
      have hgt := get_ok (w := V) (c := c9) X (H0.out.2.2.2.1.keeps (HV.out.mod.keeps (fun _ _ _ f => f))) (by omega)
      rw [hX8, ← hver] at hgt
      rw [vfold_beval X (by omega)] at hver
      rw [← hver] at hres
      have c9v : V.cell? ⟨w.heap.size + 1, 9, none⟩ = some (.int .u64 (0 : Int)) := (reqAt_cell HV.out.req 9).trans (AskD.at9 _)
      have f9 := blk_free HV.out.req 9
      obtain ⟨CA, hCA⟩ : ∃ CA, CA = ({ askNew key 1 with ver := ver } : AskD).cells.toArray := ⟨_, rfl⟩
      have hmf : Mod (fun b => b = w.heap.size + 1) V (V.setCell ⟨w.heap.size + 1, 9, none⟩ (.int .u64 (ver : Int))) := Mod.setCell (F := fun b => b = w.heap.size + 1) (p := ⟨w.heap.size + 1, 9, none⟩) (Mod.refl _ _) (.inr rfl) _
      have hreq : reqAt (V.setCell ⟨w.heap.size + 1, 9, none⟩ (.int .u64 (ver : Int))) (w.heap.size + 1) { askNew key 1 with ver := ver } := by
        have hs := AskD.setVer (askNew key 1) ver
        rw [reqAt, heap_setCell_row HV.out.req]
        simp only [List.setIfInBounds_toArray]
        rw [hs]
      have hF := HFIN.out _ _ CA TV.zero none 0 (hmf.obj HV.out.res (by omega)) hreq (by rw [hres]; exact askVer_eq key 1 ver) (by rw [hres]; rfl) (HV.out.mod.trans' hmf (fun i hi hg => by omega)) (by rw [hres]; rfl) (TV.zero_rows _ _) hCA
      obtain ⟨f1, f2, f3, f4, f5⟩ := hF
      have HF := Lib.hid (And.intro f3 (And.intro f4 f5))
      have HG := Lib.hid hgt
      subst h8
      clear hCA f3 f4 f5 hres hX8 HFIN HBAD hgt hver hreq hmf
      go_wp2_with (first | (go_at_call 17; refine HG.out.mono ?_; rintro e w2 ⟨rfl, rfl⟩) | fail)
      refine bodyPost_ret (results_cell_tmp rfl _ _ w.heap.size 44 CA (0, 0) _ rfl HF.out.1 Try.underlying44 rfl (by rw [reqSize, HF.out.2.1])) rfl ?_
      exact HF.out.2.2
    · have hm0 : ((m : Int) == 8) = false := by rw [beq_eq_false_iff_ne]; omega
      rw [if_neg (by rw [← H0.out.2.2.2.2.2]; exact h8)] at hres
      have HR := Lib.hid (show res.ok = false by rw [hres]; rfl)
      have hstb := HSTB.out
      clear hres HFIN
      go_wp2
      refine bodyPost_ret (results_cell_tmp rfl _ _ w.heap.size 44 Z (0, 0) _ rfl (setRow_heap _ _ _ _ _ _ HV.out.res) Try.underlying44 rfl (by rw [reqSize, HZZ.out.1])) rfl ?_
      exact HBAD.out _ (HV.out.mod.trans' (setRow_mod _) (fun i hi hg => by omega)) HR.out
  by_cases o2 : op = 2
  · subst o2
    have hkv : Keeps (fun b => b < w.heap.size) w V := HV.out.mod.keeps (fun _ _ _ f => f)
    obtain ⟨put, name, t, ce, hq⟩ : ∃ put name t ce, ocg X = (put, name, t, ce) := ⟨_, _, _, _, rfl⟩
    have hres : res = if ce = 0 then ⟨true, 0, put, name, t, .zero, []⟩ else .none false := by
      rw [H0.out.2.2.2.2.1]
      show mchg X = _
      rw [mchg, hq]
    have HC := Lib.hid (chg_q (refOpenChange_ok (w := V) (c := c9) X ((H0.out.2.2.2.1.keeps hkv).mono (S' := fun b => b < V.heap.size) (fun b hb _ => hb)) (by have := H0.out.2.2.2.2.2; omega) (by have := H0.out.2.2.2.2.2; omega)) hq)
    rw [← H0.out.2.2.2.2.2] at HC
    have hca := chgAlloc_run
    clear hq hkv
    by_cases hce : ce = 0
    · rw [if_pos hce] at hres
      have p0 : ((ce : Int) == 0) = true := by rw [beq_iff_eq]; omega
      have HRES := Lib.hid hres
      clear hres hce
      go_upto_region 27 with (first
        | (go_at_call 18; refine HC.out.mono ?_; rintro e w1 ⟨C1, x, rfl, a1, a2, a3, a4, a5, a6⟩
           have hst := chgStore_nw w1 C1 a5 a6
           have hld := chgLoad_run (at10 w1 (.cells C1 35)) a5
           have hma : Mod No w1 (w1.alloc (.cells C1 35)) := (Mod.refl _ _).alloc _
           obtain ⟨W1, hst2, hat2, hmt⟩ := reqAt_chg (hma.obj (a4.obj HV.out.req id) id) (askNew_ok key 2) C1 a5 a6
           have HN := Lib.hid (And.intro a1 (And.intro a2 (And.intro a3 (And.intro (a4.trans hma) (And.intro hat2 hmt))))); clear a1 a2 a3 a4 a5 a6 hma hat2 hmt)
        | fail)
      obtain ⟨a1, a2, a3, a4, hat2, hmt⟩ := HN.out
      obtain ⟨CA, hCA⟩ : ∃ CA, CA = ({ askNew key 2 with chg := C1.toList } : AskD).cells.toArray := ⟨_, rfl⟩
      have hVs := lt_of_block HV.out.req
      have hF := HFIN.out W1 _ CA x none 0 (hmt.obj (a4.obj HV.out.res id) (by omega)) hat2 (by rw [HRES.out, a1]; exact askChg_eq key 2 put name t x) (by rw [HRES.out]) ((HV.out.mod.trans a4).trans' hmt (fun i hi hg => by omega)) (by rw [HRES.out]; exact a2) (((a3.keeps (((Mod.refl No w1).alloc _).keeps (fun _ _ _ f => f))).keeps (hmt.keeps (fun b _ hb hg => by subst hg; omega))).imp (fun b hb => by omega)) hCA
      obtain ⟨f1, f2, f3, f4, f5⟩ := hF
      have HF := Lib.hid (And.intro f3 (And.intro f4 f5))
      clear hCA f3 f4 f5 HFIN HBAD a1 a2 a3 a4 hat2 hmt
      go_wp2
      refine bodyPost_ret (results_cell_tmp rfl _ _ w.heap.size 44 CA (0, 0) _ rfl HF.out.1 Try.underlying44 rfl (by rw [reqSize, HF.out.2.1])) rfl ?_
      exact HF.out.2.2
    · rw [if_neg hce] at hres
      have p0 : ((ce : Int) == 0) = false := by rw [beq_eq_false_iff_ne]; omega
      have HR := Lib.hid (show res.ok = false by rw [hres]; rfl)
      clear hres hce
      go_upto_region 27 with (first
        | (go_at_call 18; refine HC.out.mono ?_; rintro e w1 ⟨C1, x, rfl, a1, a2, a3, a4, a5, a6⟩
           have hst := chgStore_nw w1 C1 a5 a6
           have hld := chgLoad_run (at10 w1 (.cells C1 35)) a5
           have hma : Mod No w1 (w1.alloc (.cells C1 35)) := (Mod.refl _ _).alloc _
           obtain ⟨W1, hst2, hat2, hmt⟩ := reqAt_chg (hma.obj (a4.obj HV.out.req id) id) (askNew_ok key 2) C1 a5 a6
           have HN := Lib.hid (And.intro (a4.trans hma) hmt); clear a1 a2 a3 a4 a5 a6 hma hat2 hmt)
        | fail)
      have hx1 := HN.out.2.obj (HN.out.1.obj HV.out.res id) (by omega)
      have hstb := reqStore_run hx1 HZZ.out.1 HZZ.out.1 HZZ.out.2
      have hmw := (HV.out.mod.trans HN.out.1).trans' HN.out.2 (fun i hi hg => by omega)
      have HX := Lib.hid (And.intro hx1 hmw)
      clear hx1 hmw HFIN
      go_wp2
      refine bodyPost_ret (results_cell_tmp rfl _ _ w.heap.size 44 Z (0, 0) _ rfl (setRow_heap _ _ _ _ _ _ HX.out.1) Try.underlying44 rfl (by rw [reqSize, HZZ.out.1])) rfl ?_
      exact HBAD.out _ (HX.out.2.trans' (setRow_mod _) (fun i hi hg => by omega)) HR.out
  by_cases o3 : op = 3
  · subst o3
    have hkv : Keeps (fun b => b < w.heap.size) w V := HV.out.mod.keeps (fun _ _ _ f => f)
    obtain ⟨cc, lt, ce, hq⟩ : ∃ cc lt ce, ocf X = (cc, lt, ce) := ⟨_, _, _, rfl⟩
    have hres : res = if ce = 0 ∧ lt = [] then { MRes.none true with cc := cc } else .none false := by
      rw [H0.out.2.2.2.2.1]
      show mcon X = _
      rw [mcon, hq]
    have HC := Lib.hid (con_q (refOpenConfig_ok (w := V) (c := c9) X ((H0.out.2.2.2.1.keeps hkv).mono (S' := fun b => b < V.heap.size) (fun b hb _ => hb)) (by have := H0.out.2.2.2.2.2; omega) (by have := H0.out.2.2.2.2.2; omega)) hq)
    rw [← H0.out.2.2.2.2.2] at HC
    have hca := conAlloc_run
    obtain ⟨k, hk⟩ : ∃ k, k = lt.length := ⟨_, rfl⟩
    obtain ⟨bb, hbb⟩ : ∃ bb, bb = decide (lt = []) := ⟨_, rfl⟩
    have pk : ((k : Int) == 0) = bb := by rw [hbb, hk, Bool.eq_iff_iff]; simp
    have HK := Lib.hid (And.intro hk hbb)
    have h07 : ce = 0 ∨ ce = 70 := by
      unfold ocf at hq
      split at hq <;> (simp only [Prod.mk.injEq] at hq; omega)
    clear hq hkv hk hbb
    by_cases hce : ce = 0
    · have p0 : ((ce : Int) == 0) = true := by rw [beq_iff_eq]; omega
      have HRES := Lib.hid hres
      clear hres h07
      go_upto_region 17 with (first
        | (go_at_call 19; refine HC.out.mono ?_; rintro e w1 ⟨C1, Q, q, l, rfl, a1, a2, a3, a4, a5, a6⟩
           have hst := conStore_nw w1 C1 a5 a6
           have HN := Lib.hid (And.intro a1 (And.intro a4 (And.intro a5 a6))); clear a1 a2 a3 a4 a5 a6)
        | fail)
      refine grab_world fun V1 hV1 => ?_
      have hma : Mod No w1 V1 := by rw [hV1]; exact (Mod.refl _ _).alloc _
      have hb1 : V1.heap[w1.heap.size]? = some (.cells C1 38 (0, 0)) := by rw [hV1]; exact at10 w1 _
      have hld := conLoad_run hb1 HN.out.2.2.1
      have c28 : V1.cell? ⟨w1.heap.size, 28, none⟩ = some (.slice Q k q) := by rw [blk_cell hb1, HN.out.1, HK.out.1]; rfl
      obtain ⟨W1, hst2, hat2, hmt⟩ := reqAt_con (W := V1.drew) (hma.drew.obj (HN.out.2.1.obj HV.out.req id) id) (askNew_ok key 3) C1 HN.out.2.2.1 HN.out.2.2.2
      have hld' : (conLoad (.pointer (some ⟨w1.heap.size, 0, none⟩))).run Try.prog V1.drew = .ok (.agg C1) V1.drew := conLoad_run (W := V1.drew) hb1 HN.out.2.2.1
      have hne : w1.heap.size ≠ w.heap.size + 1 := by have := lt_of_block (HN.out.2.1.obj HV.out.req id); omega
      have hb2 := hmt.obj (show V1.drew.heap[w1.heap.size]? = some (.cells C1 38 (0, 0)) from hb1) hne
      have hld2 := conLoad_run hb2 HN.out.2.2.1
      have c28' : W1.cell? ⟨w1.heap.size, 28, none⟩ = some (.slice Q k q) := by rw [blk_cell hb2, HN.out.1, HK.out.1]; rfl
      have hx1 := hmt.obj (hma.drew.obj (HN.out.2.1.obj HV.out.res id) id) (by omega)
      have hmw := ((HV.out.mod.trans HN.out.2.1).trans hma.drew).trans' hmt (fun i hi hg => by omega)
      have H1 := Lib.hid (And.intro hat2 (And.intro hx1 hmw))
      have HL := Lib.hid (show ((conLoad (.pointer (some ⟨w1.heap.size, 0, none⟩))).run Try.prog V1.drew = .ok (.agg C1) V1.drew ∧ V1.drew.cell? ⟨w1.heap.size, 28, none⟩ = some (.slice Q k q)) from ⟨hld', c28⟩)
      have HL1 := Lib.hid (And.intro hld2 c28')
      clear hV1 hma hb1 hld hat2 hmt hld' hb2 hld2 c28' hx1 hmw hne
      go_region_held3 (fun W => (conLoad (.pointer (some ⟨w1.heap.size, 0, none⟩))).run Try.prog W = .ok (.agg C1) W ∧ W.cell? ⟨w1.heap.size, 28, none⟩ = some (.slice Q k q))
        (first | (exact HL.out) | (exact HL1.out))
        (fail)
      cases bb with
      | false =>
        have hlt : ¬ lt = [] := by have := HK.out.2; intro f; rw [decide_eq_true f] at this; cases this
        have HR := Lib.hid (show res.ok = false by rw [HRES.out, if_neg (fun f => hlt f.2)]; rfl)
        have hstb := reqStore_run H1.out.2.1 HZZ.out.1 HZZ.out.1 HZZ.out.2
        clear HFIN hlt
        go_wp2
        refine bodyPost_ret (results_cell_tmp rfl _ _ w.heap.size 44 Z (0, 0) _ rfl (setRow_heap _ _ _ _ _ _ H1.out.2.1) Try.underlying44 rfl (by rw [reqSize, HZZ.out.1])) rfl ?_
        exact HBAD.out _ (H1.out.2.2.trans' (setRow_mod _) (fun i hi hg => by omega)) HR.out
      | true =>
        have hlt : lt = [] := by have := HK.out.2; exact of_decide_eq_true this.symm
        obtain ⟨CA, hCA⟩ : ∃ CA, CA = ({ askNew key 3 with con := C1.toList } : AskD).cells.toArray := ⟨_, rfl⟩
        have hk0 : C1 = cc.cells (.slice Q 0 q) := by rw [HN.out.1, hlt]; rfl
        have hF := HFIN.out W1 _ CA TV.zero Q q H1.out.2.1 H1.out.1 (by rw [HRES.out, if_pos ⟨hce, hlt⟩, hk0]; exact askCon_eq key 3 cc Q q) (by rw [HRES.out, if_pos ⟨hce, hlt⟩]; rfl) H1.out.2.2 (by rw [HRES.out, if_pos ⟨hce, hlt⟩]; rfl) (TV.zero_rows _ _) hCA
        obtain ⟨f1, f2, f3, f4, f5⟩ := hF
        have HF := Lib.hid (And.intro f3 (And.intro f4 f5))
        clear hCA f3 f4 f5 HFIN HBAD hlt hk0
        go_wp2
        refine bodyPost_ret (results_cell_tmp rfl _ _ w.heap.size 44 CA (0, 0) _ rfl HF.out.1 Try.underlying44 rfl (by rw [reqSize, HF.out.2.1])) rfl ?_
        exact HF.out.2.2
    · obtain rfl : ce = 70 := by omega
      have HR := Lib.hid (show res.ok = false by rw [hres, if_neg (fun f => hce f.1)]; rfl)
      clear hres hce HFIN h07
      go_upto_region 17 with (first
        | (go_at_call 19; refine HC.out.mono ?_; rintro e w1 ⟨C1, Q, q, l, rfl, a1, a2, a3, a4, a5, a6⟩
           have hst := conStore_nw w1 C1 a5 a6
           have HN := Lib.hid (And.intro a1 (And.intro a4 (And.intro a5 a6))); clear a1 a2 a3 a4 a5 a6)
        | fail)
      refine grab_world fun V1 hV1 => ?_
      have hma : Mod No w1 V1 := by rw [hV1]; exact (Mod.refl _ _).alloc _
      have hb1 : V1.heap[w1.heap.size]? = some (.cells C1 38 (0, 0)) := by rw [hV1]; exact at10 w1 _
      have hld := conLoad_run hb1 HN.out.2.2.1
      have c28 : V1.cell? ⟨w1.heap.size, 28, none⟩ = some (.slice Q k q) := by rw [blk_cell hb1, HN.out.1, HK.out.1]; rfl
      obtain ⟨W1, hst2, hat2, hmt⟩ := reqAt_con (W := V1.drew) (hma.drew.obj (HN.out.2.1.obj HV.out.req id) id) (askNew_ok key 3) C1 HN.out.2.2.1 HN.out.2.2.2
      have hld' : (conLoad (.pointer (some ⟨w1.heap.size, 0, none⟩))).run Try.prog V1.drew = .ok (.agg C1) V1.drew := conLoad_run (W := V1.drew) hb1 HN.out.2.2.1
      have hne : w1.heap.size ≠ w.heap.size + 1 := by have := lt_of_block (HN.out.2.1.obj HV.out.req id); omega
      have hb2 := hmt.obj (show V1.drew.heap[w1.heap.size]? = some (.cells C1 38 (0, 0)) from hb1) hne
      have hld2 := conLoad_run hb2 HN.out.2.2.1
      have c28' : W1.cell? ⟨w1.heap.size, 28, none⟩ = some (.slice Q k q) := by rw [blk_cell hb2, HN.out.1, HK.out.1]; rfl
      have hx1 := hmt.obj (hma.drew.obj (HN.out.2.1.obj HV.out.res id) id) (by omega)
      have hmw := ((HV.out.mod.trans HN.out.2.1).trans hma.drew).trans' hmt (fun i hi hg => by omega)
      have H1 := Lib.hid (And.intro hat2 (And.intro hx1 hmw))
      have HL := Lib.hid (show ((conLoad (.pointer (some ⟨w1.heap.size, 0, none⟩))).run Try.prog V1.drew = .ok (.agg C1) V1.drew ∧ V1.drew.cell? ⟨w1.heap.size, 28, none⟩ = some (.slice Q k q)) from ⟨hld', c28⟩)
      have HL1 := Lib.hid (And.intro hld2 c28')
      clear hV1 hma hb1 hld hat2 hmt hld' hb2 hld2 c28' hx1 hmw hne
      have hl2 := HL.out.1
      go_region
      all_goals
        have hstb := reqStore_run H1.out.2.1 HZZ.out.1 HZZ.out.1 HZZ.out.2
        go_wp2
        refine bodyPost_ret (results_cell_tmp rfl _ _ w.heap.size 44 Z (0, 0) _ rfl (setRow_heap _ _ _ _ _ _ H1.out.2.1) Try.underlying44 rfl (by rw [reqSize, HZZ.out.1])) rfl ?_
        exact HBAD.out _ (H1.out.2.2.trans' (setRow_mod _) (fun i hi hg => by omega)) HR.out
  by_cases o7 : op = 7 ∨ op = 8
  · have hkv : Keeps (fun b => b < w.heap.size) w V := HV.out.mod.keeps (fun _ _ _ f => f)
    have hres : res = mnamed X := by
      rw [H0.out.2.2.2.2.1]
      unfold mrest
      rw [if_neg (by omega), if_neg (by omega), if_neg (by omega), if_neg o4, if_pos o7]
    have hrV := H0.out.2.2.2.1.keeps hkv
    have hmX := H0.out.2.2.2.2.2
    have hstb := HSTB.out
    clear o1 o2 o3 o4 hkv
    cases X with
    | nil =>
      have HR := Lib.hid (show res.ok = false by rw [hres]; rfl)
      obtain rfl : m = 0 := hmX
      clear hres HFIN hrV
      rcases o7 with rfl | rfl
      all_goals
        go_wp2
        refine bodyPost_ret (results_cell_tmp rfl _ _ w.heap.size 44 Z (0, 0) _ rfl (setRow_heap _ _ _ _ _ _ HV.out.res) Try.underlying44 rfl (by rw [reqSize, HZZ.out.1])) rfl ?_
        exact HBAD.out _ (HV.out.mod.trans' (setRow_mod _) (fun i hi hg => by omega)) HR.out
    | cons y r =>
      obtain ⟨b9, o9, rfl, _, _, hcl9⟩ := hrV.open (by simp [bcells])
      have cy := hcl9 0 (.int .u8 (y.toNat : Int)) rfl
      rw [Nat.add_zero] at cy
      have hy := y.toNat_lt
      have hrm : r.length = m - 1 := by rw [hmX]; simp
      have hm0 : 0 < m := by rw [hmX]; simp
      have g1 : (0 : Int) < m := by omega
      have g2 : IntKind.i64.wrap (y.toNat : Int) = y.toNat := IntWalk.i64_in _ (by omega)
      have g3 : IntKind.i64.wrap (1 + (y.toNat : Int)) = 1 + (y.toNat : Int) := IntWalk.i64_in _ (by omega)
      by_cases hq : y.toNat = r.length
      · have hm1 : mnamed (y :: r) = { MRes.none true with nm := r } := by simp [mnamed, hq]
        rw [hm1] at hres
        have g4 : ((m : Int) == 1 + (y.toNat : Int)) = true := by rw [beq_iff_eq]; omega
        obtain ⟨A1, sl1, rl1⟩ := own_tail m c9 1 (some ⟨b9, o9, none⟩) (by omega) hmc
        have hr1 := rl1 _ V _ hrV
        have hd : ((bcells (y :: r)).drop 1).take (m - 1) = bcells r := by
          show (bcells r).take (m - 1) = _
          rw [List.take_of_length_le (by rw [bcells_length]; omega)]
        rw [hd] at hr1
        have hcv9 := conv_row (w := V) (c9 - 1) hr1
        rw [hrm] at hcv9
        have sl1' : ∀ W, (Instr.slice 22 (.slice (some ⟨b9, o9, none⟩) m c9) (some (.int .i64 1)) none none).run Try.prog W = .ok (.slice A1 (m - 1) (c9 - 1)) W := sl1
        have ht74 : V.cell? ⟨w.heap.size + 1, 74, none⟩ = some (.string (str [])) := (reqAt_cell HV.out.req 74).trans (AskD.at74 (askNew_ok key op))
        have f74 := blk_free HV.out.req 74
        have hmf : Mod (fun b => b = w.heap.size + 1) V (V.setCell ⟨w.heap.size + 1, 74, none⟩ (.string (str r))) := Mod.setCell (F := fun b => b = w.heap.size + 1) (p := ⟨w.heap.size + 1, 74, none⟩) (Mod.refl _ _) (.inr rfl) _
        have hreq : reqAt (V.setCell ⟨w.heap.size + 1, 74, none⟩ (.string (str r))) (w.heap.size + 1) { askNew key op with name := r } := by
          have hs := AskD.setName (askNew_ok key op) r
          rw [reqAt, heap_setCell_row HV.out.req]
          simp only [List.setIfInBounds_toArray]
          rw [hs]
        obtain ⟨CA, hCA⟩ : ∃ CA, CA = ({ askNew key op with name := r } : AskD).cells.toArray := ⟨_, rfl⟩
        have hF := HFIN.out _ _ CA TV.zero none 0 (hmf.obj HV.out.res (by omega)) hreq (by rw [hres]; exact askName_eq key op r) (by rw [hres]; rfl) (HV.out.mod.trans' hmf (fun i hi hg => by omega)) (by rw [hres]; rfl) (TV.zero_rows _ _) hCA
        obtain ⟨f1, f2, f3, f4, f5⟩ := hF
        have HF := Lib.hid (And.intro f3 (And.intro f4 f5))
        clear hCA f3 f4 f5 hres HFIN HBAD hmf hreq hq hrm hmX hcl9 hrV sl1 rl1 hr1 hd hy hm1 hstb H0
        rcases o7 with rfl | rfl
        all_goals
          go_wp2
          refine bodyPost_ret (results_cell_tmp rfl _ _ w.heap.size 44 CA (0, 0) _ rfl HF.out.1 Try.underlying44 rfl (by rw [reqSize, HF.out.2.1])) rfl ?_
          exact HF.out.2.2
      · have hm1 : mnamed (y :: r) = .none false := by simp [mnamed, hq]
        rw [hm1] at hres
        have g4 : ((m : Int) == 1 + (y.toNat : Int)) = false := by rw [beq_eq_false_iff_ne]; omega
        have HR := Lib.hid (show res.ok = false by rw [hres]; rfl)
        clear hres HFIN hq hrm hmX hcl9 hrV hy hm1 H0
        rcases o7 with rfl | rfl
        all_goals
          go_wp2
          refine bodyPost_ret (results_cell_tmp rfl _ _ w.heap.size 44 Z (0, 0) _ rfl (setRow_heap _ _ _ _ _ _ HV.out.res) Try.underlying44 rfl (by rw [reqSize, HZZ.out.1])) rfl ?_
          exact HBAD.out _ (HV.out.mod.trans' (setRow_mod _) (fun i hi hg => by omega)) HR.out
  · have hres : res = .none false := by
      rw [H0.out.2.2.2.2.1]
      unfold mrest
      rw [if_neg o1, if_neg o2, if_neg o3, if_neg o4, if_neg o7]
    have HR := Lib.hid (show res.ok = false by rw [hres]; rfl)
    have hstb := HSTB.out
    have t1 : ((op : Int) == 1) = false := by rw [beq_eq_false_iff_ne]; omega
    have t2 : ((op : Int) == 2) = false := by rw [beq_eq_false_iff_ne]; omega
    have t3 : ((op : Int) == 3) = false := by rw [beq_eq_false_iff_ne]; omega
    have t4 : ((op : Int) == 4) = false := by rw [beq_eq_false_iff_ne]; omega
    have t5 : ((op : Int) == 5) = false := by rw [beq_eq_false_iff_ne]; omega
    have t6 : ((op : Int) == 6) = false := by rw [beq_eq_false_iff_ne]; omega
    have t7 : ((op : Int) == 7) = false := by rw [beq_eq_false_iff_ne]; omega
    have t8 : ((op : Int) == 8) = false := by rw [beq_eq_false_iff_ne]; omega
    clear hres HFIN o1 o2 o3 o4 o7
    go_wp2
    refine bodyPost_ret (results_cell_tmp rfl _ _ w.heap.size 44 Z (0, 0) _ rfl (setRow_heap _ _ _ _ _ _ HV.out.res) Try.underlying44 rfl (by rw [reqSize, HZZ.out.1])) rfl ?_
    exact HBAD.out _ (HV.out.mod.trans' (setRow_mod _) (fun i hi hg => by omega)) HR.out
end

section
attribute [local go_sem] stPair gtPair gtK8 gtM6 run_store_func run_store_nilFunc
attribute [local go_sem high] neqPair eqK8 eqM6
attribute [local go_sem ↓] load_fold store_fold alloc_fold slice_op_fold con_load_fold chg_load_fold ten_zero_fold con_alloc_fold con_store_fold con_zero_fold chg_alloc_fold chg_store_fold chg_zero_fold chg_put_fold macLoad_fold macStore_fold keyLoad_fold keyStore_fold chg_make_fold chg_slice_fold askLoad_fold askStore_fold askAlloc_fold askBox_fold askZero_fold reqLoad_fold reqStore_fold reqAlloc_fold reqBox_fold reqZero_fold askPut_fold reqPut_fold
open Go.RowKit
set_option linter.unusedVariables false
/-- A request's parts, as they are compared. -/
structure AskIs (w : World) (a : AskD) (key : K8) (op : Int) (ver : Nat) (put : Bool) (cn : List UInt8) (x : TV) (cc : Con) (Q : Option Addr) (q : Nat) (nm : List UInt8) : Prop where
  ok : a.ok
  key : a.key = key
  op : a.op = op
  ver : a.ver = ver
  chg : a.chg = (cChg put cn x).toList
  con : a.con = (cc.cells (.slice Q 0 q)).toList
  nm : a.name = nm
set_option maxRecDepth 100000 in
set_option maxHeartbeats 2000000 in
theorem same_true {S S' : Nat → Prop} {w : World} {a b : AskD} {key : K8} {op : Int} {ver : Nat} {put : Bool} {cn : List UInt8} {x y : TV} {cc : Con} {Q Q' : Option Addr} {q q' : Nat} {nm : List UInt8} (ha : AskIs w a key op ver put cn x cc Q q nm) (hb : AskIs w b key op ver put cn y cc Q' q' nm)
    (hx : x.Rows S w) (hy : y.Rows S' w) (he : x.t = y.t) (hl : y.t.pool.length ≤ 300 ∧ y.t.statics.length ≤ 300 ∧ y.t.twices.length ≤ 300) :
    Calls Try.prog 9 #[.agg a.cells.toArray, .agg b.cells.toArray] w fun e w' => e = .returned (.bool true) ∧ Mod No w w' := by
  have hsA := AskD.size ha.ok
  have hsB := AskD.size hb.ok
  obtain ⟨CA, hCA⟩ : ∃ CA, CA = a.cells.toArray := ⟨_, rfl⟩
  obtain ⟨CB, hCB⟩ : ∃ CB, CB = b.cells.toArray := ⟨_, rfl⟩
  rw [← hCA] at hsA
  rw [← hCB] at hsB
  rw [← hCA, ← hCB]
  have hbA := askBox_new CA hsA
  have hbB := reqBox_new CB hsB
  obtain ⟨V, hV⟩ : ∃ V, V = (w.alloc (.cells CA 40)).alloc (.cells CB 44) := ⟨_, rfl⟩
  have hmV : Mod No w V := by rw [hV]; exact ((Mod.refl _ _).alloc _).alloc _
  have hatA : askAt V w.heap.size a := by rw [askAt, ← hCA, hV]; exact at20 w _ _
  have hatB : reqAt V (w.heap.size + 1) b := by rw [reqAt, ← hCB, hV]; exact at21 w _ _
  obtain ⟨K, hK⟩ : ∃ K, K = (bcells key.l).toArray := ⟨_, rfl⟩
  obtain ⟨C1, hC1⟩ : ∃ C1, C1 = cChg put cn x := ⟨_, rfl⟩
  obtain ⟨C2, hC2⟩ : ∃ C2, C2 = cChg put cn y := ⟨_, rfl⟩
  obtain ⟨D1, hD1⟩ : ∃ D1, D1 = cc.cells (.slice Q 0 q) := ⟨_, rfl⟩
  obtain ⟨D2, hD2⟩ : ∃ D2, D2 = cc.cells (.slice Q' 0 q') := ⟨_, rfl⟩
  have hs1 : C1.size = 35 := by rw [hC1]; exact cChg_size _ _ _
  have hs2 : C2.size = 35 := by rw [hC2]; exact cChg_size _ _ _
  have kA := askAt_keyLoad hatA
  have kB := reqAt_keyLoad hatB
  rw [ha.key, ← hK] at kA
  rw [hb.key, ← hK] at kB
  have eK : ∀ W, (binOp .eql 24 (.agg K) (.agg K)).run Try.prog W = .ok (.bool true) W := fun W => by
    rw [hK]
    have := eqK8 key key W
    rw [decide_eq_true rfl] at this
    exact this
  have a8 : V.cell? ⟨w.heap.size, 8, none⟩ = some (.int .i64 op) := by rw [askAt_cell hatA, AskD.at8, ha.op]
  have b8 : V.cell? ⟨w.heap.size + 1, 8, none⟩ = some (.int .i64 op) := by rw [reqAt_cell hatB, AskD.at8, hb.op]
  have a9 : V.cell? ⟨w.heap.size, 9, none⟩ = some (.int .u64 (ver : Int)) := by rw [askAt_cell hatA, AskD.at9, ha.ver]
  have b9 : V.cell? ⟨w.heap.size + 1, 9, none⟩ = some (.int .u64 (ver : Int)) := by rw [reqAt_cell hatB, AskD.at9, hb.ver]
  have hld : ∀ W, Mod No V W → (chgLoad (.pointer (some ⟨w.heap.size, 10, none⟩))).run Try.prog W = .ok (.agg C1) W ∧ (chgLoad (.pointer (some ⟨w.heap.size + 1, 10, none⟩))).run Try.prog W = .ok (.agg C2) W ∧ (conLoad (.pointer (some ⟨w.heap.size, 45, none⟩))).run Try.prog W = .ok (.agg D1) W ∧ (conLoad (.pointer (some ⟨w.heap.size + 1, 45, none⟩))).run Try.prog W = .ok (.agg D2) W ∧ W.cell? ⟨w.heap.size, 74, none⟩ = some (.string (str nm)) ∧ W.cell? ⟨w.heap.size + 1, 74, none⟩ = some (.string (str nm)) := fun W hW => by
    have h1 : askAt W w.heap.size a := hW.obj hatA id
    have h2 : reqAt W (w.heap.size + 1) b := hW.obj hatB id
    refine ⟨?_, ?_, ?_, ?_, ?_, ?_⟩
    · rw [askAt_chgLoad h1 ha.ok, ha.chg, hC1]
    · rw [reqAt_chgLoad h2 hb.ok, hb.chg, hC2]
    · rw [askAt_conLoad h1 ha.ok, ha.con, hD1]
    · rw [reqAt_conLoad h2 hb.ok, hb.con, hD2]
    · rw [askAt_cell h1, AskD.at74 ha.ok, ha.nm]
    · rw [reqAt_cell h2, AskD.at74 hb.ok, hb.nm]
  have kp : ∀ {S : Nat → Prop} {a b : World}, Mod No a b → Keeps S a b := fun h => h.keeps (fun _ _ _ f => f)
  have hch : ∀ W, Mod No V W → Calls Try.prog 20 #[.slice (some ⟨W.heap.size, 0, none⟩) 1 1, .slice (some ⟨W.heap.size + 1, 0, none⟩) 1 1] ((W.alloc (.cells C1 35)).alloc (.cells C2 35)) fun e w' => e = .returned (.bool true) ∧ Mod No W w' := fun W hW => by
    have hm : Mod No W ((W.alloc (.cells C1 35)).alloc (.cells C2 35)) := ((Mod.refl _ _).alloc _).alloc _
    have h5 := at20 W (.cells C1 35) (.cells C2 35)
    have h6 := at21 W (.cells C1 35) (.cells C2 35)
    have := changes_same put cn (by rw [← hC1]; exact h5) (by rw [← hC2]; exact h6) (hx.keeps (kp ((hmV.trans hW).trans hm))) (hy.keeps (kp ((hmV.trans hW).trans hm))) he hl
    exact this.mono fun e w' ⟨h1, h2⟩ => ⟨h1, hm.trans h2⟩
  have hcf : ∀ W, Mod No V W → Calls Try.prog 21 #[.agg D1, .agg D2] W fun e w' => e = .returned (.bool true) ∧ Mod No W w' := fun W hW => by
    rw [hD1, hD2]
    exact config_same (S := No) (S' := No) (l := []) (l' := []) cc ⟨.nil _ _ _, by simp⟩ ⟨.nil _ _ _, by simp⟩ rfl rfl (by simp) (by omega)
  have hcs1 := chgSlice_run C1 hs1
  have hcs2 := chgSlice_run C2 hs2
  have e8 : (op == op) = true := by simp
  have e9 : ((ver : Int) == ver) = true := by simp
  have HLD := Lib.hid hld
  have HCH := Lib.hid hch
  have HCF := Lib.hid hcf
  have HM := Lib.hid hmV
  have HV := Lib.hid hV
  have b1 := (hld V (Mod.refl _ _)).1
  have b2 : (chgLoad (.pointer (some ⟨w.heap.size + 1, 10, none⟩))).run Try.prog (V.alloc (.cells C1 35)) = .ok (.agg C2) (V.alloc (.cells C1 35)) := (hld _ ((Mod.refl _ _).alloc _)).2.1
  clear hsA hsB hCA hCB hV hmV hatA hatB hK hC1 hC2 hD1 hD2 hs1 hs2 hld hch hcf kp ha hb hx hy he hl
  go_enter Try.func9, Try.ntmps9
  go_upto_region 1 with fail
  rw [← HV.out]
  clear HV
  go_wp2_with (first
    | (go_at_call 20; refine (HCH.out _ (Mod.refl _ _)).mono ?_; rintro e u1 ⟨rfl, n1⟩; obtain ⟨_, _, b3, b4, _, _⟩ := HLD.out u1 n1; have N1 := Lib.hid n1; clear n1)
    | (go_at_call 21; refine (HCF.out _ N1.out).mono ?_; rintro e u2 ⟨rfl, n2⟩; obtain ⟨_, _, _, _, b5, b6⟩ := HLD.out u2 (N1.out.trans n2); have N2 := Lib.hid (Mod.trans N1.out n2); clear n2)
    | fail)
  go_ret
  exact ⟨by simp, HM.out.trans N2.out⟩
end

section
attribute [local go_sem] stPair gtPair gtK8 gtM6 run_store_func run_store_nilFunc
attribute [local go_sem high] neqPair eqK8 eqM6
attribute [local go_sem ↓] load_fold store_fold alloc_fold slice_op_fold con_load_fold chg_load_fold ten_zero_fold con_alloc_fold con_store_fold con_zero_fold chg_alloc_fold chg_store_fold chg_zero_fold chg_put_fold macLoad_fold macStore_fold keyLoad_fold keyStore_fold chg_make_fold chg_slice_fold askLoad_fold askStore_fold askAlloc_fold askBox_fold askZero_fold reqLoad_fold reqStore_fold reqAlloc_fold reqBox_fold reqZero_fold askPut_fold reqPut_fold
open Go.RowKit
set_option linter.unusedVariables false
/-- What a closure that writes tells: bytes, and whether they may be. -/
def WrQ (ok : Bool) (L : List UInt8) (w : World) (e : Ending) (w' : World) : Prop :=
  ∃ v, e = .returned (.tuple #[v, .bool ok]) ∧ OwnB w' w.heap.size v L ∧ Mod No w w'
theorem wr_nothing {w : World} (CA : Array Value) (hs : CA.size = 75) : Calls Try.prog 26 #[.agg CA] w (WrQ true [] w) := by
  have hb := askBox_new CA hs
  clear hs
  go_enter Try.func26, Try.ntmps26
  go_wp2
  go_ret2
  exact ⟨_, rfl, nil_own _ _, (Mod.refl _ _).alloc _⟩
end

end Go.Proofs.Ytpkieilmlnlpkaa
