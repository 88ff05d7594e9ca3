/-
  MgA, MgB, MgC, MgF, MgH, MgD, MgE, MgG, MgI, MgL, MgN in one text (pack.py).
-/
import Derived.Test.YtpkieilmlnlpkaaR4
import Derived.Laws.CopyOwn
namespace Go.Proofs.Ytpkieilmlnlpkaa

section
attribute [local go_sem] stPair gtPair gtK8 gtM6 run_store_func
attribute [local go_sem high] neqPair eqK8 eqM6
attribute [local go_sem ↓] load_fold store_fold alloc_fold slice_op_fold con_load_fold chg_load_fold ten_zero_fold con_alloc_fold con_store_fold con_zero_fold chg_alloc_fold chg_store_fold chg_zero_fold chg_put_fold macLoad_fold macStore_fold keyLoad_fold keyStore_fold chg_make_fold chg_slice_fold
open Go.RowKit
set_option linter.unusedVariables false
/-- A request as data; its change's and its settings' cells. -/
structure AskD where
  key : K8
  op : Int
  ver : Nat
  chg : List Value
  con : List Value
  name : List UInt8
def AskD.cells (a : AskD) : List Value := bcells a.key.l ++ ([.int .i64 a.op, .int .u64 (a.ver : Int)] ++ (a.chg ++ (a.con ++ [.string (str a.name)])))
structure AskD.ok (a : AskD) : Prop where
  chg : a.chg.length = 35
  con : a.con.length = 29
  chg1 : ∀ v ∈ a.chg, v.oneCell' = true
  con1 : ∀ v ∈ a.con, v.oneCell' = true
def AskD.zero : AskD := ⟨.zero, 0, 0, zChg.toList, zCon.toList, []⟩
theorem K8.cells_len (k : K8) : (bcells k.l).length = 8 := rfl
theorem AskD.len {a : AskD} (h : a.ok) : a.cells.length = 75 := by
  simp only [AskD.cells, List.length_append, K8.cells_len, h.chg, h.con, List.length_cons, List.length_nil]
theorem AskD.size {a : AskD} (h : a.ok) : a.cells.toArray.size = 75 := by rw [List.size_toArray]; exact a.len h
theorem AskD.one {a : AskD} (h : a.ok) : a.cells.toArray.all (·.oneCell') = true := by
  rw [Array.all_eq_true_iff_forall_mem]
  intro v hv
  simp only [List.mem_toArray, AskD.cells, List.mem_append, List.mem_cons, List.mem_nil_iff, or_false] at hv
  rcases hv with h1 | (rfl | rfl) | h1 | h1 | rfl
  · exact bcells_one _ v h1
  · rfl
  · rfl
  · exact h.chg1 v h1
  · exact h.con1 v h1
  · rfl
theorem AskD.zero_ok : AskD.zero.ok := ⟨rfl, rfl, by decide +kernel, by decide +kernel⟩
theorem AskD.at8 (a : AskD) : a.cells[8]? = some (.int .i64 a.op) := by
  rw [AskD.cells, List.getElem?_append_right (by rw [K8.cells_len]; exact Nat.le_refl _), K8.cells_len]; rfl
theorem AskD.at9 (a : AskD) : a.cells[9]? = some (.int .u64 (a.ver : Int)) := by
  rw [AskD.cells, List.getElem?_append_right (by rw [K8.cells_len]; decide), K8.cells_len]; rfl
theorem AskD.atKey (a : AskD) (j : Nat) (hj : j < 8) : a.cells[j]? = (bcells a.key.l)[j]? := by
  rw [AskD.cells, List.getElem?_append_left (by rw [K8.cells_len]; exact hj)]
theorem AskD.atCon {a : AskD} (h : a.ok) (j : Nat) (hj : j < 29) : a.cells[45 + j]? = a.con[j]? := by
  rw [AskD.cells, List.getElem?_append_right (by rw [K8.cells_len]; omega), K8.cells_len, List.getElem?_append_right (by simp; omega), List.getElem?_append_right (by rw [h.chg]; simp; omega), List.getElem?_append_left (by rw [h.con, h.chg]; simp; omega)]
  congr 1
  rw [h.chg]
  simp
  omega
theorem AskD.at74 {a : AskD} (h : a.ok) : a.cells[74]? = some (.string (str a.name)) := by
  rw [AskD.cells, List.getElem?_append_right (by rw [K8.cells_len]; omega), K8.cells_len, List.getElem?_append_right (by simp), List.getElem?_append_right (by rw [h.chg]; simp), List.getElem?_append_right (by rw [h.con, h.chg]; simp), h.chg, h.con]
  rfl
theorem splice_app {α : Type} (p m q m' : List α) (o : Nat) (ho : p.length = o) (hm : m'.length = m.length) : splice (p ++ (m ++ q)) o m' = p ++ (m' ++ q) := by
  subst ho
  simp [splice, hm, List.drop_append]
theorem set_app {α : Type} (p q : List α) (x y : α) (o : Nat) (ho : p.length = o) : (p ++ (x :: q)).set o y = p ++ (y :: q) := by
  subst ho
  simp
theorem AskD.setVer (a : AskD) (v : Nat) : a.cells.set 9 (.int .u64 (v : Int)) = { a with ver := v }.cells := by
  have := set_app (bcells a.key.l ++ [.int .i64 a.op]) (a.chg ++ (a.con ++ [.string (str a.name)])) (.int .u64 (a.ver : Int)) (.int .u64 (v : Int)) 9 rfl
  simpa [AskD.cells] using this
theorem AskD.setChg {a : AskD} (h : a.ok) (c : List Value) (hc : c.length = 35) : splice a.cells 10 c = { a with chg := c }.cells := by
  have := splice_app (bcells a.key.l ++ [.int .i64 a.op, .int .u64 (a.ver : Int)]) a.chg (a.con ++ [.string (str a.name)]) c 10 rfl (by rw [h.chg, hc])
  simpa [AskD.cells] using this
theorem AskD.setCon {a : AskD} (h : a.ok) (c : List Value) (hc : c.length = 29) : splice a.cells 45 c = { a with con := c }.cells := by
  have := splice_app (bcells a.key.l ++ ([.int .i64 a.op, .int .u64 (a.ver : Int)] ++ a.chg)) a.con [.string (str a.name)] c 45 (by simp [K8.cells_len, h.chg]) (by rw [h.con, hc])
  simpa [AskD.cells] using this
theorem AskD.setName {a : AskD} (h : a.ok) (n : List UInt8) : a.cells.set 74 (.string (str n)) = { a with name := n }.cells := by
  have := set_app (bcells a.key.l ++ ([.int .i64 a.op, .int .u64 (a.ver : Int)] ++ (a.chg ++ a.con))) [] (.string (str a.name)) (.string (str n)) 74 (by simp [K8.cells_len, h.chg, h.con])
  simpa [AskD.cells] using this
set_option maxRecDepth 100000 in
theorem askBox_raw (CA : Array Value) (h : CA.size = 75) (W : World) : (Instr.box 40 (.agg CA)).run Try.prog W = .ok (.pointer (some ⟨W.heap.size, 0, none⟩)) (W.alloc (.cells CA 40)) := by
  go_simp
def askLoad (v : Value) : Sem Value := Instr.loadAt 40 v
theorem askLoad_fold (v : Value) : Instr.loadAt 40 v = askLoad v := rfl
attribute [local go_sem ↓] askLoad_fold
def askStore (p v : Value) : Sem Unit := Instr.storeAt 40 p v
theorem askStore_fold (p v : Value) : Instr.storeAt 40 p v = askStore p v := rfl
attribute [local go_sem ↓] askStore_fold
def askAlloc (v : Value) : Sem Value := Instr.alloc 40 true v
theorem askAlloc_fold (v : Value) : Instr.alloc 40 true v = askAlloc v := rfl
attribute [local go_sem ↓] askAlloc_fold
def askBox (v : Value) : Sem Value := Instr.box 40 v
theorem askBox_fold (v : Value) : Instr.box 40 v = askBox v := rfl
attribute [local go_sem ↓] askBox_fold
def askZero : Sem Value := Instr.build 40 #[]
theorem askZero_fold (ρ : Operand → Value) (dst : Option Tmp) (ty : TypeId) (pos : String) (after : Array Edge) (g : Option (Nat × Bool)) :
    execOp ρ { dst := dst, op := .build 40 #[], type := ty, pos := pos, after := after, guard := g } = (do pure (Next.value (← askZero)) : Sem Next) := by
  show (do pure (Next.value (← Instr.build 40 (#[].map fun (i, x) => (i, ρ x)))) : Sem Next) = _
  simp only [Array.map_empty]
  rfl
attribute [local go_sem ↓] askZero_fold
theorem askSize : (Try.prog.info? 40).map (·.size) = some 75 := by kernel_rfl
set_option maxRecDepth 100000 in
theorem askAlloc_run (W : World) : (askAlloc (.tuple #[])).run Try.prog W = .ok (.pointer (some ⟨W.heap.size, 0, none⟩)) (W.alloc (.cells AskD.zero.cells.toArray 40)) := by kernel_rfl
set_option maxRecDepth 100000 in
theorem askZero_run (W : World) : askZero.run Try.prog W = .ok (.agg AskD.zero.cells.toArray) W := by kernel_rfl
theorem askBox_run (CA : Array Value) (h : CA.size = 75) (W : World) : (askBox (.agg CA)).run Try.prog W = .ok (.pointer (some ⟨W.heap.size, 0, none⟩)) (W.alloc (.cells CA 40)) := askBox_raw CA h W
theorem askLoad_run {W : World} {b : Nat} {CA : Array Value} (h : W.heap[b]? = some (.cells CA 40 (0, 0))) (hc : CA.size = 75) : (askLoad (.pointer (some ⟨b, 0, none⟩))).run Try.prog W = .ok (.agg CA) W := by
  simp only [askLoad, Instr.loadAt, Instr.sureAddr, Sem.run_bind, Sem.run_pure, Result.andThen_ok]
  exact run_loadVar_row W b _ _ CA (0, 0) _ h Try.underlying40 rfl (by rw [askSize, hc])
theorem askStore_run {W : World} {b : Nat} {old CA : Array Value} (h : W.heap[b]? = some (.cells old 40 (0, 0))) (ho : old.size = 75) (hc : CA.size = 75) (h1 : CA.all (·.oneCell') = true) :
    (askStore (.pointer (some ⟨b, 0, none⟩)) (.agg CA)).run Try.prog W = .ok () (W.setRow b CA) := by
  simp only [askStore, Instr.storeAt, Instr.sureAddr, Sem.run_bind, Sem.run_pure, Result.andThen_ok]
  exact run_storeVar_row W b _ _ old CA h (by rw [askSize, hc]) (by rw [ho, hc]) h1
theorem askBox_new (CA : Array Value) (h : CA.size = 75) : ∀ W : World, (askBox (.agg CA)).run Try.prog W = .ok (.pointer (some ⟨W.heap.size, 0, none⟩)) (W.alloc (.cells CA 40)) := askBox_run CA h
theorem askStore_new (W : World) (CA : Array Value) (hc : CA.size = 75) (h1 : CA.all (·.oneCell') = true) : (askStore (.pointer (some ⟨W.heap.size, 0, none⟩)) (.agg CA)).run Try.prog (W.alloc (.cells AskD.zero.cells.toArray 40)) = .ok () (W.alloc (.cells CA 40)) := by
  rw [← setRow_alloc W AskD.zero.cells.toArray CA]
  exact askStore_run (at10 W _) rfl hc h1
theorem askStore_newd (W : World) (CA : Array Value) (hc : CA.size = 75) (h1 : CA.all (·.oneCell') = true) : (askStore (.pointer (some ⟨W.heap.size, 0, none⟩)) (.agg CA)).run Try.prog (W.alloc (.cells AskD.zero.cells.toArray 40)).drew = .ok () (W.alloc (.cells CA 40)).drew := by
  rw [← setRow_alloc W AskD.zero.cells.toArray CA]
  exact askStore_run (W := (W.alloc (.cells AskD.zero.cells.toArray 40)).drew) (at10 W _) rfl hc h1
/-- A block that is a request. -/
def askAt (W : World) (b : Nat) (a : AskD) : Prop := W.heap[b]? = some (.cells a.cells.toArray 40 (0, 0))
theorem askAt_chg {W : World} {b : Nat} {a : AskD} (h : askAt W b a) (ha : a.ok) (c : Array Value) (hc : c.size = 35) (h1 : c.all (·.oneCell') = true) :
    ∃ W', (chgStore (.pointer (some ⟨b, 10, none⟩)) (.agg c)).run Try.prog W = .ok () W' ∧ askAt W' b { a with chg := c.toList } ∧ Mod (fun k => k = b) W W' := by
  refine ⟨_, arrStore_in chgSize h (by rw [AskD.size ha]; decide) hc h1, ?_, setRow_mod _⟩
  rw [askAt, setRow_heap _ _ _ _ _ _ h]
  simp only
  rw [AskD.setChg ha _ (by simpa using hc)]
theorem askAt_con {W : World} {b : Nat} {a : AskD} (h : askAt W b a) (ha : a.ok) (c : Array Value) (hc : c.size = 29) (h1 : c.all (·.oneCell') = true) :
    ∃ W', (conStore (.pointer (some ⟨b, 45, none⟩)) (.agg c)).run Try.prog W = .ok () W' ∧ askAt W' b { a with con := c.toList } ∧ Mod (fun k => k = b) W W' := by
  refine ⟨_, arrStore_in conSize h (by rw [AskD.size ha]; decide) hc h1, ?_, setRow_mod _⟩
  rw [askAt, setRow_heap _ _ _ _ _ _ h]
  simp only
  rw [AskD.setCon ha _ (by simpa using hc)]
theorem askAt_cell {W : World} {b : Nat} {a : AskD} (h : askAt W b a) (j : Nat) : W.cell? ⟨b, j, none⟩ = a.cells[j]? := by
  rw [blk_cell h]; simp
theorem askAt_keyLoad {W : World} {b : Nat} {a : AskD} (h : askAt W b a) : (keyLoad (.pointer (some ⟨b, 0, none⟩))).run Try.prog W = .ok (.agg (bcells a.key.l).toArray) W := by
  refine run_loadAt_mid W b 0 _ (bcells a.key.l) _ (fun j v hj => ?_) Try.underlying24 rfl (by rw [keySize, K8.cells_len])
  have := (List.getElem?_eq_some_iff.1 hj).1
  rw [Nat.zero_add, askAt_cell h, AskD.atKey _ j (by simpa [K8.cells_len] using this), hj]
def reqLoad (v : Value) : Sem Value := Instr.loadAt 44 v
theorem reqLoad_fold (v : Value) : Instr.loadAt 44 v = reqLoad v := rfl
attribute [local go_sem ↓] reqLoad_fold
def reqStore (p v : Value) : Sem Unit := Instr.storeAt 44 p v
theorem reqStore_fold (p v : Value) : Instr.storeAt 44 p v = reqStore p v := rfl
attribute [local go_sem ↓] reqStore_fold
def reqAlloc (v : Value) : Sem Value := Instr.alloc 44 true v
theorem reqAlloc_fold (v : Value) : Instr.alloc 44 true v = reqAlloc v := rfl
attribute [local go_sem ↓] reqAlloc_fold
def reqBox (v : Value) : Sem Value := Instr.box 44 v
theorem reqBox_fold (v : Value) : Instr.box 44 v = reqBox v := rfl
attribute [local go_sem ↓] reqBox_fold
def reqZero : Sem Value := Instr.build 44 #[]
theorem reqZero_fold (ρ : Operand → Value) (dst : Option Tmp) (ty : TypeId) (pos : String) (after : Array Edge) (g : Option (Nat × Bool)) :
    execOp ρ { dst := dst, op := .build 44 #[], type := ty, pos := pos, after := after, guard := g } = (do pure (Next.value (← reqZero)) : Sem Next) := by
  show (do pure (Next.value (← Instr.build 44 (#[].map fun (i, x) => (i, ρ x)))) : Sem Next) = _
  simp only [Array.map_empty]
  rfl
attribute [local go_sem ↓] reqZero_fold
theorem keyLoad_mid (W : World) (b o : Nat) (k : K8) (h : ∀ j v, (bcells k.l)[j]? = some v → W.cell? ⟨b, o + j, none⟩ = some v) : (keyLoad (.pointer (some ⟨b, o, none⟩))).run Try.prog W = .ok (.agg (bcells k.l).toArray) W :=
  run_loadAt_mid W b o _ (bcells k.l) _ h Try.underlying24 rfl (by rw [keySize, K8.cells_len])
def askPut (k o : Value) : Sem Value := Instr.build 40 #[(0, k), (1, o)]
theorem askPut_fold (ρ : Operand → Value) (x y : Operand) (dst : Option Tmp) (ty : TypeId) (pos : String) (after : Array Edge) (g : Option (Nat × Bool)) :
    execOp ρ { dst := dst, op := .build 40 #[(0, x), (1, y)], type := ty, pos := pos, after := after, guard := g } = (do pure (Next.value (← askPut (ρ x) (ρ y))) : Sem Next) := by
  show (do pure (Next.value (← Instr.build 40 (#[(0, x), (1, y)].map fun (i, x) => (i, ρ x)))) : Sem Next) = _
  have hm : (#[((0 : Nat), x), (1, y)].map fun (i, x) => (i, ρ x)) = #[(0, ρ x), (1, ρ y)] := by simp
  rw [hm]
  rfl
attribute [local go_sem ↓] askPut_fold
set_option maxRecDepth 100000 in
theorem askPut_run (k : K8) (o : Int) (W : World) : (askPut (.agg (bcells k.l).toArray) (.int .i64 o)).run Try.prog W = .ok (.agg { AskD.zero with key := k, op := o }.cells.toArray) W := by kernel_rfl
def reqPut (o : Value) : Sem Value := Instr.build 44 #[(1, o)]
theorem reqPut_fold (ρ : Operand → Value) (y : Operand) (dst : Option Tmp) (ty : TypeId) (pos : String) (after : Array Edge) (g : Option (Nat × Bool)) :
    execOp ρ { dst := dst, op := .build 44 #[(1, y)], type := ty, pos := pos, after := after, guard := g } = (do pure (Next.value (← reqPut (ρ y))) : Sem Next) := by
  show (do pure (Next.value (← Instr.build 44 (#[(1, y)].map fun (i, x) => (i, ρ x)))) : Sem Next) = _
  have hm : (#[((1 : Nat), y)].map fun (i, x) => (i, ρ x)) = #[(1, ρ y)] := by simp
  rw [hm]
  rfl
attribute [local go_sem ↓] reqPut_fold
end

section
attribute [local go_sem] stPair gtPair gtK8 gtM6 run_store_func
attribute [local go_sem high] neqPair eqK8 eqM6
attribute [local go_sem ↓] load_fold store_fold alloc_fold slice_op_fold con_load_fold chg_load_fold ten_zero_fold con_alloc_fold con_store_fold con_zero_fold chg_alloc_fold chg_store_fold chg_zero_fold chg_put_fold macLoad_fold macStore_fold keyLoad_fold keyStore_fold chg_make_fold chg_slice_fold askLoad_fold askStore_fold askAlloc_fold askBox_fold askZero_fold reqLoad_fold reqStore_fold reqAlloc_fold reqBox_fold reqZero_fold askPut_fold reqPut_fold
open Go.RowKit
set_option linter.unusedVariables false
/-- What a request's rest comes to. -/
structure MRes where
  ok : Bool
  ver : Nat
  put : Bool
  cn : List UInt8
  ct : Ten
  cc : Con
  nm : List UInt8
def MRes.none (ok : Bool) : MRes := ⟨ok, 0, false, [], .zero, .zero, []⟩
def mnamed : List UInt8 → MRes
  | [] => .none false
  | x :: r => if x.toNat = r.length then { MRes.none true with nm := r } else .none false
def mchg (B : List UInt8) : MRes := if (ocg B).2.2.2 = 0 then ⟨true, 0, (ocg B).1, (ocg B).2.1, (ocg B).2.2.1, .zero, []⟩ else .none false
def mcon (B : List UInt8) : MRes := if (ocf B).2.2 = 0 ∧ (ocf B).2.1 = [] then { MRes.none true with cc := (ocf B).1 } else .none false
def mrest (op : Nat) (B : List UInt8) : MRes :=
  if op = 1 then (if B.length = 8 then { MRes.none true with ver := beval B } else .none false)
  else if op = 2 then mchg B
  else if op = 3 then mcon B
  else if op = 4 ∨ op = 5 ∨ op = 6 then .none (decide (B = []))
  else if op = 7 ∨ op = 8 then mnamed B
  else .none false
/-- The request that a rest makes. -/
def MRes.ask (r : MRes) (key : K8) (op : Nat) (x : TV) (Q : Option Addr) (q : Nat) : AskD :=
  ⟨key, op, r.ver, (cChg r.put r.cn x).toList, (r.cc.cells (.slice Q 0 q)).toList, r.nm⟩
theorem MRes.ask_ok {S : Nat → Prop} {w : World} (r : MRes) (key : K8) (op : Nat) {x : TV} (Q : Option Addr) (q : Nat) (h : x.Rows S w) : (r.ask key op x Q q).ok :=
  ⟨by simpa [MRes.ask] using cChg_size _ _ _, rfl, fun v hv => Array.all_eq_true_iff_forall_mem.1 (cChg_one r.put r.cn h) v (by simpa [MRes.ask] using hv),
    fun v hv => Array.all_eq_true_iff_forall_mem.1 (con_one r.cc Q 0 q) v (by simpa [MRes.ask] using hv)⟩
def askNew (key : K8) (op : Nat) : AskD := { AskD.zero with key := key, op := op }
theorem askNew_ok (key : K8) (op : Nat) : (askNew key op).ok := ⟨AskD.zero_ok.chg, AskD.zero_ok.con, AskD.zero_ok.chg1, AskD.zero_ok.con1⟩
theorem zchg_eq : zChg.toList = (cChg false [] TV.zero).toList := by kernel_rfl
theorem zcon_eq : zCon.toList = (Con.zero.cells (.slice none 0 0)).toList := by kernel_rfl
theorem askNew_eq (key : K8) (op : Nat) (b : Bool) : askNew key op = (MRes.none b).ask key op TV.zero none 0 := by
  have h1 := zchg_eq
  have h2 := zcon_eq
  unfold askNew AskD.zero MRes.ask MRes.none
  simp only
  rw [← h1, ← h2]
/-- What a closure that reads leaves: whether it was read, and in block T the request. -/
def RdC (r : MRes) (key : K8) (op T : Nat) (W : World) (e : Ending) (w' : World) : Prop :=
  e = .returned (.bool r.ok) ∧ Mod (fun b => b = T) W w' ∧ (r.ok = true → ∃ (x : TV) (Q : Option Addr) (q : Nat), askAt w' T (r.ask key op x Q q) ∧ x.t = r.ct ∧ x.Rows (fun b => W.heap.size ≤ b) w')
theorem rdC_none {key : K8} {op T : Nat} {W w' : World} {b : Bool} (hT : askAt W T (askNew key op)) (hw : w' = W) : RdC (.none b) key op T W (.returned (.bool b)) w' := by
  subst hw
  rw [askNew_eq key op b] at hT
  exact ⟨rfl, Mod.refl _ _, fun _ => ⟨TV.zero, none, 0, hT, rfl, TV.zero_rows _ _⟩⟩
theorem askName_eq (key : K8) (op : Nat) (r : List UInt8) : { askNew key op with name := r } = ({ MRes.none true with nm := r } : MRes).ask key op TV.zero none 0 := by
  rw [askNew_eq key op true]; simp only [MRes.ask, MRes.none]
theorem askVer_eq (key : K8) (op v : Nat) : { askNew key op with ver := v } = ({ MRes.none true with ver := v } : MRes).ask key op TV.zero none 0 := by
  rw [askNew_eq key op true]; simp only [MRes.ask, MRes.none]
theorem askChg_eq (key : K8) (op : Nat) (put : Bool) (name : List UInt8) (t : Ten) (x : TV) : { askNew key op with chg := (cChg put name x).toList } = (⟨true, 0, put, name, t, .zero, []⟩ : MRes).ask key op x none 0 := by
  rw [askNew_eq key op true]; simp only [MRes.ask, MRes.none]
theorem askCon_eq (key : K8) (op : Nat) (cc : Con) (Q : Option Addr) (q : Nat) : { askNew key op with con := (cc.cells (.slice Q 0 q)).toList } = ({ MRes.none true with cc := cc } : MRes).ask key op TV.zero Q q := by
  rw [askNew_eq key op true]; simp only [MRes.ask, MRes.none]
theorem rd_nothing {w : World} {T n c : Nat} {A : Option Addr} :
    Calls Try.prog 25 #[.pointer (some ⟨T, 0, none⟩), .slice A n c] w fun e w' => e = .returned (.bool (decide (n = 0))) ∧ w' = w := by
  obtain ⟨b, hb⟩ : ∃ b, b = decide (n = 0) := ⟨_, rfl⟩
  have p : ((n : Int) == 0) = b := by
    rw [hb, Bool.eq_iff_iff]
    simp
  rw [← hb]
  clear hb
  go_enter Try.func25, Try.ntmps25
  go_wp2
  go_ret
  exact ⟨rfl, rfl⟩
set_option maxRecDepth 100000 in
theorem rd_named {S : Nat → Prop} {w : World} {T c : Nat} {A : Option Addr} {key : K8} {op : Nat} (B : List UInt8) (hT : askAt w T (askNew key op)) (hrow : RowAt S w A (bcells B)) (hc : B.length ≤ c) (h63 : B.length ≤ 100000000) :
    Calls Try.prog 27 #[.pointer (some ⟨T, 0, none⟩), .slice A B.length c] w (RdC (mnamed B) key op T w) := by
  match B, hrow, hc, h63 with
  | [], hrow, hc, h63 =>
    have HT := Lib.hid hT
    clear hT hrow
    show Calls _ _ #[_, .slice A 0 c] w _
    go_enter Try.func27, Try.ntmps27
    go_wp2
    go_ret
    exact rdC_none HT.out rfl
  | x :: r, hrow, hc, h63 =>
    obtain ⟨b, o, rfl, _, _, hcl⟩ := hrow.open (by simp [bcells])
    have c0 := hcl 0 (.int .u8 (x.toNat : Int)) rfl
    rw [Nat.add_zero] at c0
    obtain ⟨A', sl, rl⟩ := own_tail (x :: r).length c 1 (some ⟨b, o, none⟩) (by simp) hc
    have hr1 := rl S w _ hrow
    have hd : ((bcells (x :: r)).drop 1).take ((x :: r).length - 1) = bcells r := by
      show (bcells r).take r.length = _
      rw [List.take_of_length_le (by rw [bcells_length]; exact Nat.le_refl _)]
    rw [hd] at hr1
    have hcv := conv_row (w := w) (c - 1) hr1
    have hl : (x :: r).length - 1 = r.length := by simp
    obtain ⟨n, hn⟩ : ∃ n, n = (x :: r).length := ⟨_, rfl⟩
    rw [← hn] at sl hc h63
    rw [← hn]
    have hrn : r.length = n - 1 := by rw [hn]; simp
    have hn0 : 0 < n := by rw [hn]; simp
    rw [hrn] at hcv
    have p0 : ((n : Int) == 0) = false := by rw [beq_eq_false_iff_ne]; omega
    have p1 : (0 : Int) < n := by omega
    have hx := x.toNat_lt
    have ht74 : w.cell? ⟨T, 74, none⟩ = some (.string (str [])) := (askAt_cell hT 74).trans (AskD.at74 (askNew_ok key op))
    have fr := blk_free hT 74
    have hfin : (w.setCell ⟨T, 74, none⟩ (.string (str r))).heap[T]? = some (.cells ({ askNew key op with name := r } : AskD).cells.toArray 40 (0, 0)) := by
      rw [heap_setCell_row hT, ← AskD.setName (askNew_ok key op) r]
      simp
    have HT := Lib.hid hT
    have HF := Lib.hid (And.intro hfin (And.intro hrn hn))
    have hpos : ∀ W, (Instr.slice 22 (.slice (some ⟨b, o, none⟩) n c) (some (.int .i64 1)) none none).run Try.prog W = .ok (.slice A' (n - 1) (c - 1)) W := sl
    clear hT hrow hcl sl rl hr1 hd hfin hl hn
    have p3 : (1:Int) ≤ n := by omega
    by_cases hq : x.toNat = r.length
    · have p2 : ((x.toNat : Int) != (n : Int) - 1) = false := by rw [bne_eq_false_iff_eq]; omega
      have hm : mnamed (x :: r) = { MRes.none true with nm := r } := by simp [mnamed, hq]
      rw [hm]
      have H0 := Lib.hid hrn
      clear hm hrn hq
      go_enter Try.func27, Try.ntmps27
      go_wp2
      go_ret
      exact ⟨rfl, Mod.setCell (F := fun b => b = T) (p := ⟨T, 74, none⟩) (Mod.refl _ _) (.inr rfl) _, fun _ => ⟨TV.zero, none, 0, by rw [askAt, ← askName_eq]; exact HF.out.1, rfl, TV.zero_rows _ _⟩⟩
    · have p2 : ((x.toNat : Int) != (n : Int) - 1) = true := by rw [bne_iff_ne]; omega
      have hm : mnamed (x :: r) = .none false := by simp [mnamed, hq]
      rw [hm]
      clear hm hrn hq
      go_enter Try.func27, Try.ntmps27
      go_wp2
      go_ret
      exact rdC_none HT.out rfl
end

section
attribute [local go_sem] stPair gtPair gtK8 gtM6 run_store_func
attribute [local go_sem high] neqPair eqK8 eqM6
attribute [local go_sem ↓] load_fold store_fold alloc_fold slice_op_fold con_load_fold chg_load_fold ten_zero_fold con_alloc_fold con_store_fold con_zero_fold chg_alloc_fold chg_store_fold chg_zero_fold chg_put_fold macLoad_fold macStore_fold keyLoad_fold keyStore_fold chg_make_fold chg_slice_fold askLoad_fold askStore_fold askAlloc_fold askBox_fold askZero_fold reqLoad_fold reqStore_fold reqAlloc_fold reqBox_fold reqZero_fold askPut_fold reqPut_fold
open Go.RowKit
set_option linter.unusedVariables false
/-- A version that is read, byte by byte. -/
def vfold (l : List UInt8) : Nat := l.foldl (fun n x => n % 2 ^ 56 * 256 + x.toNat) 0
theorem vfold_snoc (l : List UInt8) (x : UInt8) : vfold (l ++ [x]) = vfold l % 2 ^ 56 * 256 + x.toNat := by simp [vfold]
theorem vfold_beval : ∀ (l : List UInt8), l.length ≤ 8 → vfold l = beval l := by
  intro l
  have h : ∀ k, k ≤ 8 → k ≤ l.length → vfold (l.take k) = beval (l.take k) := by
    intro k
    induction k with
    | zero => intros; simp [vfold, beval]
    | succ k ih =>
      intro h8 hl
      have h1 := ih (by omega) (by omega)
      rw [List.take_succ_eq_append_getElem (by omega), vfold_snoc, beval_snoc, h1]
      have h2 := beval_lt (l.take k)
      rw [List.length_take, Nat.min_eq_left (by omega)] at h2
      have h3 : (256 : Nat) ^ k ≤ 256 ^ 7 := Nat.pow_le_pow_right (by omega) (by omega)
      rw [Nat.mod_eq_of_lt (by have : (256:Nat) ^ 7 = 2 ^ 56 := rfl; omega)]
  intro hl
  have := h l.length hl (Nat.le_refl _)
  rwa [List.take_length] at this
set_option maxRecDepth 100000 in
theorem rd_begin {w : World} {T c : Nat} {A : Option Addr} {key : K8} {op : Nat} (B : List UInt8) (hT : askAt w T (askNew key op)) (hrow : RowAt (fun b => b ≠ T) w A (bcells B)) (hc : B.length ≤ c) (hB : B.length ≤ 100000000) :
    Calls Try.prog 29 #[.pointer (some ⟨T, 0, none⟩), .slice A B.length c] w (RdC (if B.length = 8 then { MRes.none true with ver := beval B } else .none false) key op T w) := by
  obtain ⟨n, hn⟩ : ∃ n, n = B.length := ⟨_, rfl⟩
  rw [← hn] at hc hB
  rw [← hn]
  have H0 := Lib.hid (And.intro hT (And.intro hrow hn))
  obtain ⟨res, hres⟩ : ∃ res : MRes, res = (if n = 8 then { MRes.none true with ver := beval B } else .none false) := ⟨_, rfl⟩
  rw [← hres]
  have HRES := Lib.hid hres
  clear hT hrow hn hres
  go_enter Try.func29, Try.ntmps29
  go_wp2
  go_loopw [6, 9] (fun x i wr => ∃ (k : Nat), i = .int .i64 k ∧ k ≤ n ∧ askAt wr T { askNew key op with ver := vfold (B.take k) } ∧ Mod (fun b => b = T) w wr) (fun _ i _ => n - (intOf i).toNat)
  case atStart => exact ⟨0, rfl, by omega, H0.out.1, Mod.refl _ _⟩
  case round =>
    obtain ⟨k, rfl, hk, hat, hm⟩ := hrel
    by_cases hlt : k < n
    · obtain ⟨x, hx⟩ : ∃ x, B[k]? = some x := ⟨_, List.getElem?_eq_getElem (by have := H0.out.2.2; omega)⟩
      have hxc : (bcells B)[k]? = some (.int .u8 (x.toNat : Int)) := by simp [bcells, hx]
      have hrow' := H0.out.2.1.keeps (hm.keeps (fun b _ hb f => hb f))
      obtain ⟨b, o, rfl, hbT, _, hcell⟩ := hrow'.open (by intro e; rw [e] at hxc; simp at hxc)
      have hc0 := hcell k _ hxc
      obtain ⟨m, hmv⟩ : ∃ m, m = vfold (B.take k) := ⟨_, rfl⟩
      obtain ⟨m', hm'⟩ : ∃ m', m' = m % 2 ^ 56 := ⟨_, rfl⟩
      have c9 : wr.cell? ⟨T, 9, none⟩ = some (.int .u64 (m : Int)) := by rw [askAt_cell hat, AskD.at9, hmv]
      have f9 := blk_free hat 9
      have hx8 := x.toNat_lt
      have hm6 : m' < 2 ^ 56 := by rw [hm']; exact Nat.mod_lt _ (by decide)
      have e1 : IntKind.u64.wrap ((m : Int) * 256) = (m' : Int) * 256 := by rw [hm']; simp [IntKind.wrap, IntKind.bits, IntKind.signed]; omega
      have e2 : IntKind.u64.wrap (x.toNat : Int) = (x.toNat : Int) := by simp [IntKind.wrap, IntKind.bits, IntKind.signed]; omega
      have e3 := or_low m' x.toNat hm6 hx8
      have e4 : (m' : Int) * 256 + (x.toNat : Int) = ((m' * 256 + x.toNat : Nat) : Int) := by omega
      have e5 : vfold (B.take (k + 1)) = m' * 256 + x.toNat := by
        obtain ⟨hlx, ex⟩ := List.getElem?_eq_some_iff.1 hx
        rw [List.take_succ_eq_append_getElem hlx, ex, vfold_snoc, ← hmv, ← hm']
      have hfin : askAt (wr.setCell ⟨T, 9, none⟩ (.int .u64 ((m' * 256 + x.toNat : Nat) : Int))) T { askNew key op with ver := vfold (B.take (k + 1)) } := by
        have hs := AskD.setVer { askNew key op with ver := vfold (B.take k) } (m' * 256 + x.toNat)
        rw [askAt, heap_setCell_row hat, e5]
        simp only [List.setIfInBounds_toArray]
        rw [hs]
      have hmf : Mod (fun b => b = T) w (wr.setCell ⟨T, 9, none⟩ (.int .u64 ((m' * 256 + x.toNat : Nat) : Int))) := Mod.setCell (p := ⟨T, 9, none⟩) hm (.inr rfl) _
      have HX := Lib.hid (And.intro hfin (And.intro hmf e4))
      have p1 : (0:Int) ≤ k := by omega
      have p2 : (k:Int) < n := by omega
      clear hx hxc hcell hmv hm' hm6 hx8 hat hm hfin hmf e4 e5 hrow' hbT
      go_wp2
      rw [HX.out.2.2]
      exact ⟨⟨k + 1, by go_num, by omega, HX.out.1, HX.out.2.1⟩, by simp [intOf]; omega⟩
    · have hk' : k = n := by omega
      subst hk'
      have HR := Lib.hid (And.intro hat hm)
      clear hat hm
      by_cases h8 : k = 8
      · subst h8
        go_wp2
        go_ret
        rw [HRES.out, if_pos (by trivial)]
        refine ⟨rfl, HR.out.2, fun _ => ⟨TV.zero, none, 0, ?_, rfl, TV.zero_rows _ _⟩⟩
        have := HR.out.1
        rw [H0.out.2.2, List.take_length, vfold_beval _ (by rw [← H0.out.2.2]; exact Nat.le_refl _), askVer_eq] at this
        exact this
      · have p8 : ((k : Int) == 8) = false := by rw [beq_eq_false_iff_ne]; omega
        go_wp2
        go_ret
        rw [HRES.out, if_neg h8]
        exact ⟨rfl, HR.out.2, fun f => by cases f⟩
set_option maxRecDepth 100000 in
theorem rd_stage {w : World} {T c : Nat} {A : Option Addr} {key : K8} {op : Nat} (B : List UInt8) (hT : askAt w T (askNew key op)) (hrow : RowAt (fun b => b < w.heap.size) w A (bcells B)) (hc : B.length ≤ c) (hB : B.length ≤ 100000000) :
    Calls Try.prog 31 #[.pointer (some ⟨T, 0, none⟩), .slice A B.length c] w (RdC (mchg B) key op T w) := by
  obtain ⟨put, name, t, ce, hq⟩ : ∃ put name t ce, ocg B = (put, name, t, ce) := ⟨_, _, _, _, rfl⟩
  have HC := Lib.hid (chg_q (openChange_ok B hrow hc hB) hq)
  have hmc : mchg B = if ce = 0 then ⟨true, 0, put, name, t, .zero, []⟩ else .none false := by rw [mchg, hq]
  rw [hmc]
  obtain ⟨n, hn⟩ : ∃ n, n = B.length := ⟨_, rfl⟩
  rw [← hn] at HC
  rw [← hn]
  have H0 := Lib.hid hT
  clear hT hrow hn hmc hq hc hB
  obtain ⟨bb, hbb⟩ : ∃ bb, bb = decide (ce = 0) := ⟨_, rfl⟩
  have p0 : ((ce : Int) == 0) = bb := by rw [hbb, Bool.eq_iff_iff]; simp
  obtain ⟨res, hres⟩ : ∃ res : MRes, res = if ce = 0 then ⟨true, 0, put, name, t, .zero, []⟩ else .none false := ⟨_, rfl⟩
  rw [← hres]
  have HR := Lib.hid (And.intro hbb hres)
  clear hbb hres
  go_enter Try.func31, Try.ntmps31
  go_wp2_with (first
    | (go_at_call 32; refine HC.out.mono ?_; rintro e w1 ⟨CA, x, rfl, a1, a2, a3, a4, a5, a6⟩
       obtain ⟨W1, hst, hat, hmt⟩ := askAt_chg (a4.obj H0.out id) (askNew_ok key op) CA a5 a6
       have HN := Lib.hid (And.intro a1 (And.intro a2 (And.intro a3 (And.intro a4 (And.intro hat hmt))))); clear a1 a2 a3 a4 a5 a6 hat hmt)
    | fail)
  go_ret
  obtain ⟨a1, a2, a3, a4, hat, hmt⟩ := HN.out
  obtain ⟨hbb, hres⟩ := HR.out
  have hm : Mod (fun b => b = T) w W1 := (a4.mono (fun _ f => f.elim)).trans hmt
  by_cases h0 : ce = 0
  · rw [hres, if_pos h0]
    rw [h0] at hbb
    rw [hbb]
    have hTlt := lt_of_block H0.out
    refine ⟨rfl, hm, fun _ => ⟨x, none, 0, ?_, a2, a3.keeps (hmt.keeps (fun b _ hb f => by subst f; omega))⟩⟩
    rw [a1, askChg_eq key op put name t] at hat
    exact hat
  · rw [hres, if_neg h0]
    rw [hbb, decide_eq_false h0]
    exact ⟨rfl, hm, fun f => by cases f⟩
set_option maxRecDepth 100000 in
theorem rd_gate {w : World} {T c : Nat} {A : Option Addr} {key : K8} {op : Nat} (B : List UInt8) (hT : askAt w T (askNew key op)) (hrow : RowAt (fun b => b < w.heap.size) w A (bcells B)) (hc : B.length ≤ c) (hB : B.length ≤ 100000000) :
    Calls Try.prog 35 #[.pointer (some ⟨T, 0, none⟩), .slice A B.length c] w (RdC (mcon B) key op T w) := by
  obtain ⟨cc, lt, ce, hq⟩ : ∃ cc lt ce, ocf B = (cc, lt, ce) := ⟨_, _, _, rfl⟩
  have HC := Lib.hid (con_q (openConfig_ok B hrow hc hB) hq)
  have hmc : mcon B = if ce = 0 ∧ lt = [] then { MRes.none true with cc := cc } else .none false := by rw [mcon, hq]
  rw [hmc]
  obtain ⟨n, hn⟩ : ∃ n, n = B.length := ⟨_, rfl⟩
  rw [← hn] at HC
  rw [← hn]
  have H0 := Lib.hid hT
  clear hT hrow hn hmc hq hc hB
  have hfin : ∀ (W1 w1 : World) (CA : Array Value) (Q : Option Addr) (p : Nat), Mod No w w1 → Mod (fun b => b = T) w1 W1 → askAt W1 T { askNew key op with con := CA.toList } → CA = cc.cells (.slice Q lt.length p) → RdC (if ce = 0 ∧ lt = [] then { MRes.none true with cc := cc } else .none false) key op T w (.returned (.bool (decide (ce = 0 ∧ lt = [])))) W1 := by
    intro W1 w1 CA Q p a4 hmt hat a1
    have hm : Mod (fun b => b = T) w W1 := (a4.mono (fun _ f => f.elim)).trans hmt
    by_cases h0 : ce = 0 ∧ lt = []
    · rw [if_pos h0, decide_eq_true h0]
      refine ⟨rfl, hm, fun _ => ⟨TV.zero, Q, p, ?_, rfl, TV.zero_rows _ _⟩⟩
      rw [a1, h0.2] at hat
      rw [askAt, ← askCon_eq]
      exact hat
    · rw [if_neg h0, decide_eq_false h0]
      exact ⟨rfl, hm, fun f => by cases f⟩
  have HF := Lib.hid hfin
  clear hfin
  by_cases h0 : ce = 0
  · subst h0
    obtain ⟨bb, hbb⟩ : ∃ bb, bb = decide (((0:Nat) = 0 ∧ lt = [])) := ⟨_, rfl⟩
    obtain ⟨m, hml⟩ : ∃ m, m = lt.length := ⟨_, rfl⟩
    have p0 : ((m : Int) == 0) = bb := by
      rw [hbb, Bool.eq_iff_iff, hml]
      simp
    obtain ⟨res, hres⟩ : ∃ res : MRes, res = if 0 = 0 ∧ lt = [] then { MRes.none true with cc := cc } else .none false := ⟨_, rfl⟩
    rw [← hres]
    have HR := Lib.hid (And.intro hbb (And.intro hres hml))
    clear hbb hres hml
    go_enter Try.func35, Try.ntmps35
    go_wp2_with (first
      | (go_at_call 36; refine HC.out.mono ?_; rintro e w1 ⟨CA, Q, p, l, rfl, a1, a2, a3, a4, a5, a6⟩
         obtain ⟨W1, hst, hat, hmt⟩ := askAt_con (a4.obj H0.out id) (askNew_ok key op) CA a5 a6
         have c73 : W1.cell? ⟨T, 73, none⟩ = some (.slice Q m p) := (askAt_cell hat 73).trans ((AskD.atCon (a := { askNew key op with con := CA.toList }) ⟨(askNew_ok key op).chg, by simpa using a5, (askNew_ok key op).chg1, fun v hv => Array.all_eq_true_iff_forall_mem.1 a6 v (by simpa using hv)⟩ 28 (by decide)).trans (by simp only; rw [a1, HR.out.2.2]; rfl))
         have HN := Lib.hid (And.intro a1 (And.intro a4 (And.intro hat hmt))); clear a1 a2 a3 a4 a5 a6 hat hmt)
      | fail)
    go_ret
    obtain ⟨a1, a4, hat, hmt⟩ := HN.out
    rw [HR.out.1, HR.out.2.1]
    exact HF.out _ _ _ _ _ a4 hmt hat a1
  · have p0 : ((ce : Int) == 0) = false := by rw [beq_eq_false_iff_ne]; omega
    have hbb : decide (ce = 0 ∧ lt = []) = false := by simp [h0]
    obtain ⟨res, hres⟩ : ∃ res : MRes, res = if ce = 0 ∧ lt = [] then { MRes.none true with cc := cc } else .none false := ⟨_, rfl⟩
    rw [← hres]
    have HR := Lib.hid (And.intro hbb hres)
    clear hbb hres
    go_enter Try.func35, Try.ntmps35
    go_wp2_with (first
      | (go_at_call 36; refine HC.out.mono ?_; rintro e w1 ⟨CA, Q, p, l, rfl, a1, a2, a3, a4, a5, a6⟩
         obtain ⟨W1, hst, hat, hmt⟩ := askAt_con (a4.obj H0.out id) (askNew_ok key op) CA a5 a6
         have HN := Lib.hid (And.intro a1 (And.intro a4 (And.intro hat hmt))); clear a1 a2 a3 a4 a5 a6 hat hmt)
      | fail)
    go_ret
    obtain ⟨a1, a4, hat, hmt⟩ := HN.out
    have := HF.out _ _ _ _ _ a4 hmt hat a1
    rw [HR.out.1] at this
    rw [HR.out.2]
    exact this
end

section
attribute [local go_sem] stPair gtPair gtK8 gtM6 run_store_func
attribute [local go_sem high] neqPair eqK8 eqM6
attribute [local go_sem ↓] load_fold store_fold alloc_fold slice_op_fold con_load_fold chg_load_fold ten_zero_fold con_alloc_fold con_store_fold con_zero_fold chg_alloc_fold chg_store_fold chg_zero_fold chg_put_fold macLoad_fold macStore_fold keyLoad_fold keyStore_fold chg_make_fold chg_slice_fold askLoad_fold askStore_fold askAlloc_fold askBox_fold askZero_fold reqLoad_fold reqStore_fold reqAlloc_fold reqBox_fold reqZero_fold askPut_fold reqPut_fold
open Go.RowKit
set_option linter.unusedVariables false
/-- Two bytes of a number. -/
def eb (e : Int) : List UInt8 := [UInt8.ofNat ((e / 256) % 256).toNat, UInt8.ofNat (e % 256).toNat]
theorem eb_cells (x : Int) : bcells (eb x) = [.int .u8 (x / 256 % 256), .int .u8 (x % 256)] := by
  simp [bcells, eb]
  omega
theorem owns_lit {w : World} {E : TypeId} (cs : Array Value) (n : Nat) (h : cs.size = n) (hn : n ≤ 1000) : (w.alloc (.cells cs E)).ownsRow w.heap.size E 1 (.slice (some ⟨w.heap.size, 0, none⟩) n n) n cs.toList :=
  ⟨by simpa using h, .inr ⟨w.heap.size, n, cs, rfl, Nat.le_refl _, at10 w _, Nat.le_refl _, by unfold maxLen; omega, by simpa using h, by rw [Nat.mul_one, List.take_of_length_le (by simp [h])]⟩⟩
set_option maxRecDepth 100000 in
theorem reply_ok {S : Nat → Prop} {w : World} (x : Int) (B : List UInt8) {A : Option Addr} {c : Nat} (hrow : RowAt S w A (bcells B)) (hB : B.length ≤ 100000) :
    Calls Try.prog 10 #[.int .i64 x, .slice A B.length c] w fun e w' => ∃ v, e = .returned v ∧ OwnB w' w.heap.size v (eb x ++ B) ∧ Mod No w w' := by
  obtain ⟨i0, hi, hz0, hz1, hz2⟩ := info_parts infoU8
  have hm1 : Mod No w (w.alloc (.cells #[.int .u8 (x / 256 % 256), .int .u8 (x % 256)] 5)) := (Mod.refl _ _).alloc _
  obtain ⟨v2, w2, hrun, ho2, hg2, hb2⟩ := run_append_row (P := Try.prog) (w.alloc (.cells #[.int .u8 (x / 256 % 256), .int .u8 (x % 256)] 5)) w.heap.size 22 22 5 i0 _ 1 1 Try.underlying22 hi hz0 hz1 hz2 rfl (by decide) _ _ _ (owns_lit _ 2 rfl (by decide)) A B.length c (bcells B) (hrow.keeps (hm1.keeps (fun _ _ _ f => f))) (by rw [bcells_length, Nat.mul_one]) (bcells_one B) (by unfold maxLen; omega) (by omega) (by simp)
  have hm2 : Mod No w w2 := hm1.trans' (F := No) (G := fun b => b = w.heap.size) (Mod.grown (Mod.refl _ _) hg2 (fun q hq => .inr (by simpa [Value.ownBlock] using hq.symm))) (fun i hi hg => by omega)
  have hfin : OwnB w2 w.heap.size v2 (eb x ++ B) := by
    unfold OwnB
    rw [bcells_append, eb_cells, List.length_append]
    exact ho2
  have HF := Lib.hid (And.intro hfin hm2)
  clear hrow hm1 ho2 hg2 hb2 hm2 hfin hi hz0 hz1 hz2
  go_enter Try.func10, Try.ntmps10
  go_wp2_with (at_builtin; refine Lib.wpList_append_run _ (by rfl) _ _ _ _ (by rfl) _ _ (by rfl) (by rfl) _ _ hrun ?_)
  go_ret
  exact ⟨_, rfl, HF.out⟩
set_option maxRecDepth 100000 in
theorem openReply_short {w : World} {A : Option Addr} {n c : Nat} (hn : n < 2) :
    Calls Try.prog 11 #[.slice A n c] w fun e w' => e = .returned (.tuple #[.int .i64 0, .slice none 0 0, .bool false]) ∧ w' = w := by
  have p : (n : Int) < 2 := by omega
  clear hn
  go_enter Try.func11, Try.ntmps11
  go_wp2
  go_ret3
  exact ⟨rfl, rfl⟩
theorem or_byte (n x : Nat) (hn : n < 256) (hx : x < 256) : bits .or .i64 ((n : Int) * 256) (x : Int) = (n : Int) * 256 + x := by
  have h1 : (BitVec.ofInt 64 ((n : Int) * 256)) = BitVec.ofNat 64 (n <<< 8) := by
    have e : ((n : Int) * (256 : Int)) = ((n <<< 8 : Nat) : Int) := by rw [Nat.shiftLeft_eq]; omega
    rw [e]
    exact BitVec.ofInt_natCast ..
  have h2 : (BitVec.ofInt 64 (x : Int)) = BitVec.ofNat 64 x := BitVec.ofInt_natCast ..
  have h3 : n <<< 8 ||| x = n * 256 + x := by rw [← Nat.shiftLeft_add_eq_or_of_lt (by simpa using hx), Nat.shiftLeft_eq]
  have h4 : (BitVec.ofNat 64 (n <<< 8) ||| BitVec.ofNat 64 x).toNat = n * 256 + x := by
    rw [BitVec.toNat_or, BitVec.toNat_ofNat, BitVec.toNat_ofNat, Nat.mod_eq_of_lt (by rw [Nat.shiftLeft_eq]; omega), Nat.mod_eq_of_lt (by omega), h3]
  have h5 : bits .or .i64 ((n : Int) * 256) (x : Int) = IntKind.i64.wrap ((BitVec.ofInt 64 ((n : Int) * 256) ||| BitVec.ofInt 64 (x : Int)).toNat) := rfl
  rw [h5, h1, h2, h4]
  simp [IntKind.wrap, IntKind.bits, IntKind.signed]
  omega
set_option maxRecDepth 100000 in
theorem openReply_ok {S : Nat → Prop} {w : World} (x y : UInt8) (B : List UInt8) {A : Option Addr} {n c : Nat} (hrow : RowAt S w A (bcells (x :: y :: B))) (hn : n = B.length + 2) (hc : n ≤ c) (hB : B.length ≤ 100000) :
    Calls Try.prog 11 #[.slice A n c] w fun e w' => ∃ v, e = .returned (.tuple #[.int .i64 ((x.toNat : Int) * 256 + y.toNat), v, .bool true]) ∧ OwnB w' w.heap.size v B ∧ Mod No w w' := by
  obtain ⟨b, o, rfl, _, _, hcl⟩ := hrow.open (by simp [bcells])
  have c0 := hcl 0 (.int .u8 (x.toNat : Int)) rfl
  have c1 := hcl 1 (.int .u8 (y.toNat : Int)) rfl
  rw [Nat.add_zero] at c0
  obtain ⟨A2, sl2, rl2⟩ := own_tail n c 2 (some ⟨b, o, none⟩) (by omega) hc
  have hr2 := rl2 S w _ hrow
  have hd : ((bcells (x :: y :: B)).drop 2).take (n - 2) = bcells B := by
    show (bcells B).take (n - 2) = _
    rw [List.take_of_length_le (by rw [bcells_length]; omega)]
  rw [hd] at hr2
  have HC : ∀ W, Mod No w W → Calls Try.prog 22 #[.slice A2 (n - 2) (c - 2)] W fun e w' => ∃ v, e = .returned v ∧ OwnB w' w.heap.size v B ∧ Mod No w w' ∧ w'.cell? ⟨b, o, none⟩ = some (.int .u8 (x.toNat : Int)) ∧ w'.cell? ⟨b, o + 1, none⟩ = some (.int .u8 (y.toNat : Int)) := fun W hW => by
    refine (clone_okU8 (w := W) (n := n - 2) (bcells B) (hr2.keeps (hW.keeps (fun _ _ _ f => f))) (by rw [bcells_length]; omega) (bcells_one B) (by omega)).mono ?_
    rintro e w' ⟨v, rfl, ho, hm⟩
    have hl : B.length = n - 2 := by omega
    refine ⟨v, rfl, ?_, hW.trans hm, (hW.trans hm).cell c0 id, (hW.trans hm).cell c1 id⟩
    unfold OwnB
    rw [hl]
    exact own_base ho hW.size
  have sl2' : ∀ W, (Instr.slice 22 (.slice (some ⟨b, o, none⟩) n c) (some (.int .i64 2)) none none).run Try.prog W = .ok (.slice A2 (n - 2) (c - 2)) W := sl2
  have hx := x.toNat_lt
  have hy := y.toNat_lt
  have hor := or_byte x.toNat y.toNat (by omega) (by omega)
  have e1 : IntKind.i64.wrap (x.toNat : Int) = x.toNat := IntWalk.i64_in _ (by omega)
  have e2 : IntKind.i64.wrap ((x.toNat : Int) * 256) = (x.toNat : Int) * 256 := IntWalk.i64_in _ (by omega)
  have e3 : IntKind.i64.wrap (y.toNat : Int) = y.toNat := IntWalk.i64_in _ (by omega)
  have p1 : ¬ (n : Int) < 2 := by omega
  have p2 : (1 : Int) < n := by omega
  have p3 : (0 : Int) < n := by omega
  have p4 : 0 < n := by omega
  have p5 : 1 < n := by omega
  have HCC := Lib.hid HC
  have C := Lib.hid (And.intro c0 c1)
  clear hrow hcl sl2 rl2 hr2 hd hn hB HC hx hy
  go_enter Try.func11, Try.ntmps11
  go_upto_region 3 with fail
  go_region_held3 (fun W => W.cell? ⟨b, o, none⟩ = some (.int .u8 (x.toNat : Int)) ∧ W.cell? ⟨b, o + 1, none⟩ = some (.int .u8 (y.toNat : Int)))
    (first | go_keep | (exact H1.out.2.2))
    ((go_at_call 22; refine (HCC.out _ ?_).mono ?_; (repeat (first | with_reducible exact Mod.refl _ _ | refine Mod.drew ?_)); rintro e w1 ⟨v1, rfl, h1, h2, h3⟩; have H1 := Lib.hid (And.intro h1 (And.intro h2 h3)); clear h1 h2 h3))
  go_wp2
  go_ret3
  exact ⟨_, rfl, H1.out.1, H1.out.2.1⟩
end

section
attribute [local go_sem] stPair gtPair gtK8 gtM6 run_store_func
attribute [local go_sem high] neqPair eqK8 eqM6
attribute [local go_sem ↓] load_fold store_fold alloc_fold slice_op_fold con_load_fold chg_load_fold ten_zero_fold con_alloc_fold con_store_fold con_zero_fold chg_alloc_fold chg_store_fold chg_zero_fold chg_put_fold macLoad_fold macStore_fold keyLoad_fold keyStore_fold chg_make_fold chg_slice_fold askLoad_fold askStore_fold askAlloc_fold askBox_fold askZero_fold reqLoad_fold reqStore_fold reqAlloc_fold reqBox_fold reqZero_fold askPut_fold reqPut_fold
open Go.RowKit
set_option linter.unusedVariables false
theorem take_snoc'' {α : Type} {l : List α} {j : Nat} {z : α} (h : l[j]? = some z) : l.take (j + 1) = l.take j ++ [z] := by
  obtain ⟨hlx, ex⟩ := List.getElem?_eq_some_iff.1 h
  rw [List.take_succ_eq_append_getElem hlx, ex]
theorem be_succ (k n : Nat) : be (k + 1) n = UInt8.ofNat (n / 256 ^ k) :: be k n := rfl
theorem be_take (n : Nat) : ∀ k j, j ≤ k → (be k n).drop (k - j) = be j n := by
  intro k
  induction k with
  | zero =>
    intro j hj
    obtain rfl : j = 0 := by omega
    rfl
  | succ k ih =>
    intro j hj
    by_cases h : j = k + 1
    · subst h; simp
    · rw [show k + 1 - j = (k - j) + 1 by omega, be_succ, List.drop_succ_cons]
      exact ih j (by omega)
/-- The first k - j bytes of k, then one more. -/
theorem be_snoc (n k j : Nat) (hj : j < k) : (be k n).take (k - j) = (be k n).take (k - (j + 1)) ++ [UInt8.ofNat (n / 256 ^ j)] := by
  have h1 := be_take n k (j + 1) (by omega)
  rw [be_succ] at h1
  have hl := be_length k n
  have h2 : (be k n)[k - (j + 1)]? = some (UInt8.ofNat (n / 256 ^ j)) := by
    have := congrArg (fun l => l[0]?) h1
    simpa [List.getElem?_drop] using this
  rw [show k - j = (k - (j + 1)) + 1 by omega]
  exact take_snoc'' h2
set_option maxRecDepth 100000 in
theorem put_ok {w : World} {base : Nat} {v : Value} {L : List UInt8} (h : OwnB w base v L) (hb : base ≤ w.heap.size) (hL : L.length ≤ 90000000) (n k : Nat) (hk : k ≤ 8) :
    Calls Try.prog 23 #[v, .int .u64 (n : Int), .int .i64 k] w fun e w' => ∃ v', e = .returned v' ∧ Gr base v w v' w' (L ++ be k n) := by
  have H0 := Lib.hid (And.intro h (And.intro hb hL))
  have p0 : IntKind.i64.wrap ((k : Int) - 1) = (k : Int) - 1 := IntWalk.i64_in _ (by omega)
  clear h hb hL
  go_enter Try.func23, Try.ntmps23
  go_wp2
  go_loopw [0, 7] (fun b i wr => ∃ (j : Nat) (v' : Value), i = .int .i64 ((j : Int) - 1) ∧ j ≤ k ∧ v' = b ∧ Gr base v w v' wr (L ++ (be k n).take (k - j))) (fun _ i _ => (intOf i + 1).toNat)
  case atStart => exact ⟨k, v, rfl, by omega, rfl, by simpa using Gr.refl H0.out.1⟩
  case round =>
    obtain ⟨j, v', rfl, hj, rfl, hg⟩ := hrel
    by_cases h0 : j = 0
    · subst h0
      have HG := Lib.hid hg
      clear hg
      go_wp2
      go_ret
      have := HG.out
      rw [Nat.sub_zero, List.take_of_length_le (by rw [be_length]; exact Nat.le_refl _)] at this
      exact ⟨_, rfl, this⟩
    · obtain ⟨i, rfl⟩ : ∃ i, j = i + 1 := ⟨j - 1, by omega⟩
      have e0 : (((i + 1 : Nat) : Int) - 1) = i := by omega
      rw [e0]
      clear e0
      obtain ⟨i0, hi, hz0, hz1, hz2⟩ := info_parts infoU8
      have hbc : bcells [UInt8.ofNat (n / 256 ^ i)] = [.int .u8 ((n : Int) / 2 ^ (8 * i) % 256)] := by
        have := wrap_u8_low n i
        have e : IntKind.u8.wrap ((n : Int) / 2 ^ (8 * i)) = (n : Int) / 2 ^ (8 * i) % 256 := by simp [IntKind.wrap, IntKind.bits, IntKind.signed]
        rw [e] at this
        simp only [bcells, List.map_cons, List.map_nil, this]
      obtain ⟨x, hx⟩ : ∃ x : Int, x = (n : Int) / 2 ^ (8 * i) % 256 := ⟨_, rfl⟩
      rw [← hx] at hbc
      have hrow := row_new (fun _ => True) wr [UInt8.ofNat (n / 256 ^ i)]
      rw [hbc] at hrow
      have hm1 : Mod No wr (wr.alloc (.cells #[.int .u8 x] 5)) := (Mod.refl _ _).alloc _
      have hg1 := hg.ext hm1
      have hlen : (L ++ (be k n).take (k - (i + 1))).length ≤ 90000008 := by have := H0.out.2.2; rw [List.length_append, List.length_take, be_length]; omega
      obtain ⟨v2, w2, hrun, ho2, hg2, hb2⟩ := run_append_row (P := Try.prog) (wr.alloc (.cells #[.int .u8 x] 5)) base 22 22 5 i0 _ 1 1 Try.underlying22 hi hz0 hz1 hz2 rfl (by decide) v' _ _ hg1.own _ 1 1 _ hrow rfl (by intro u hu; simp at hu; subst hu; rfl) (by unfold maxLen; omega) (by omega) (by have := hg1.mod.size; have := H0.out.2.1; omega)
      have hgf : Gr base v w v2 w2 (L ++ (be k n).take (k - i)) := by
        have := hg1.trans (gr_append (L := L ++ (be k n).take (k - (i + 1))) (X := [UInt8.ofNat (n / 256 ^ i)]) (by rw [hbc]; exact ho2) hg2 hb2)
        rw [be_snoc n k i (by omega), ← List.append_assoc]
        exact this
      have HG := Lib.hid hgf
      have p1 : (0 : Int) ≤ i := by omega
      have p2 : (i : Int) < 8 := by omega
      have p3 : IntKind.i64.wrap ((i : Int) - 1) = (i : Int) - 1 := IntWalk.i64_in _ (by omega)
      have HX := Lib.hid hx
      clear hg hi hz0 hz1 hz2 hbc hrow hm1 hg1 ho2 hg2 hb2 hgf hlen
      rw [hx] at hrun
      clear hx
      go_wp2_with (at_builtin; refine Lib.wpList_append_run _ (by rfl) _ _ _ _ (by rfl) _ _ (by rfl) (by rfl) _ _ hrun ?_)
      exact ⟨⟨i, v2, by first | rfl | simp, by omega, by first | rfl | simp, HG.out⟩, by simp [intOf]⟩
end

section
attribute [local go_sem] stPair gtPair gtK8 gtM6 run_store_func
attribute [local go_sem high] neqPair eqK8 eqM6
attribute [local go_sem ↓] load_fold store_fold alloc_fold slice_op_fold con_load_fold chg_load_fold ten_zero_fold con_alloc_fold con_store_fold con_zero_fold chg_alloc_fold chg_store_fold chg_zero_fold chg_put_fold macLoad_fold macStore_fold keyLoad_fold keyStore_fold chg_make_fold chg_slice_fold askLoad_fold askStore_fold askAlloc_fold askBox_fold askZero_fold reqLoad_fold reqStore_fold reqAlloc_fold reqBox_fold reqZero_fold askPut_fold reqPut_fold
open Go.RowKit
set_option linter.unusedVariables false
theorem run_store_nilFunc {P : Program} {w : World} {a : Addr} {m : Mode} : (store a .nilFunc m).run P w = stored P w a .nilFunc m := run_store P w a _ m rfl
attribute [local go_sem] run_store_nilFunc
def fnv (n : Nat) : Value := .func (.func n) #[] #[]
def kindOf (op : Int) : Option (Nat × Nat) :=
  if op = 1 then some (29, 30)
  else if op = 2 then some (31, 33)
  else if op = 3 then some (35, 37)
  else if op = 4 ∨ op = 5 ∨ op = 6 then some (25, 26)
  else if op = 7 ∨ op = 8 then some (27, 28)
  else none
/-- What kinds tells. -/
def kindV (op : Int) : Value :=
  match kindOf op with
  | some (r, wr) => .tuple #[.agg #[fnv r, fnv wr], .bool true]
  | none => .tuple #[.agg #[.nilFunc, .nilFunc], .bool false]
set_option maxRecDepth 100000 in
theorem kinds_lit (w : World) (op : Int) (h : op = 1 ∨ op = 2 ∨ op = 3 ∨ op = 4 ∨ op = 5 ∨ op = 6 ∨ op = 7 ∨ op = 8) :
    Calls Try.prog 16 #[.int .i64 op] w fun e w' => e = .returned (kindV op) ∧ Mod No w w' := by
  obtain ⟨kv, hkv⟩ : ∃ kv, kv = kindV op := ⟨_, rfl⟩
  rw [← hkv]
  have HK := Lib.hid hkv
  clear hkv
  rcases h with rfl | rfl | rfl | rfl | rfl | rfl | rfl | rfl
  all_goals
    go_enter Try.func16, Try.ntmps16
    go_wp2
    refine bodyPost_ret (v := kv) ?_ rfl ⟨rfl, ?_⟩
    · rw [HK.out]
      simp [results, Try.results16, go_sem, kindV, kindOf, fnv]
    · repeat (first | with_reducible exact Mod.refl _ _ | refine Mod.alloc ?_ _ | refine Mod.setCell ?_ (.inl (by simp)) _)
set_option maxRecDepth 100000 in
theorem kinds_no (w : World) (op : Int) (h : ¬ (op = 1 ∨ op = 2 ∨ op = 3 ∨ op = 4 ∨ op = 5 ∨ op = 6 ∨ op = 7 ∨ op = 8)) :
    Calls Try.prog 16 #[.int .i64 op] w fun e w' => e = .returned (kindV op) ∧ Mod No w w' := by
  have p1 : (op == 1) = false := by rw [beq_eq_false_iff_ne]; omega
  have p2 : (op == 2) = false := by rw [beq_eq_false_iff_ne]; omega
  have p3 : (op == 3) = false := by rw [beq_eq_false_iff_ne]; omega
  have p4 : (op == 4) = false := by rw [beq_eq_false_iff_ne]; omega
  have p5 : (op == 5) = false := by rw [beq_eq_false_iff_ne]; omega
  have p6 : (op == 6) = false := by rw [beq_eq_false_iff_ne]; omega
  have p7 : (op == 7) = false := by rw [beq_eq_false_iff_ne]; omega
  have p8 : (op == 8) = false := by rw [beq_eq_false_iff_ne]; omega
  have hv : kindV op = .tuple #[.agg #[.nilFunc, .nilFunc], .bool false] := by
    have : kindOf op = none := by
      unfold kindOf
      rw [if_neg (by omega), if_neg (by omega), if_neg (by omega), if_neg (by omega), if_neg (by omega)]
    rw [kindV, this]
  rw [hv]
  clear h hv
  go_enter Try.func16, Try.ntmps16
  go_wp2
  refine bodyPost_ret (v := .tuple #[.agg #[.nilFunc, .nilFunc], .bool false]) ?_ rfl ⟨rfl, ?_⟩
  · simp [results, Try.results16, go_sem]
  · repeat (first | with_reducible exact Mod.refl _ _ | refine Mod.alloc ?_ _ | refine Mod.setCell ?_ (.inl (by simp)) _)
theorem kinds_ok (w : World) (op : Int) : Calls Try.prog 16 #[.int .i64 op] w fun e w' => e = .returned (kindV op) ∧ Mod No w w' := by
  by_cases h : op = 1 ∨ op = 2 ∨ op = 3 ∨ op = 4 ∨ op = 5 ∨ op = 6 ∨ op = 7 ∨ op = 8
  · exact kinds_lit w op h
  · exact kinds_no w op h
theorem kindOf_some {op : Int} {r wr : Nat} (h : kindOf op = some (r, wr)) : (op = 1 ∧ r = 29 ∧ wr = 30) ∨ (op = 2 ∧ r = 31 ∧ wr = 33) ∨ (op = 3 ∧ r = 35 ∧ wr = 37) ∨
    ((op = 4 ∨ op = 5 ∨ op = 6) ∧ r = 25 ∧ wr = 26) ∨ ((op = 7 ∨ op = 8) ∧ r = 27 ∧ wr = 28) := by
  unfold kindOf at h
  by_cases h1 : op = 1
  · rw [if_pos h1] at h; cases h; exact .inl ⟨h1, rfl, rfl⟩
  rw [if_neg h1] at h
  by_cases h2 : op = 2
  · rw [if_pos h2] at h; cases h; exact .inr (.inl ⟨h2, rfl, rfl⟩)
  rw [if_neg h2] at h
  by_cases h3 : op = 3
  · rw [if_pos h3] at h; cases h; exact .inr (.inr (.inl ⟨h3, rfl, rfl⟩))
  rw [if_neg h3] at h
  by_cases h4 : op = 4 ∨ op = 5 ∨ op = 6
  · rw [if_pos h4] at h; cases h; exact .inr (.inr (.inr (.inl ⟨h4, rfl, rfl⟩)))
  rw [if_neg h4] at h
  by_cases h5 : op = 7 ∨ op = 8
  · rw [if_pos h5] at h; cases h; exact .inr (.inr (.inr (.inr ⟨h5, rfl, rfl⟩)))
  rw [if_neg h5] at h
  cases h
theorem kind_enters {op : Int} {r wr : Nat} (h : kindOf op = some (r, wr)) : (∀ (a : Array Value) (W : World), (callFunc r a).run Try.prog W = .ok (.enter r a) W) ∧ (∀ (a : Array Value) (W : World), (callFunc wr a).run Try.prog W = .ok (.enter wr a) W) := by
  rcases kindOf_some h with ⟨_, rfl, rfl⟩ | ⟨_, rfl, rfl⟩ | ⟨_, rfl, rfl⟩ | ⟨_, rfl, rfl⟩ | ⟨_, rfl, rfl⟩ <;> exact ⟨fun a W => by go_simp, fun a W => by go_simp⟩
/-- Any closure that reads. -/
theorem read_any {op r wr : Nat} (h : kindOf op = some (r, wr)) {W : World} {T c : Nat} {A : Option Addr} {key : K8} (B : List UInt8) (hT : askAt W T (askNew key op)) (hrow : RowAt (fun b => b < W.heap.size ∧ b ≠ T) W A (bcells B)) (hc : B.length ≤ c) (hB : B.length ≤ 100000000) :
    Calls Try.prog r #[.pointer (some ⟨T, 0, none⟩), .slice A B.length c] W (RdC (mrest op B) key op T W) := by
  have h1 := hrow.mono (S' := fun b => b < W.heap.size) (fun b _ hb => hb.1)
  have h2 := hrow.mono (S' := fun b => b ≠ T) (fun b _ hb => hb.2)
  rcases kindOf_some h with ⟨e, rfl, _⟩ | ⟨e, rfl, _⟩ | ⟨e, rfl, _⟩ | ⟨e, rfl, _⟩ | ⟨e, rfl, _⟩
  · obtain rfl : op = 1 := by omega
    exact rd_begin B hT h2 hc hB
  · obtain rfl : op = 2 := by omega
    exact rd_stage B hT h1 hc hB
  · obtain rfl : op = 3 := by omega
    exact rd_gate B hT h1 hc hB
  · have : mrest op B = .none (decide (B = [])) := by
      unfold mrest
      rw [if_neg (by omega), if_neg (by omega), if_neg (by omega), if_pos (by omega)]
    rw [this]
    refine rd_nothing.mono ?_
    rintro e w' ⟨rfl, rfl⟩
    have hd : decide (B.length = 0) = decide (B = []) := by simp
    rw [hd]
    exact rdC_none hT rfl
  · have : mrest op B = mnamed B := by
      unfold mrest
      rw [if_neg (by omega), if_neg (by omega), if_neg (by omega), if_neg (by omega), if_pos (by omega)]
    rw [this]
    exact rd_named B hT h2 hc hB
theorem mrest_none {op : Nat} (h : kindOf op = none) (B : List UInt8) : mrest op B = .none false := by
  unfold kindOf at h
  unfold mrest
  by_cases h1 : (op : Int) = 1
  · rw [if_pos h1] at h; cases h
  rw [if_neg h1] at h
  by_cases h2 : (op : Int) = 2
  · rw [if_pos h2] at h; cases h
  rw [if_neg h2] at h
  by_cases h3 : (op : Int) = 3
  · rw [if_pos h3] at h; cases h
  rw [if_neg h3] at h
  by_cases h4 : (op : Int) = 4 ∨ (op : Int) = 5 ∨ (op : Int) = 6
  · rw [if_pos h4] at h; cases h
  rw [if_neg h4] at h
  by_cases h5 : (op : Int) = 7 ∨ (op : Int) = 8
  · rw [if_pos h5] at h; cases h
  rw [if_neg (by omega), if_neg (by omega), if_neg (by omega), if_neg (by omega), if_neg (by omega)]
end

section
attribute [local go_sem] stPair gtPair gtK8 gtM6 run_store_func run_store_nilFunc
attribute [local go_sem high] neqPair eqK8 eqM6
attribute [local go_sem ↓] load_fold store_fold alloc_fold slice_op_fold con_load_fold chg_load_fold ten_zero_fold con_alloc_fold con_store_fold con_zero_fold chg_alloc_fold chg_store_fold chg_zero_fold chg_put_fold macLoad_fold macStore_fold keyLoad_fold keyStore_fold chg_make_fold chg_slice_fold askLoad_fold askStore_fold askAlloc_fold askBox_fold askZero_fold reqLoad_fold reqStore_fold reqAlloc_fold reqBox_fold reqZero_fold askPut_fold reqPut_fold
open Go.RowKit
set_option linter.unusedVariables false
theorem slice_head' (n c k b o : Nat) (hk : k ≤ c) : ∀ W, (Instr.slice 22 (.slice (some ⟨b, o, none⟩) n c) none (some (.int .i64 (k : Int))) none).run Try.prog W = .ok (.slice (some ⟨b, o, none⟩) k c) W := by
  intro W
  have hz : (sizeOf 5).run Try.prog W = .ok 1 W := by kernel_rfl
  have he : Try.prog.elem 22 = 5 := by kernel_rfl
  rw [run_slice_h W 22 _ _ _ (by rw [he]; exact Try.underlying22) .i64 (k : Int) (by omega) (by omega), he, hz]
  simp only [Result.andThen, sliced, Int.toNat_natCast, Nat.zero_mul, Nat.sub_zero]
  split <;> first | rfl | (simp [Addr.add]; done)
def mkey (B : List UInt8) : K8 := K8.of (B.take 8)
def mop (B : List UInt8) : Nat := (B.getD 8 0).toNat
def mread (B : List UInt8) : MRes := if B.length < 9 then .none false else mrest (mop B) (B.drop 9)
/-- What a request that is read comes to. -/
def MReadQ (r : MRes) (key : K8) (op : Nat) (w : World) (e : Ending) (w' : World) : Prop :=
  Mod No w w' ∧ (r.ok = true → ∃ (x : TV) (Q : Option Addr) (q : Nat), e = .returned (.tuple #[.agg (r.ask key op x Q q).cells.toArray, .int .i64 0]) ∧ x.t = r.ct ∧ x.Rows (fun b => w.heap.size ≤ b) w') ∧
    (r.ok = false → e = .returned (.tuple #[.agg AskD.zero.cells.toArray, .int .i64 160]))
theorem MReadQ.bad {r : MRes} {key : K8} {op : Nat} {w w' : World} (hr : r.ok = false) (hm : Mod No w w') : MReadQ r key op w (.returned (.tuple #[.agg AskD.zero.cells.toArray, .int .i64 160])) w' :=
  ⟨hm, (fun f => by rw [hr] at f; cases f), (fun _ => rfl)⟩
theorem mkey_cells (B : List UInt8) (h9 : ¬ B.length < 9) : bcells (mkey B).l = (bcells B).take 8 := by
  have hl : (B.take 8).length = 8 := by rw [List.length_take]; omega
  have : (mkey B).l = B.take 8 := by
    unfold mkey
    obtain ⟨a0, a1, a2, a3, a4, a5, a6, a7, e⟩ : ∃ a0 a1 a2 a3 a4 a5 a6 a7, B.take 8 = [a0, a1, a2, a3, a4, a5, a6, a7] := by
      match B.take 8, hl with
      | [a0, a1, a2, a3, a4, a5, a6, a7], _ => exact ⟨a0, a1, a2, a3, a4, a5, a6, a7, rfl⟩
    rw [e]; rfl
  rw [this, bcells, bcells, List.map_take]
set_option maxRecDepth 100000 in
theorem mread_short {w : World} {A : Option Addr} {n c : Nat} (hn : n < 9) (r : MRes) (hr : r.ok = false) (key : K8) (op : Nat) :
    Calls Try.prog 7 #[.slice A n c] w (MReadQ r key op w) := by
  have hal := askAlloc_run
  have hz := askZero_run
  have hst := askStore_new w AskD.zero.cells.toArray (AskD.size AskD.zero_ok) (AskD.one AskD.zero_ok)
  obtain ⟨Z, hZ⟩ : ∃ Z, Z = AskD.zero.cells.toArray := ⟨_, rfl⟩
  have hZs : Z.size = 75 := by rw [hZ]; exact AskD.size AskD.zero_ok
  rw [← hZ] at hst hz
  have hal' : ∀ W : World, (askAlloc (.tuple #[])).run Try.prog W = .ok (.pointer (some ⟨W.heap.size, 0, none⟩)) (W.alloc (.cells Z 40)) := fun W => by rw [hZ]; exact hal W
  have p : (n : Int) < 9 := by omega
  have HZ := Lib.hid (And.intro hZ (And.intro hZs hr))
  clear hal hZ hZs hr hn
  go_enter Try.func7, Try.ntmps7
  go_wp2
  refine bodyPost_ret (results_cell_tmp rfl _ _ w.heap.size 40 Z (0, 0) _ rfl (at10 w _) Try.underlying40 rfl (by rw [askSize, HZ.out.2.1])) rfl ?_
  rw [HZ.out.1]
  exact MReadQ.bad HZ.out.2.2 ((Mod.refl _ _).alloc _)
set_option maxRecDepth 100000 in
set_option maxHeartbeats 1000000 in
theorem mread_ok {w : World} {A : Option Addr} {c : Nat} (B : List UInt8) (hrow : RowAt (fun b => b < w.heap.size) w A (bcells B)) (hc : B.length ≤ c) (hB : B.length ≤ 100000000) :
    Calls Try.prog 7 #[.slice A B.length c] w (MReadQ (mread B) (mkey B) (mop B) w) := by
  by_cases h9 : B.length < 9
  · exact mread_short h9 _ (by rw [mread, if_pos h9]; rfl) _ _
  obtain ⟨b, o, rfl, hbw, hblt, hcl⟩ := hrow.open (by intro e; have := congrArg List.length e; rw [bcells_length, List.length_nil] at this; omega)
  obtain ⟨x8, hx8⟩ : ∃ x, B[8]? = some x := ⟨_, List.getElem?_eq_getElem (by omega)⟩
  have hop : mop B = x8.toNat := by rw [mop, List.getD_eq_getElem?_getD, hx8]; rfl
  have hmr : mread B = mrest x8.toNat (B.drop 9) := by rw [mread, if_neg h9, hop]
  rw [hmr, hop]
  have c8 : w.cell? ⟨b, o + 8, none⟩ = some (.int .u8 (x8.toNat : Int)) := hcl 8 _ (by simp [bcells, hx8])
  have hk8 : bcells (mkey B).l = (bcells B).take 8 := mkey_cells B h9
  obtain ⟨key, hkey⟩ : ∃ key, key = mkey B := ⟨_, rfl⟩
  rw [← hkey] at hk8
  rw [← hkey]
  have hkl : ∀ W, Mod No w W → (keyLoad (.pointer (some ⟨b, o, none⟩))).run Try.prog W = .ok (.agg (bcells key.l).toArray) W := fun W hW =>
    keyLoad_mid W b o key (fun j v hj => hW.cell (hcl j v (by
      rw [hk8] at hj
      have := (List.getElem?_eq_some_iff.1 hj).1
      rw [List.length_take] at this
      rwa [List.getElem?_take_of_lt (by omega)] at hj)) id)
  obtain ⟨A9, sl9, rl9⟩ := own_tail B.length c 9 (some ⟨b, o, none⟩) (by omega) hc
  have sl8 := slice_head' B.length c 8 b o (by omega)
  have hrest : ∀ W T, Mod No w W → w.heap.size ≤ T → RowAt (fun b => b < W.heap.size ∧ b ≠ T) W A9 (bcells (B.drop 9)) := fun W T hW hT => by
    have h1 := (hrow.mono (S' := fun b => b < W.heap.size ∧ b ≠ T) (fun b _ hb => ⟨Nat.lt_of_lt_of_le hb hW.size, by omega⟩)).keeps (hW.keeps (fun _ _ _ f => f))
    have h2 := rl9 _ _ _ h1
    have e : ((bcells B).drop 9).take (B.length - 9) = bcells (B.drop 9) := by
      rw [bcells, bcells, List.map_drop, List.take_of_length_le (by simp)]
    rwa [e] at h2
  have hl9 : (B.drop 9).length = B.length - 9 := by simp
  obtain ⟨op, hopn⟩ : ∃ op, op = x8.toNat := ⟨_, rfl⟩
  have hop8 : op < 256 := by rw [hopn]; exact x8.toNat_lt
  rw [← hopn] at c8
  rw [← hopn]
  have HRD : Hid (∀ r wr, kindOf op = some (r, wr) → ∀ W T, askAt W T (askNew key op) → Mod No w W → w.heap.size ≤ T → Calls Try.prog r #[.pointer (some ⟨T, 0, none⟩), .slice A9 (B.length - 9) (c - 9)] W (RdC (mrest op (B.drop 9)) key op T W)) :=
    Lib.hid (fun r wr h W T hT hW hwT => by
      have := read_any h (B.drop 9) hT (hrest W T hW hwT) (by rw [hl9]; omega) (by rw [hl9]; omega) (c := c - 9)
      rwa [hl9] at this)
  have hmn := fun h => mrest_none (op := op) h (B.drop 9)
  obtain ⟨res, hres⟩ : ∃ res, res = mrest op (B.drop 9) := ⟨_, rfl⟩
  rw [← hres] at HRD hmn
  rw [← hres]
  obtain ⟨n, hn⟩ : ∃ n, n = B.length := ⟨_, rfl⟩
  rw [← hn] at HRD sl9 sl8 hc hB h9
  rw [← hn]
  have HK := Lib.hid (fun W => kinds_ok W op)
  have HKL := Lib.hid hkl
  have HMN := Lib.hid hmn
  have hal := askAlloc_run
  have hz := askZero_run
  have hpt := askPut_run key op
  have hcv : IntKind.i64.wrap (op : Int) = op := by simp [IntKind.wrap, IntKind.bits, IntKind.signed]; omega
  have p1 : ¬ (n : Int) < 9 := by omega
  have p2 : (8 : Int) < n := by omega
  clear hrow hcl hx8 hop hmr hk8 hkey hkl rl9 hrest hl9 hopn hres hn hmn
  obtain ⟨Z, hZ⟩ : ∃ Z, Z = AskD.zero.cells.toArray := ⟨_, rfl⟩
  have hal' : ∀ W : World, (askAlloc (.tuple #[])).run Try.prog W = .ok (.pointer (some ⟨W.heap.size, 0, none⟩)) (W.alloc (.cells Z 40)) := fun W => by rw [hZ]; exact hal W
  obtain ⟨N, hN⟩ : ∃ N, N = (askNew key op).cells.toArray := ⟨_, rfl⟩
  rw [← hZ] at hz
  have hpt' : ∀ W, (askPut (.agg (bcells key.l).toArray) (.int .i64 op)).run Try.prog W = .ok (.agg N) W := fun W => by rw [hN]; exact hpt W
  have hst : ∀ W : World, (askStore (.pointer (some ⟨W.heap.size, 0, none⟩)) (.agg N)).run Try.prog (W.alloc (.cells Z 40)) = .ok () (W.alloc (.cells N 40)) := fun W => by rw [hZ, hN]; exact askStore_new W _ (AskD.size (askNew_ok key op)) (AskD.one (askNew_ok key op))
  have hst2 : (askStore (.pointer (some ⟨w.heap.size + 1, 0, none⟩)) (.agg N)).run Try.prog ((w.alloc (.cells Z 40)).alloc (.cells Z 40)).drew = .ok () ((w.alloc (.cells Z 40)).alloc (.cells N 40)).drew := by
    have := askStore_newd (w.alloc (.cells Z 40)) N (by rw [hN]; exact AskD.size (askNew_ok key op)) (by rw [hN]; exact AskD.one (askNew_ok key op))
    rw [← hZ] at this
    simpa using this
  have HZ := Lib.hid (And.intro hZ hN)
  clear hal hpt hZ hN
  have sl9' : ∀ W, (Instr.slice 22 (.slice (some ⟨b, o, none⟩) n c) (some (.int .i64 9)) none none).run Try.prog W = .ok (.slice A9 (n - 9) (c - 9)) W := sl9
  have sl8' : ∀ W, (Instr.slice 22 (.slice (some ⟨b, o, none⟩) n c) none (some (.int .i64 8)) none).run Try.prog W = .ok (.slice (some ⟨b, o, none⟩) 8 c) W := sl8
  have hav : ∀ W, (Instr.arrayAt 24 (.slice (some ⟨b, o, none⟩) 8 c)).run Try.prog W = .ok (.pointer (some ⟨b, o, none⟩)) W := fun W => by kernel_rfl
  have C8 := Lib.hid c8
  obtain ⟨K, hK⟩ : ∃ K, K = (bcells key.l).toArray := ⟨_, rfl⟩
  rw [← hK] at hpt'
  rw [← hK] at HKL
  clear sl8 sl9 c8 hK
  go_enter Try.func7, Try.ntmps7
  go_upto_region 3 with fail
  go_region_held3 (fun W => (keyLoad (.pointer (some ⟨b, o, none⟩))).run Try.prog W = .ok (.agg K) W ∧ W.cell? ⟨b, o + 8, none⟩ = some (.int .u8 (op : Int)))
    ((refine ⟨HKL.out _ ?_, Mod.cell (F := No) ?_ C8.out id⟩ <;> (repeat (first | with_reducible exact Mod.refl _ _ | refine Mod.alloc ?_ _ | refine Mod.drew ?_))))
    (fail)
  all_goals
    go_upto_region 4 with fail
    refine grab_world fun W0 hW0 => ?_
    have hm0 : Mod No w W0 := by rw [hW0]; exact (((Mod.refl _ _).alloc _).alloc _).drew
    have hT0 : askAt W0 (w.heap.size + 1) (askNew key op) := by rw [hW0, askAt, ← HZ.out.2]; exact at21 w _ _
    have hX0 : W0.heap[w.heap.size]? = some (.cells Z 40 (0, 0)) := by rw [hW0]; exact at20 w _ _
    have c8' : W0.cell? ⟨w.heap.size + 1, 8, none⟩ = some (.int .i64 (op : Int)) := (askAt_cell hT0 8).trans (AskD.at8 _)
    have H0 := Lib.hid (And.intro hm0 (And.intro hT0 hX0))
    clear hW0 hm0 hT0 hX0
    cases hko : kindOf (op : Int) with
    | none =>
      have hkv : kindV (op : Int) = .tuple #[.agg #[.nilFunc, .nilFunc], .bool false] := by rw [kindV, hko]
      have hrn := HMN.out hko
      rw [hkv] at HK
      have HR := Lib.hid hrn
      clear hkv hko hrn HMN
      go_upto_region 5 with (first | (go_at_call 16; refine (HK.out _).mono ?_; rintro e w1 ⟨rfl, hm1⟩; have H1 := Lib.hid hm1; clear hm1) | fail)
      refine grab_world fun V hV => ?_
      have hmV : Mod No W0 V := by rw [hV]; exact H1.out.alloc _
      have hXV := hmV.obj H0.out.2.2 id
      have hst3 : ∀ q, (askStore (.pointer (some ⟨w.heap.size, 0, none⟩)) (.agg Z)).run Try.prog (V.drewN q) = .ok () ((V.drewN q).setRow w.heap.size Z) := fun q => askStore_run (W := V.drewN q) hXV (by rw [HZ.out.1]; exact AskD.size AskD.zero_ok) (by rw [HZ.out.1]; exact AskD.size AskD.zero_ok) (by rw [HZ.out.1]; exact AskD.one AskD.zero_ok)
      have HF := Lib.hid (And.intro hmV hXV)
      clear hV hmV hXV
      go_quiet (fail)
      go_wp2
      refine bodyPost_ret (results_cell_tmp rfl _ _ w.heap.size 40 Z (0, 0) _ rfl (setRow_heap _ _ _ _ _ _ HF.out.2) Try.underlying40 rfl (by rw [askSize, HZ.out.1, AskD.size AskD.zero_ok])) rfl ?_
      rw [HZ.out.1]
      exact MReadQ.bad (by rw [HR.out]; rfl) ((H0.out.1.trans (HF.out.1.drewN _)).trans' (setRow_mod _) (fun i hi hg => by omega))
    | some rw =>
      obtain ⟨r, wr⟩ := rw
      have hkv : kindV (op : Int) = .tuple #[.agg #[.func (.func r) #[] #[], .func (.func wr) #[] #[]], .bool true] := by rw [kindV, hko]; rfl
      rw [hkv] at HK
      have hen := (kind_enters hko).1
      have HRR := Lib.hid (HRD.out r wr hko)
      clear hkv hko HMN HRD
      go_upto_region 5 with (first | (go_at_call 16; refine (HK.out _).mono ?_; rintro e w1 ⟨rfl, hm1⟩; have H1 := Lib.hid hm1; clear hm1) | fail)
      refine grab_world fun V hV => ?_
      have hmV : Mod No W0 V := by rw [hV]; exact H1.out.alloc _
      have hXV := hmV.obj H0.out.2.2 id
      have hTV : askAt V (w.heap.size + 1) (askNew key op) := hmV.obj H0.out.2.1 id
      have ck : V.cell? ⟨w1.heap.size, 0, none⟩ = some (.func (.func r) #[] #[]) := by rw [hV]; exact (blk_cell (at10 w1 _) 0).trans rfl
      have hne : w1.heap.size ≠ w.heap.size + 1 := by have := lt_of_block H0.out.2.1; have := H1.out.size; omega
      have HF := Lib.hid (And.intro hmV (And.intro hXV hTV))
      have HN := Lib.hid (And.intro hne ck)
      clear hV hmV hXV hTV hne
      have hZ2 := AskD.size AskD.zero_ok
      have hZ3 := AskD.one AskD.zero_ok
      rw [← HZ.out.1] at hZ2 hZ3
      have HZZ := Lib.hid (And.intro hZ2 hZ3)
      clear hZ2 hZ3
      cases hro : res.ok with
      | false =>
        have HRO := Lib.hid hro
        clear hro
        go_region_held3 (fun W => W.cell? ⟨w1.heap.size, 0, none⟩ = some (.func (.func r) #[] #[])) (first | go_keep | (exact Mod.cell H2.out.1 HN.out.2 HN.out.1))
          ((refine (HRR.out V.drew _ ?_ ?_ ?_).mono ?_; (exact HF.out.2.2); (exact (H0.out.1.trans HF.out.1).drew); (simp); (intro e w2 hq; obtain ⟨hq1, hm2, hok⟩ := hq; rw [HRO.out] at hq1; subst hq1; have hX2 := hm2.obj (show V.drew.heap[w.heap.size]? = _ from HF.out.2.1) (by omega); have hst3 := askStore_run hX2 HZZ.out.1 HZZ.out.1 HZZ.out.2; have H2 := Lib.hid (And.intro hm2 hX2); clear hm2 hX2 hok)))
        go_wp2
        refine bodyPost_ret (results_cell_tmp rfl _ _ w.heap.size 40 Z (0, 0) _ rfl (setRow_heap _ _ _ _ _ _ H2.out.2) Try.underlying40 rfl (by rw [askSize, HZZ.out.1])) rfl ?_
        rw [HZ.out.1]
        exact MReadQ.bad HRO.out (((H0.out.1.trans HF.out.1).drew.trans' H2.out.1 (fun i hi hg => by omega)).trans' (setRow_mod _) (fun i hi hg => by omega))
      | true =>
        have HRO := Lib.hid hro
        clear hro
        go_region_held3 (fun W => W.cell? ⟨w1.heap.size, 0, none⟩ = some (.func (.func r) #[] #[])) (first | go_keep | (exact Mod.cell H2.out.1 HN.out.2 HN.out.1))
          ((refine (HRR.out V.drew _ ?_ ?_ ?_).mono ?_; (exact HF.out.2.2); (exact (H0.out.1.trans HF.out.1).drew); (simp); (intro e w2 hq; obtain ⟨hq1, hm2, hok⟩ := hq; obtain ⟨x, Q, q, hat, hxt, hxr⟩ := hok HRO.out; rw [HRO.out] at hq1; subst hq1; have hX2 := hm2.obj (show V.drew.heap[w.heap.size]? = _ from HF.out.2.1) (by omega); have hao := MRes.ask_ok res key op Q q hxr; obtain ⟨CA, hCA⟩ : ∃ CA, CA = (res.ask key op x Q q).cells.toArray := ⟨_, rfl⟩; have hs := AskD.size hao; have h1 := AskD.one hao; rw [← hCA] at hs h1; rw [askAt, ← hCA] at hat; have hld := askLoad_run hat hs; have hst3 := askStore_run hX2 HZZ.out.1 hs h1; have H2 := Lib.hid (And.intro hm2 (And.intro hX2 (And.intro hxt (And.intro hxr (And.intro hCA hs))))); clear hm2 hX2 hok hat hxt hxr hao hs h1 hCA)))
        go_wp2
        refine bodyPost_ret (results_cell_tmp rfl _ _ w.heap.size 40 CA (0, 0) _ rfl (setRow_heap _ _ _ _ _ _ H2.out.2.1) Try.underlying40 rfl (by rw [askSize, H2.out.2.2.2.2.2])) rfl ?_
        obtain ⟨hm2, hX2, hxt, hxr, hCA, hs⟩ := H2.out
        have hmV := (H0.out.1.trans HF.out.1).drew
        refine ⟨(hmV.trans' hm2 (fun i hi hg => by omega)).trans' (setRow_mod _) (fun i hi hg => by omega), (fun _ => ⟨x, Q, q, (by rw [hCA]; rfl), hxt, ?_⟩), (fun f => by rw [HRO.out] at f; cases f)⟩
        have hlt := lt_of_block HF.out.2.1
        refine ((hxr.imp (S' := fun b => b ≠ w.heap.size ∧ w.heap.size ≤ b) (fun b hb => ?_)).keeps ((setRow_mod _).keeps (fun b _ hb hg => hb.1 hg))).imp (fun b hb => hb.2)
        have : V.heap.size ≤ b := hb
        omega
end

section
attribute [local go_sem] stPair gtPair gtK8 gtM6 run_store_func run_store_nilFunc
attribute [local go_sem high] neqPair eqK8 eqM6
attribute [local go_sem ↓] load_fold store_fold alloc_fold slice_op_fold con_load_fold chg_load_fold ten_zero_fold con_alloc_fold con_store_fold con_zero_fold chg_alloc_fold chg_store_fold chg_zero_fold chg_put_fold macLoad_fold macStore_fold keyLoad_fold keyStore_fold chg_make_fold chg_slice_fold askLoad_fold askStore_fold askAlloc_fold askBox_fold askZero_fold reqLoad_fold reqStore_fold reqAlloc_fold reqBox_fold reqZero_fold askPut_fold reqPut_fold
open Go.RowKit
set_option linter.unusedVariables false
/-- What a closure that writes tells: bytes, and whether they may be. -/
def WrQ (ok : Bool) (L : List UInt8) (w : World) (e : Ending) (w' : World) : Prop :=
  ∃ v, e = .returned (.tuple #[v, .bool ok]) ∧ OwnB w' w.heap.size v L ∧ Mod No w w'
theorem wr_nothing {w : World} (CA : Array Value) (hs : CA.size = 75) : Calls Try.prog 26 #[.agg CA] w (WrQ true [] w) := by
  have hb := askBox_new CA hs
  clear hs
  go_enter Try.func26, Try.ntmps26
  go_wp2
  go_ret2
  exact ⟨_, rfl, nil_own _ _, (Mod.refl _ _).alloc _⟩
theorem own_one {W : World} {b base : Nat} {x : Int} {l : List UInt8} (hb : W.heap[b]? = some (.cells #[.int .u8 x] 5 (0, 0))) (hl : bcells l = [.int .u8 x]) (hbase : base ≤ b) : OwnB W base (.slice (some ⟨b, 0, none⟩) 1 1) l := by
  have h1 : l.length = 1 := by have := congrArg List.length hl; rwa [bcells_length] at this
  refine ⟨by rw [bcells_length, Nat.mul_one], .inr ⟨b, 1, #[.int .u8 x], by rw [h1], hbase, hb, by omega, by decide, rfl, ?_⟩⟩
  rw [h1, hl]
  rfl
set_option maxRecDepth 100000 in
theorem wr_named {w : World} (a : AskD) (ha : a.ok) (hn : a.name.length ≤ 1000000) : Calls Try.prog 28 #[.agg a.cells.toArray] w (WrQ (decide (a.name.length ≤ 255)) (UInt8.ofNat a.name.length :: a.name) w) := by
  have hs := AskD.size ha
  have h74 := AskD.at74 ha
  obtain ⟨CA, hCA⟩ : ∃ CA, CA = a.cells.toArray := ⟨_, rfl⟩
  obtain ⟨nm, hnm⟩ : ∃ nm, nm = a.name := ⟨_, rfl⟩
  rw [← hCA] at hs
  rw [← hCA]
  rw [← hnm] at hn h74
  rw [← hnm]
  have hb := askBox_new CA hs
  have c74 : (w.alloc (.cells CA 40)).cell? ⟨w.heap.size, 74, none⟩ = some (.string (str nm)) := by rw [blk_cell (at10 w _), hCA]; simpa using h74
  obtain ⟨n, hnn⟩ : ∃ n, n = nm.length := ⟨_, rfl⟩
  have hsz : (str nm).size = n := by rw [str_size, hnn]
  have hb1 : bcells [UInt8.ofNat nm.length] = [.int .u8 (IntKind.u8.wrap (n : Int))] := by rw [← hnn]; simp [bcells, IntKind.wrap, IntKind.bits, IntKind.signed]
  obtain ⟨ok, hok⟩ : ∃ ok, ok = decide (nm.length ≤ 255) := ⟨_, rfl⟩
  have p1 : decide ((n : Int) ≤ 255) = ok := by rw [hok, ← hnn, Bool.eq_iff_iff]; simp; omega
  have p2 : (n : Int) ≤ 1000000 := by omega
  obtain ⟨L, hL⟩ : ∃ L, L = UInt8.ofNat nm.length :: nm := ⟨_, rfl⟩
  rw [← hok, ← hL]
  have H := Lib.hid (And.intro hb1 (And.intro hL (And.intro hnn c74)))
  clear hs h74 hCA hnm hb1 hok hL hnn ha
  go_enter Try.func28, Try.ntmps28
  go_upto_region 1 with fail
  go_region_held3 (fun W => W.cell? ⟨w.heap.size, 74, none⟩ = some (.string (str nm)))
    (first | go_keep | (exact Mod.cell H1.out.2 H1.out.1 (by simp [Value.ownBlock])))
    ((refine step_gr_text (by rfl) _ _ (by rfl) (w0 := ((w.alloc (.cells CA 40)).alloc (.cells #[.int .u8 (IntKind.u8.wrap (n : Int))] 5)).drew) (Gr.refl (base := w.heap.size) (own_one (W := ((w.alloc (.cells CA 40)).alloc (.cells #[.int .u8 (IntKind.u8.wrap (n : Int))] 5)).drew) (at21 w _ _) H.out.1 (by omega))) (by rfl) nm (by rfl) (by have := H.out.2.2.1; simp; omega) (by simp; omega) ?_; intro v' w1 g1 m1; have G1 := Lib.hid g1; have H1 := Lib.hid (And.intro (show (((w.alloc (.cells CA 40)).alloc (.cells #[.int .u8 (IntKind.u8.wrap (n : Int))] 5)).drew).cell? ⟨w.heap.size, 74, none⟩ = some (.string (str nm)) from ((Mod.refl No (w.alloc (.cells CA 40))).alloc _).drew.cell H.out.2.2.2 id) m1); clear g1 m1))
  go_wp2
  go_ret2
  refine ⟨v', rfl, ?_, ?_⟩
  · rw [H.out.2.1]
    exact G1.out.own
  · exact (((Mod.refl No w).alloc _).alloc _).drew.trans' H1.out.2 (fun i hi hg => by simp [Value.ownBlock] at hg; omega)
end

section
attribute [local go_sem] stPair gtPair gtK8 gtM6 run_store_func run_store_nilFunc
attribute [local go_sem high] neqPair eqK8 eqM6
attribute [local go_sem ↓] load_fold store_fold alloc_fold slice_op_fold con_load_fold chg_load_fold ten_zero_fold con_alloc_fold con_store_fold con_zero_fold chg_alloc_fold chg_store_fold chg_zero_fold chg_put_fold macLoad_fold macStore_fold keyLoad_fold keyStore_fold chg_make_fold chg_slice_fold askLoad_fold askStore_fold askAlloc_fold askBox_fold askZero_fold reqLoad_fold reqStore_fold reqAlloc_fold reqBox_fold reqZero_fold askPut_fold reqPut_fold
open Go.RowKit
set_option linter.unusedVariables false
def w8row (L : List UInt8) (k : Nat) : List UInt8 := L.take k ++ List.replicate (8 - k) 0
theorem w8_set (L : List UInt8) (hL : L.length = 8) (k : Nat) (x : UInt8) (hx : L[k]? = some x) : (w8row L k).set k x = w8row L (k + 1) := by
  have hk : k < 8 := by have := (List.getElem?_eq_some_iff.1 hx).1; omega
  unfold w8row
  rw [take_snoc'' hx]
  have hr : List.replicate (8 - k) (0 : UInt8) = 0 :: List.replicate (8 - (k + 1)) 0 := by rw [show 8 - k = (8 - (k + 1)) + 1 by omega]; rfl
  rw [hr, set_app _ _ _ _ k (by rw [List.length_take]; omega)]
  simp
set_option maxRecDepth 100000 in
theorem wr_begin {w : World} (a : AskD) (ha : a.ok) : Calls Try.prog 30 #[.agg a.cells.toArray] w (WrQ true (be 8 a.ver) w) := by
  have hs := AskD.size ha
  obtain ⟨CA, hCA⟩ : ∃ CA, CA = a.cells.toArray := ⟨_, rfl⟩
  rw [← hCA] at hs
  rw [← hCA]
  have hb := askBox_new CA hs
  obtain ⟨W, hW⟩ : ∃ W, W = (w.alloc (.cells CA 40)).alloc (.cells (bcells (List.replicate 8 0)).toArray 5) := ⟨_, rfl⟩
  have hat : askAt W w.heap.size a := by rw [askAt, ← hCA, hW]; exact at20 w _ _
  have hg : W.heap[w.heap.size + 1]? = some (.cells (bcells (List.replicate 8 0)).toArray 5 (0, 0)) := by rw [hW]; exact at21 w _ _
  have hm1 : Mod No w W := by rw [hW]; exact ((Mod.refl _ _).alloc _).alloc _
  have hmk := make_bytes 8 (by decide)
  have hmk' : ∀ W : World, (Instr.makeSlice 22 (.int .i64 8) (.int .i64 8)).run Try.prog W = .ok (.slice (some ⟨W.heap.size, 0, none⟩) 8 8) (W.alloc (.cells (bcells (List.replicate 8 0)).toArray 5)) := hmk
  obtain ⟨n, hn⟩ : ∃ n, n = a.ver := ⟨_, rfl⟩
  rw [← hn]
  have H0 := Lib.hid (And.intro hat (And.intro hg (And.intro hm1 hn)))
  have HW := Lib.hid hW
  obtain ⟨Z8, hZ8⟩ : ∃ Z8, Z8 = (bcells (List.replicate 8 0)).toArray := ⟨_, rfl⟩
  rw [← hZ8] at hmk' HW
  clear hs hCA hat hg hm1 hn hW hmk hZ8
  go_enter Try.func30, Try.ntmps30
  go_wp2
  refine grab_world fun wg hwg => ?_
  rw [← HW.out] at hwg
  subst hwg
  clear HW
  go_loopw [5, 9] (fun x i wr => ∃ (k : Nat), i = .int .i64 k ∧ k ≤ 8 ∧ wr.heap[w.heap.size + 1]? = some (.cells (bcells (w8row (be 8 n) k)).toArray 5 (0, 0)) ∧ Mod (fun b => b = w.heap.size + 1) wg wr) (fun _ i _ => 8 - (intOf i).toNat)
  case atStart => exact ⟨0, rfl, by omega, H0.out.2.1, Mod.refl _ _⟩
  case round =>
    obtain ⟨k, rfl, hk, hrow, hm⟩ := hrel
    by_cases hlt : k < 8
    · have hatr : askAt wr w.heap.size a := hm.obj H0.out.1 (by omega)
      have c9 : wr.cell? ⟨w.heap.size, 9, none⟩ = some (.int .u64 (n : Int)) := by rw [askAt_cell hatr, AskD.at9, H0.out.2.2.2]
      have fr := blk_free hrow k
      have hl8 : (w8row (be 8 n) k).length = 8 := by simp [w8row, be_length]; omega
      obtain ⟨u, hu⟩ : ∃ u, (bcells (w8row (be 8 n) k))[k]? = some u := ⟨_, List.getElem?_eq_getElem (by rw [bcells_length, hl8]; exact hlt)⟩
      have cu : wr.cell? ⟨w.heap.size + 1, k, none⟩ = some u := by rw [blk_cell hrow]; simpa using hu
      have p1 : (0 : Int) ≤ k := by omega
      have p2 : (k : Int) < 8 := by omega
      have hx : (be 8 n)[k]? = some (UInt8.ofNat (n / 256 ^ (7 - k))) := by
        have h1 := be_take n 8 (8 - k) (by omega)
        rw [show 8 - k = (7 - k) + 1 by omega, be_succ (7 - k) n, show 8 - (7 - k + 1) = k by omega] at h1
        have := congrArg (fun l : List UInt8 => l[0]?) h1
        simp only [List.getElem?_drop, Nat.add_zero] at this
        exact this
      have hbv : (n : Int) / 2 ^ (56 - 8 * k) % 256 = ((UInt8.ofNat (n / 256 ^ (7 - k))).toNat : Int) := by
        have := wrap_u8_low n (7 - k)
        rw [← this, show 8 * (7 - k) = 56 - 8 * k by omega]
        simp [IntKind.wrap, IntKind.bits, IntKind.signed]
      have hfin : (wr.setCell ⟨w.heap.size + 1, k, none⟩ (.int .u8 ((n : Int) / 2 ^ (56 - 8 * k) % 256))).heap[w.heap.size + 1]? = some (.cells (bcells (w8row (be 8 n) (k + 1))).toArray 5 (0, 0)) := by
        rw [heap_setCell_row hrow, hbv, ← w8_set (be 8 n) (be_length 8 n) k _ hx]
        simp only [List.setIfInBounds_toArray, bcells, List.map_set]
      have hmf : Mod (fun b => b = w.heap.size + 1) wg (wr.setCell ⟨w.heap.size + 1, k, none⟩ (.int .u8 ((n : Int) / 2 ^ (56 - 8 * k) % 256))) := Mod.setCell (p := ⟨w.heap.size + 1, k, none⟩) hm (.inr rfl) _
      have HR := Lib.hid (And.intro hfin hmf)
      clear hatr hrow hm hu hl8 hx hbv hfin hmf
      go_wp2
      exact ⟨⟨k + 1, by go_num, by omega, HR.out⟩, by simp [intOf]; omega⟩
    · obtain rfl : k = 8 := by omega
      have hfin : OwnB wr w.heap.size (.slice (some ⟨w.heap.size + 1, 0, none⟩) 8 8) (be 8 n) := by
        have e : w8row (be 8 n) 8 = be 8 n := by simp [w8row, List.take_of_length_le, be_length]
        rw [e] at hrow
        refine ⟨by rw [bcells_length, Nat.mul_one], .inr ⟨w.heap.size + 1, 8, (bcells (be 8 n)).toArray, by rw [be_length], by omega, hrow, by rw [be_length]; omega, by decide, by simp [bcells_length, be_length], ?_⟩⟩
        rw [Nat.mul_one, be_length, List.take_of_length_le (by simp [bcells_length, be_length])]
      have hmf : Mod No w wr := H0.out.2.2.1.trans' hm (fun i hi hg => by omega)
      have HF := Lib.hid (And.intro hfin hmf)
      clear hrow hm hfin hmf
      go_wp2
      go_ret2
      exact ⟨_, rfl, HF.out⟩
theorem row_blk {S : Nat → Prop} {W : World} {b : Nat} {cs : Array Value} {t : TypeId} {fr : Nat × Nat} (h : W.heap[b]? = some (.cells cs t fr)) (hS : S b) : RowAt S W (some ⟨b, 0, none⟩) cs.toList := by
  refine .inr ⟨b, 0, rfl, hS, fun j u hj => ?_⟩
  rw [Nat.zero_add]
  have : cs[j]? = some u := by simpa using hj
  simp [World.cell?, h, this]
/-- What a request's bytes are, and whether they may be. -/
def BytesQ (ok : Bool) (L : List UInt8) (w : World) (e : Ending) (w' : World) : Prop :=
  Mod No w w' ∧ (ok = true → ∃ v, e = .returned (.tuple #[v, .int .i64 0]) ∧ OwnB w' w.heap.size v L) ∧ (ok = false → e = .returned (.tuple #[.slice none 0 0, .int .i64 160]))
theorem BytesQ.bad {L : List UInt8} {w w' : World} (h : Mod No w w') : BytesQ false L w (.returned (.tuple #[.slice none 0 0, .int .i64 160])) w' := ⟨h, (fun f => by cases f), fun _ => rfl⟩
set_option maxRecDepth 100000 in
set_option maxHeartbeats 1000000 in
theorem bytes_some {w : World} (a : AskD) (ha : a.ok) {r wr : Nat} (hk : kindOf a.op = some (r, wr)) (ok : Bool) (L : List UInt8) (hL : L.length ≤ 90000000)
    (HW : ∀ W, Mod No w W → Calls Try.prog wr #[.agg a.cells.toArray] W (WrQ ok L W)) :
    Calls Try.prog 15 #[.agg a.cells.toArray] w (BytesQ ok (a.key.l ++ UInt8.ofNat (a.op % 256).toNat :: L) w) := by
  have hs := AskD.size ha
  obtain ⟨CA, hCA⟩ : ∃ CA, CA = a.cells.toArray := ⟨_, rfl⟩
  rw [← hCA] at hs HW
  rw [← hCA]
  have hb := askBox_new CA hs
  have hat : ∀ W, Mod No (w.alloc (.cells CA 40)) W → askAt W w.heap.size a := fun W hW => by rw [askAt, ← hCA]; exact hW.obj (at10 w _) id
  have c8 : (w.alloc (.cells CA 40)).cell? ⟨w.heap.size, 8, none⟩ = some (.int .i64 a.op) := (askAt_cell (hat _ (Mod.refl _ _)) 8).trans (AskD.at8 a)
  have hx : bcells [UInt8.ofNat (a.op % 256).toNat] = [.int .u8 (IntKind.u8.wrap a.op)] := by
    simp [bcells, IntKind.wrap, IntKind.bits, IntKind.signed]
    omega
  obtain ⟨op, hop⟩ : ∃ op, op = a.op := ⟨_, rfl⟩
  obtain ⟨key, hkey⟩ : ∃ key, key = a.key := ⟨_, rfl⟩
  rw [← hop] at c8 hk hx
  rw [← hop, ← hkey]
  have hkv : kindV op = .tuple #[.agg #[.func (.func r) #[] #[], .func (.func wr) #[] #[]], .bool true] := by rw [kindV, hk]; rfl
  have HK := Lib.hid (fun W => kinds_ok W op)
  rw [hkv] at HK
  have hen := (kind_enters hk).2
  have HWW := Lib.hid HW
  have H0 := Lib.hid (And.intro hat (And.intro hCA (And.intro hs (And.intro hop (And.intro hkey hx)))))
  clear hCA hat hop ha hk hkv HW hkey hs hx
  go_enter Try.func15, Try.ntmps15
  go_upto_region 4 with (first | (go_at_call 16; refine (HK.out _).mono ?_; rintro e w1 ⟨rfl, hm1⟩; have H1 := Lib.hid hm1; clear hm1) | fail)
  refine grab_world fun V hV => ?_
  have hmV : Mod No (w.alloc (.cells CA 40)) V := by rw [hV]; exact H1.out.alloc _
  have hld := askLoad_run (show V.heap[w.heap.size]? = some (.cells CA 40 (0, 0)) by have := H0.out.1 V hmV; rw [askAt, ← H0.out.2.1] at this; exact this) H0.out.2.2.1
  have ck : V.cell? ⟨w1.heap.size, 1, none⟩ = some (.func (.func wr) #[] #[]) := by rw [hV]; exact (blk_cell (at10 w1 _) 1).trans rfl
  have HV := Lib.hid (And.intro (((Mod.refl No w).alloc _).trans hmV) hmV)
  clear hV hmV
  cases ok with
  | false =>
    go_wp2_with (refine (HWW.out V HV.out.1).mono ?_; intro e w2 hq; obtain ⟨v, hq1, hq2, hq3⟩ := hq; subst hq1; have H2 := Lib.hid hq3; clear hq2 hq3)
    go_ret2
    exact ⟨HV.out.1.trans H2.out, (fun f => by cases f), (fun _ => rfl)⟩
  | true =>
    go_upto_region 7 with (refine (HWW.out V HV.out.1).mono ?_; intro e w2 hq; obtain ⟨v, hq1, hq2, hq3⟩ := hq; subst hq1; have H2 := Lib.hid (And.intro hq2 hq3); clear hq2 hq3)
    obtain ⟨A, c, rfl, hlc, hrL⟩ := OwnB.open H2.out.1
    have hmW : Mod No (w.alloc (.cells CA 40)) w2 := HV.out.2.trans H2.out.2
    have c8w := hmW.cell c8 id
    have HC := Lib.hid (show Calls Try.prog 24 #[.slice (some ⟨w2.heap.size + 1, 0, none⟩) 3 3] ((w2.alloc (.cells #[.int .u8 (IntKind.u8.wrap op)] 5)).alloc (.cells #[.slice (some ⟨w.heap.size, 0, none⟩) 8 8, .slice (some ⟨w2.heap.size, 0, none⟩) 1 1, .slice A L.length c] 22)).drew fun e w' => ∃ v, e = .returned v ∧ OwnB w' w.heap.size v (key.l ++ UInt8.ofNat (op % 256).toNat :: L) ∧ Mod No w2 w' ∧ w'.cell? ⟨w.heap.size, 8, none⟩ = some (.int .i64 op) from by
      obtain ⟨W3, hW3⟩ : ∃ W3, W3 = ((w2.alloc (.cells #[.int .u8 (IntKind.u8.wrap op)] 5)).alloc (.cells #[.slice (some ⟨w.heap.size, 0, none⟩) 8 8, .slice (some ⟨w2.heap.size, 0, none⟩) 1 1, .slice A L.length c] 22)).drew := ⟨_, rfl⟩
      rw [← hW3]
      have hm3 : Mod No w2 W3 := by rw [hW3]; exact (((Mod.refl _ _).alloc _).alloc _).drew
      have hb1 : W3.heap[w2.heap.size]? = some (.cells #[.int .u8 (IntKind.u8.wrap op)] 5 (0, 0)) := by rw [hW3]; exact at20 w2 _ _
      have hb2 : W3.heap[w2.heap.size + 1]? = some (.cells #[.slice (some ⟨w.heap.size, 0, none⟩) 8 8, .slice (some ⟨w2.heap.size, 0, none⟩) 1 1, .slice A L.length c] 22 (0, 0)) := by rw [hW3]; exact at21 w2 _ _
      have hs3 : W3.heap.size = w2.heap.size + 2 := by rw [hW3]; simp
      obtain ⟨hat, hCA, hs, hop, hkey, hx⟩ := H0.out
      have hat3 := hat W3 (hmW.trans hm3)
      have hlw : w.heap.size < w2.heap.size := by have := lt_of_block (hat w2 hmW); exact this
      obtain ⟨l, hl⟩ : ∃ l : List (Option Addr × Nat × List Value), l = [(some ⟨w.heap.size, 0, none⟩, 8, bcells key.l), (some ⟨w2.heap.size, 0, none⟩, 1, bcells [UInt8.ofNat (op % 256).toNat]), (A, c, bcells L)] := ⟨_, rfl⟩
      have hall : partsAll l = bcells (key.l ++ UInt8.ofNat (op % 256).toNat :: L) := by rw [hl]; simp [partsAll, bcells]
      have hlen : (partsAll l).length = (key.l ++ UInt8.ofNat (op % 256).toNat :: L).length := by rw [hall, bcells_length]
      have hk8 : key.l.length = 8 := rfl
      have := concat_okU8 (S := fun b => b < W3.heap.size) (w := W3) l (Q := some ⟨w2.heap.size + 1, 0, none⟩) (q := 3) (by
          have := row_blk (S := fun b => b < W3.heap.size) hb2 (by omega)
          have e : l.map partVal = (#[.slice (some ⟨w.heap.size, 0, none⟩) 8 8, .slice (some ⟨w2.heap.size, 0, none⟩) 1 1, .slice A L.length c] : Array Value).toList := by
            rw [hl]; simp [partVal, bcells_length, hk8]
          rw [e]; exact this) (by rw [hl]; simp) (fun b hb => hb) (by
          intro p hp
          rw [hl] at hp
          simp only [List.mem_cons, List.mem_nil_iff, or_false] at hp
          rcases hp with rfl | rfl | rfl
          · refine ⟨.inr ⟨w.heap.size, 0, rfl, (by omega), fun j u hj => ?_⟩, bcells_one _⟩
            have hj8 := (List.getElem?_eq_some_iff.1 hj).1
            rw [Nat.zero_add, askAt_cell hat3, AskD.atKey _ _ (by simpa [bcells_length, hk8] using hj8), ← hkey]
            exact hj
          · refine ⟨?_, bcells_one _⟩
            have := row_blk (S := fun b => b < W3.heap.size) hb1 (by omega)
            rw [hx]; exact this
          · exact ⟨(hrL.mono (S' := fun b => b < W3.heap.size) (fun b hb _ => by omega)).keeps (hm3.keeps (fun _ _ _ f => f)), bcells_one _⟩) (by rw [hlen, List.length_append, List.length_cons, hk8]; omega)
      have hl3 : l.length = 3 := by rw [hl]; rfl
      rw [hl3] at this
      refine this.mono ?_
      rintro e w' ⟨v, rfl, ho, hm⟩
      refine ⟨v, rfl, ?_, hm3.trans hm, (hmW.trans (hm3.trans hm)).cell c8 id⟩
      unfold OwnB
      rw [← hall, ← hlen]
      exact own_base ho (by omega))
    have HD := Lib.hid (And.intro hmW c8)
    clear hmW c8 hlc hrL
    go_region_held3 (fun W => W.cell? ⟨w.heap.size, 8, none⟩ = some (.int .i64 op)) (first | go_keep | (exact H3.out.2.2))
      ((go_at_call 24; refine HC.out.mono ?_; rintro e w3 ⟨v3, rfl, h1, h2, h3⟩; have H3 := Lib.hid (And.intro h1 (And.intro h2 h3)); clear h1 h2 h3))
    go_wp2
    go_ret2
    exact ⟨(HV.out.1.trans H2.out.2).trans H3.out.2.1, (fun _ => ⟨v3, rfl, H3.out.1⟩), (fun f => by cases f)⟩
end

section
attribute [local go_sem] stPair gtPair gtK8 gtM6 run_store_func run_store_nilFunc
attribute [local go_sem high] neqPair eqK8 eqM6
attribute [local go_sem ↓] load_fold store_fold alloc_fold slice_op_fold con_load_fold chg_load_fold ten_zero_fold con_alloc_fold con_store_fold con_zero_fold chg_alloc_fold chg_store_fold chg_zero_fold chg_put_fold macLoad_fold macStore_fold keyLoad_fold keyStore_fold chg_make_fold chg_slice_fold askLoad_fold askStore_fold askAlloc_fold askBox_fold askZero_fold reqLoad_fold reqStore_fold reqAlloc_fold reqBox_fold reqZero_fold askPut_fold reqPut_fold
open Go.RowKit
set_option linter.unusedVariables false
theorem askStore_nw (W : World) (CA : Array Value) (hc : CA.size = 75) (h1 : CA.all (·.oneCell') = true) : (askStore (.pointer (some ⟨W.heap.size, 0, none⟩)) (.agg CA)).run Try.prog (W.alloc (.cells AskD.zero.cells.toArray 40)) = .ok () (W.alloc (.cells CA 40)) := askStore_new W CA hc h1
def k7 : K8 := ⟨7, 0, 0, 0, 0, 0, 0, 0⟩
def ask4 : AskD := { AskD.zero with key := k7, op := 4 }
theorem ask4_ok : ask4.ok := ⟨AskD.zero_ok.chg, AskD.zero_ok.con, AskD.zero_ok.chg1, AskD.zero_ok.con1⟩
def kb9 : List UInt8 := [7, 0, 0, 0, 0, 0, 0, 0, 4]
theorem mread_kb9 : mread kb9 = .none true := rfl
theorem row_lt {B : Nat} {W : World} {A : Option Addr} {cs : List Value} (h : RowAt (fun b => B ≤ b) W A cs) : RowAt (fun b => b < W.heap.size) W A cs := h.mono (fun b hb _ => hb)
set_option maxRecDepth 100000 in
set_option maxHeartbeats 2000000 in
theorem known24 (w : World) : Calls Try.prog 6 #[] w fun e w' => e = .returned (.bool true) ∧ Mod No w w' := by
  obtain ⟨A4, hA4⟩ : ∃ A4, A4 = ask4.cells.toArray := ⟨_, rfl⟩
  have hpt : ∀ W, (askPut (.agg #[.int .u8 7, .int .u8 0, .int .u8 0, .int .u8 0, .int .u8 0, .int .u8 0, .int .u8 0, .int .u8 0]) (.int .i64 4)).run Try.prog W = .ok (.agg A4) W := fun W => by rw [hA4]; exact askPut_run k7 4 W
  have HB := Lib.hid (fun W => by
    have := bytes_some (w := W) ask4 ask4_ok (r := 25) (wr := 26) rfl true [] (by decide) (fun W' _ => wr_nothing _ (AskD.size ask4_ok))
    rw [← hA4] at this
    exact this)
  have HR := Lib.hid (fun (W : World) (A : Option Addr) (c : Nat) (hrow : RowAt (fun b => b < W.heap.size) W A (bcells kb9)) (hc : 9 ≤ c) => mread_ok (w := W) kb9 hrow hc (by decide))
  have HN := Lib.hid (fun (W : World) => mread_short (w := W) (A := none) (n := 0) (c := 0) (by decide) (.none false) rfl .zero 0)
  have HP := Lib.hid (fun (W : World) => reply_ok (S := fun _ => True) (w := W.alloc (.cells #[.int .u8 1] 5)) 9 [1] (A := some ⟨W.heap.size, 0, none⟩) (c := 1) (row_new (fun _ => True) W [1] |>.mono (fun _ _ _ => trivial)) (by decide))
  have HO := Lib.hid (fun (W : World) (A : Option Addr) (c : Nat) (hrow : RowAt (fun _ => True) W A (bcells [0, 9, 1])) (hc : 3 ≤ c) => openReply_ok (S := fun _ => True) (w := W) 0 9 [1] (n := 3) hrow rfl hc (by decide))
  have hal := askAlloc_run
  clear hA4
  go_enter Try.func6, Try.ntmps6
  go_upto_region 2 with (first | (go_at_call 15; refine (HB.out _).mono ?_; intro e w1 hq; obtain ⟨hm, hok, _⟩ := hq; obtain ⟨v1, rfl, ho1⟩ := hok rfl; have H1 := Lib.hid (And.intro hm ho1); clear hm ho1) | fail)
  obtain ⟨A1, c1, rfl, hc1, hr1⟩ := OwnB.open (show OwnB w1 w.heap.size v1 kb9 from H1.out.2)
  have HR1 := Lib.hid (And.intro hr1 hc1)
  rw [show kb9.length = 9 from rfl]
  clear hc1 hr1
  have HQ := Lib.hid (HR.out w1 A1 c1 (row_lt HR1.out.1) HR1.out.2)
  rw [mread_kb9] at HQ
  go_upto_region 3 with (first | (go_at_call 7; refine HQ.out.mono ?_; intro e w2 hq; obtain ⟨hm, hok, _⟩ := hq; obtain ⟨x, Q, q, rfl, hx, hxr⟩ := hok rfl; have hao := MRes.ask_ok (MRes.none true) (mkey kb9) (mop kb9) Q q hxr; have hst := askStore_nw w2 _ (AskD.size hao) (AskD.one hao); have H2 := Lib.hid (And.intro hm (And.intro hx hxr)); clear hm hx hxr hao) | fail)
  obtain ⟨CA, hCA⟩ : ∃ CA, CA = ((MRes.none true).ask (mkey kb9) (mop kb9) x Q q).cells.toArray := ⟨_, rfl⟩
  have hao := MRes.ask_ok (MRes.none true) (mkey kb9) (mop kb9) Q q H2.out.2.2
  refine grab_world fun V hV => ?_
  have hmV : Mod No w2 V := by rw [hV]; exact (Mod.refl _ _).alloc _
  have hat : askAt V w2.heap.size ((MRes.none true).ask (mkey kb9) (mop kb9) x Q q) := by rw [askAt, hV]; exact at10 w2 _
  have HV := Lib.hid (And.intro (H1.out.1.trans (H2.out.1.trans hmV)) (And.intro hat hao))
  rw [← hCA]
  clear hV hmV hat hao hst hCA
  have hz := askZero_run
  have hZs := AskD.size AskD.zero_ok
  have hZo := AskD.one AskD.zero_ok
  go_upto_region 4 with (first | (go_at_call 7; refine (HN.out _).mono ?_; intro e w3 hq; obtain ⟨hm, _, hbad⟩ := hq; obtain rfl := hbad rfl; have hst := askStore_nw w3 _ hZs hZo; have H3 := Lib.hid hm; clear hm hbad) | fail)
  refine grab_world fun V2 hV2 => ?_
  have hmV2 : Mod No V V2 := by rw [hV2]; exact H3.out.alloc _
  have H4 := Lib.hid hmV2
  clear hV2 hmV2 hst hZs hZo
  have HPP := Lib.hid (HP.out V2)
  go_upto_region 5 with (first
    | (go_at_call 10; refine HPP.out.mono ?_; rintro e w4 ⟨v4, rfl, ho4, hm4⟩; obtain ⟨A4, c4, rfl, hc4, hr4⟩ := OwnB.open (show OwnB w4 _ v4 [0, 9, 1] from ho4); have HOO := Lib.hid (HO.out w4 A4 c4 (hr4.mono (fun _ _ _ => trivial)) hc4); have H5 := Lib.hid hm4; clear ho4 hm4 hc4 hr4)
    | (go_at_call 11; refine HOO.out.mono ?_; rintro e w5 ⟨v5, rfl, ho5, hm5⟩; have H6 := Lib.hid (And.intro ho5 hm5); clear ho5 hm5)
    | fail)
  have hmw : Mod No V w5 := H4.out.trans ((((Mod.refl _ _).alloc _).trans H5.out).trans H6.out.2)
  have hat5 : askAt w5 w2.heap.size ((MRes.none true).ask (mkey kb9) (mop kb9) x Q q) := hmw.obj HV.out.2.1 id
  have c8 : w5.cell? ⟨w2.heap.size, 8, none⟩ = some (.int .i64 4) := (askAt_cell hat5 8).trans (AskD.at8 _)
  have kl : (keyLoad (.pointer (some ⟨w2.heap.size, 0, none⟩))).run Try.prog w5 = .ok (.agg #[.int .u8 7, .int .u8 0, .int .u8 0, .int .u8 0, .int .u8 0, .int .u8 0, .int .u8 0, .int .u8 0]) w5 := askAt_keyLoad hat5
  have eK : ∀ W, (binOp .eql 24 (.agg #[.int .u8 7, .int .u8 0, .int .u8 0, .int .u8 0, .int .u8 0, .int .u8 0, .int .u8 0, .int .u8 0]) (.agg #[.int .u8 7, .int .u8 0, .int .u8 0, .int .u8 0, .int .u8 0, .int .u8 0, .int .u8 0, .int .u8 0])).run Try.prog W = .ok (.bool true) W := fun W => by
    have := eqK8 k7 k7 W
    rw [decide_eq_true rfl] at this
    exact this
  obtain ⟨A5, c5, rfl, hc5, hr5⟩ := OwnB.open (show OwnB w5 _ v5 [1] from H6.out.1)
  have HY := Lib.hid (show Calls Try.prog 12 #[.slice A5 1 c5, .slice (some ⟨w5.heap.size, 0, none⟩) 1 1] (w5.alloc (.cells #[.int .u8 1] 5)) fun e w' => e = .returned (.bool true) ∧ w' = w5.alloc (.cells #[.int .u8 1] 5) from bytes_ok (S' := fun _ => True) A5 (some ⟨w5.heap.size, 0, none⟩) c5 1 [1] [1] (w := w5.alloc (.cells #[.int .u8 1] 5)) (hr5.keeps (((Mod.refl No w5).alloc _).keeps (fun _ _ _ f => f))) (row_new (fun _ => True) w5 [1] |>.mono (fun _ _ _ => trivial)))
  have HM := Lib.hid (HV.out.1.trans hmw)
  clear hmw hat5 hc5 hr5
  go_wp2_with (first | (go_at_call 12; refine HY.out.mono ?_; rintro e w6 ⟨rfl, rfl⟩) | fail)
  go_ret
  exact ⟨by simp, HM.out.alloc _⟩
end

section
attribute [local go_sem] stPair gtPair gtK8 gtM6 run_store_func run_store_nilFunc
attribute [local go_sem high] neqPair eqK8 eqM6
attribute [local go_sem ↓] load_fold store_fold alloc_fold slice_op_fold con_load_fold chg_load_fold ten_zero_fold con_alloc_fold con_store_fold con_zero_fold chg_alloc_fold chg_store_fold chg_zero_fold chg_put_fold macLoad_fold macStore_fold keyLoad_fold keyStore_fold chg_make_fold chg_slice_fold askLoad_fold askStore_fold askAlloc_fold askBox_fold askZero_fold reqLoad_fold reqStore_fold reqAlloc_fold reqBox_fold reqZero_fold askPut_fold reqPut_fold
open Go.RowKit
set_option linter.unusedVariables false
theorem be2_eb (x : Int) (n : Nat) (hn : (n : Int) = x % 18446744073709551616) : be 2 n = eb x := by
  have h1 : be 2 n = [UInt8.ofNat (n / 256), UInt8.ofNat n] := by simp [be]
  rw [h1, eb]
  have e1 : UInt8.ofNat (n / 256) = UInt8.ofNat (x / 256 % 256).toNat := by
    apply UInt8.toNat_inj.1
    simp
    omega
  have e2 : UInt8.ofNat n = UInt8.ofNat (x % 256).toNat := by
    apply UInt8.toNat_inj.1
    simp
    omega
  rw [e1, e2]
set_option maxRecDepth 100000 in
theorem refReply_ok {S : Nat → Prop} {w : World} (x : Int) (B : List UInt8) {A : Option Addr} {c : Nat} (hrow : RowAt S w A (bcells B)) (hB : B.length ≤ 100000) :
    Calls Try.prog 13 #[.int .i64 x, .slice A B.length c] w fun e w' => ∃ v, e = .returned v ∧ OwnB w' w.heap.size v (eb x ++ B) ∧ Mod No w w' := by
  obtain ⟨i0, hi, hz0, hz1, hz2⟩ := info_parts infoU8
  obtain ⟨n, hn⟩ : ∃ n : Nat, (n : Int) = x % 18446744073709551616 := ⟨(x % 18446744073709551616).toNat, by omega⟩
  have hwr : IntKind.u64.wrap x = n := by rw [hn]; simp [IntKind.wrap, IntKind.bits, IntKind.signed]
  have hP := put_ok (w := w) (base := w.heap.size) (nil_own w w.heap.size) (Nat.le_refl _) (by decide) n 2 (by decide)
  rw [be2_eb x n hn, List.nil_append] at hP
  have hPP : Calls Try.prog 23 #[.slice none 0 0, .int .u64 (n : Int), .int .i64 2] w fun e w' => ∃ v v2 w2, e = .returned v ∧ (∀ ty, (Builtin.append_ #[22, 22] ty #[v, .slice A B.length c]).run Try.prog w' = .ok v2 w2) ∧ OwnB w2 w.heap.size v2 (eb x ++ B) ∧ Mod No w w2 := by
    refine hP.mono ?_
    rintro e w' ⟨v, rfl, hg⟩
    have hm1 : Mod No w w' := hg.no
    obtain ⟨v2, w2, hrun, ho2, hg2, hb2⟩ := run_append_row (P := Try.prog) w' w.heap.size 22 0 5 i0 _ 1 1 Try.underlying22 hi hz0 hz1 hz2 rfl (by decide) v _ _ hg.own A B.length c (bcells B) (hrow.keeps (hm1.keeps (fun _ _ _ f => f))) (by rw [bcells_length, Nat.mul_one]) (bcells_one B) (by have : (eb x).length = 2 := rfl; unfold maxLen; omega) (by have : (eb x).length = 2 := rfl; omega) hm1.size
    refine ⟨v, v2, w2, rfl, fun ty => hrun, ?_, ?_⟩
    · unfold OwnB
      rw [bcells_append, List.length_append]
      exact ho2
    · refine hm1.trans' (F := No) (G := fun b => v.ownBlock = some b) (Mod.grown (Mod.refl _ _) hg2 (fun q hq => .inr hq)) (fun i hi hgi => ?_)
      have := (hg.own.ge hgi).1
      omega
  have HP := Lib.hid hPP
  clear hP hPP hrow hi hz0 hz1 hz2 hB hn
  go_enter Try.func13, Try.ntmps13
  go_wp2_with (first
    | (go_at_call 23; refine HP.out.mono ?_; rintro e w1 ⟨v1, v2, w2, rfl, hrun, ho, hm⟩; have H1 := Lib.hid (And.intro ho hm); clear ho hm)
    | (at_builtin; refine Lib.wpList_append_run _ (by rfl) _ _ _ _ (by rfl) _ _ (by rfl) (by rfl) _ _ (hrun _) ?_)
    | fail)
  go_ret
  exact ⟨_, rfl, H1.out⟩
set_option maxRecDepth 100000 in
set_option maxHeartbeats 400000 in
theorem mgmtReplies_walk {w : World} (x : Int) (A : Option Addr) (c : Nat) (B : List UInt8) (hc : B.length ≤ c) (h63 : B.length ≤ 9223372036854775807) (hrow : RowAt (fun _ => True) w A (bcells B)) :
    Calls Try.prog 4 #[.int .i64 x, .slice A B.length c] w fun e w' => e = .returned (.bool true) ∧ Mod No w w' := by
  obtain ⟨n, hn⟩ : ∃ n, n = B.length := ⟨_, rfl⟩
  have HKN := Lib.hid (known24 w)
  have H0 := Lib.hid (And.intro hrow hn)
  rw [← hn] at h63
  rw [← hn]
  clear hrow hn hc
  go_enter Try.func4, Try.ntmps4
  go_wp2_with fail
  refine HKN.out.mono ?_
  rintro e w1 ⟨rfl, m0⟩
  by_cases h4 : 1000 < n
  · have p1 : (1000 : Int) < n := by omega
    have M0 := Lib.hid m0
    clear m0
    go_wp2
    go_ret
    exact ⟨rfl, M0.out⟩
  have p1 : ¬ (1000 : Int) < n := by omega
  have hr1 := H0.out.1.keeps (m0.keeps (fun _ _ _ f => f))
  have HR := Lib.hid (reply_ok (w := w1) (c := c) x B hr1 (by have := H0.out.2; omega))
  rw [← H0.out.2] at HR
  have M0 := Lib.hid m0
  clear m0 h4 HKN hr1
  go_upto_region 6 with (first | (go_at_call 10; refine HR.out.mono ?_; rintro e w2 ⟨v2, rfl, ho2, hm2⟩; have H2 := Lib.hid (And.intro ho2 hm2); clear ho2 hm2) | fail)
  have heb : eb x = [UInt8.ofNat ((x / 256) % 256).toNat, UInt8.ofNat (x % 256).toNat] := rfl
  obtain ⟨A2, c2, rfl, hc2, hr2⟩ := OwnB.open H2.out.1
  have hlen : (eb x ++ B).length = n + 2 := by rw [List.length_append, H0.out.2, heb]; simp; omega
  rw [hlen] at hc2
  rw [hlen]
  have hr2' : RowAt (fun _ => True) w2 A2 (bcells (UInt8.ofNat ((x / 256) % 256).toNat :: UInt8.ofNat (x % 256).toNat :: B)) := hr2.mono (fun _ _ _ => trivial)
  have HO := Lib.hid (openReply_ok (w := w2) (n := n + 2) (c := c2) _ _ B hr2' (by rw [H0.out.2]) hc2 (by have := H0.out.2; omega))
  obtain ⟨b2, o2, rfl, _, _, _⟩ := hr2'.open (by simp [bcells])
  have hval : ((UInt8.ofNat ((x / 256) % 256).toNat).toNat : Int) * 256 + ((UInt8.ofNat (x % 256).toNat).toNat : Int) = x % 65536 := by simp; omega
  rw [hval] at HO
  have sl1 := slice_head' (n + 2) c2 1 b2 o2 (by omega)
  have sl1' : ∀ W, (Instr.slice 22 (.slice (some ⟨b2, o2, none⟩) (n + 2) c2) none (some (.int .i64 1)) none).run Try.prog W = .ok (.slice (some ⟨b2, o2, none⟩) 1 c2) W := sl1
  have HSH := Lib.hid (fun W => openReply_short (w := W) (A := some ⟨b2, o2, none⟩) (n := 1) (c := c2) (by decide))
  have HRR := Lib.hid (fun W (hW : Mod No w W) => refReply_ok (w := W) (c := c) x B (H0.out.1.keeps (hW.keeps (fun _ _ _ f => f))) (by have := H0.out.2; omega))
  rw [← H0.out.2] at HRR
  have p2 : min ((n : Int) + 2) 1 = 1 := by omega
  have HX := Lib.hid (And.intro hr2' hval)
  clear hc2 hr2 hr2' heb hlen hval sl1
  have q1 : ((n + 2 : Nat) : Int) = (n : Int) + 2 := by omega
  have q2 : (x % 65536 == x % 65536) = true := by simp
  go_upto_region 7 with (first | (go_at_call 11; refine HO.out.mono ?_; rintro e w3 ⟨v3, rfl, ho3, hm3⟩; have H3 := Lib.hid (And.intro ho3 hm3); clear ho3 hm3) | fail)
  go_upto_region 8 with (first | (go_at_call 11; go_must (refine (HSH.out _).mono ?_; rintro e w4 ⟨rfl, rfl⟩)) | fail)
  obtain ⟨A3, c3, rfl, hc3, hr3⟩ := OwnB.open H3.out.1
  have hmw : Mod No w w4 := (M0.out.trans H2.out.2).trans H3.out.2
  have hB := H0.out.2
  have HA : Hid (∀ (W : World) (A5 : Option Addr) (c5 : Nat), Mod No w4 W → RowAt (fun b => w4.heap.size ≤ b) W A5 (bcells (eb x ++ B)) → Calls Try.prog 12 #[.slice (some ⟨b2, o2, none⟩) (n + 2) c2, .slice A5 (n + 2) c5] W fun e w' => e = .returned (.bool true) ∧ w' = W) := Lib.hid (fun W A5 c5 hW hr => by
    have hlen : (eb x ++ B).length = n + 2 := by rw [List.length_append, hB]; show 2 + B.length = _; omega
    have := bytes_ok (some ⟨b2, o2, none⟩) A5 c2 c5 (eb x ++ B) (eb x ++ B) (w := W) ((HX.out.1.keeps ((H3.out.2.trans hW).keeps (fun _ _ _ f => f)))) hr
    rw [hlen, decide_eq_true rfl] at this
    exact this)
  have HB : Hid (∀ W, Mod No w4 W → Calls Try.prog 12 #[.slice A3 n c3, .slice A n c] W fun e w' => e = .returned (.bool true) ∧ w' = W) := Lib.hid (fun W hW => by
    have := bytes_ok A3 A c3 c B B (w := W) (hr3.keeps (hW.keeps (fun _ _ _ f => f))) (H0.out.1.keeps ((hmw.trans hW).keeps (fun _ _ _ f => f)))
    rw [← hB, decide_eq_true rfl] at this
    exact this)
  have HM := Lib.hid hmw
  rw [← hB]
  have q3 : IntKind.u16.wrap x = x % 65536 := by simp [IntKind.wrap, IntKind.bits, IntKind.signed]
  have q4 : IntKind.i64.wrap (x % 65536) = x % 65536 := IntWalk.i64_in _ (by omega)
  clear hmw hB hc3 hr3
  go_wp2_with (first
    | (go_at_call 13; refine (HRR.out _ HM.out).mono ?_; rintro e w5 ⟨v5, rfl, ho5, hm5⟩; obtain ⟨A5, c5, rfl, hc5, hr5⟩ := OwnB.open ho5; have hl5 : (eb x ++ B).length = n + 2 := (by rw [List.length_append, H0.out.2]; show 2 + B.length = _; omega); rw [hl5]; have HY1 := Lib.hid (HA.out w5 A5 c5 hm5 hr5); have HY2 := Lib.hid (HB.out w5 hm5); have H5 := Lib.hid hm5; clear ho5 hm5 hc5 hr5 hl5)
    | (go_at_call 12; refine HY1.out.mono ?_; rintro e w6 ⟨rfl, rfl⟩; clear HY1)
    | (go_at_call 12; refine HY2.out.mono ?_; rintro e w7 ⟨rfl, rfl⟩)
    | fail)
  go_ret
  exact ⟨by simp, HM.out.trans H5.out⟩
end

end Go.Proofs.Ytpkieilmlnlpkaa
