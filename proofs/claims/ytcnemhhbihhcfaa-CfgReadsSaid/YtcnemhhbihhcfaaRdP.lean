/-
  A tenant read: what bytes are read as. No program in sight.
-/
import Derived.Test.YtcnemhhbihhcfaaRdA
namespace Go.Proofs.Ytcnemhhbihhcfaa
open Go.RowKit
set_option linter.unusedVariables false

def M6.of (l : List UInt8) : M6 := ⟨l.getD 0 0, l.getD 1 0, l.getD 2 0, l.getD 3 0, l.getD 4 0, l.getD 5 0⟩
def K8.of (l : List UInt8) : K8 := ⟨l.getD 0 0, l.getD 1 0, l.getD 2 0, l.getD 3 0, l.getD 4 0, l.getD 5 0, l.getD 6 0, l.getD 7 0⟩
/-- A tenant that is being read: its fields so far, the three counts, the reader's state. -/
structure RS where
  t : Ten
  np : Nat
  ns : Nat
  nt : Nat
  s : St
def rsteps (B : List UInt8) : List (RS → RS) := [
  fun r => { r with t := { r.t with name := (rname B r.s).1 }, s := (rname B r.s).2 },
  fun r => { r with t := { r.t with vni := (rnum B 4 r.s).1 }, s := (rnum B 4 r.s).2 },
  fun r => { r with t := { r.t with key := K8.of (rtake B r.s 8).1 }, s := (rtake B r.s 8).2 },
  fun r => { r with t := { r.t with vtep := (rnum B 4 r.s).1 }, s := (rnum B 4 r.s).2 },
  fun r => { r with t := { r.t with vmac := M6.of (rtake B r.s 6).1 }, s := (rtake B r.s 6).2 },
  fun r => { r with t := { r.t with host := M6.of (rtake B r.s 6).1 }, s := (rtake B r.s 6).2 },
  fun r => { r with t := { r.t with lo := (rnum B 2 r.s).1 }, s := (rnum B 2 r.s).2 },
  fun r => { r with t := { r.t with hi := (rnum B 2 r.s).1 }, s := (rnum B 2 r.s).2 },
  fun r => { r with t := { r.t with filter := (rnum B 1 r.s).1 }, s := (rnum B 1 r.s).2 },
  fun r => { r with t := { r.t with sess := (rnum B 2 r.s).1 }, s := (rnum B 2 r.s).2 },
  fun r => { r with t := { r.t with queue := (rnum B 2 r.s).1 }, s := (rnum B 2 r.s).2 },
  fun r => { r with t := { r.t with rate := (rnum B 4 r.s).1 }, s := (rnum B 4 r.s).2 },
  fun r => { r with t := { r.t with burst := (rnum B 4 r.s).1 }, s := (rnum B 4 r.s).2 },
  fun r => { r with np := (rnum B 1 r.s).1, s := (rnum B 1 r.s).2 },
  fun r => { r with ns := (rnum B 1 r.s).1, s := (rnum B 1 r.s).2 },
  fun r => { r with nt := (rnum B 1 r.s).1, s := (rnum B 1 r.s).2 },
  fun r => { r with t := { r.t with pool := (rmany (rnum B 4) r.np r.s).1 }, s := (rmany (rnum B 4) r.np r.s).2 },
  fun r => { r with t := { r.t with statics := (rmany (rpr B) r.ns r.s).1 }, s := (rmany (rpr B) r.ns r.s).2 },
  fun r => { r with t := { r.t with twices := (rmany (rpr B) r.nt r.s).1 }, s := (rmany (rpr B) r.nt r.s).2 }]
def rk (B : List UInt8) (s : St) (k : Nat) : RS := ((rsteps B).take k).foldl (fun r f => f r) ⟨.zero, 0, 0, 0, s⟩
def rten (B : List UInt8) (s : St) : Ten × St := ((rk B s 19).t, (rk B s 19).s)

end Go.Proofs.Ytcnemhhbihhcfaa
