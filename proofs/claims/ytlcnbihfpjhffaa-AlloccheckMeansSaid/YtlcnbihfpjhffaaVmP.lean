/- The reference's virtual machine as pure functions. No function of the program is walked. -/
import Derived.Test.YtlcnbihfpjhffaaVLv
namespace Go.Proofs.Ytlcnbihfpjhffaa
open Go.RowKit
set_option linter.unusedVariables false
set_option linter.unusedSimpArgs false

def S32 (x : Int) : Prop := -2147483648 ≤ x ∧ x ≤ 2147483647
def shlN : Nat → Int → Int
 | 0, a => a
 | k + 1, a => shlN k (wrap32 (a + a))
def sarN : Nat → Int → Int
 | 0, a => a
 | k + 1, a => sarN k ((a - a % 2) / 2)
def mathF (op a b n : Int) : Option Int :=
 if op = 1 then some (wrap32 (a + b)) else if op = 2 then some (wrap32 (a - b)) else if op = 3 then some (wrap32 (a * b))
 else if op = 4 ∨ op = 5 then (if b = 0 then none else if op = 4 then some (wrap32 (a.tdiv b)) else some (wrap32 (a - a.tdiv b * b)))
 else if op = 6 then some (if a < b then 1 else 0) else if op = 7 then some (if a = b then 1 else 0) else if op = 8 then some (wrap32 (a + n))
 else if op = 9 then some (shlN n.toNat a) else if op = 10 then some (sarN n.toNat a) else some n
def goodAddr (m : List Int) (x : Int) : Prop := x % 2 = 0 ∧ 2 ≤ x ∧ x / 2 < (m.length : Int)
instance (m : List Int) (x : Int) : Decidable (goodAddr m x) := by unfold goodAddr; infer_instance
def getM (m : List Int) (x : Int) : Option Int := if goodAddr m x then some (m.getD (x / 2).toNat 0) else none
def setM (m : List Int) (x v : Int) : Option (List Int) := if goodAddr m x then some (m.set (x / 2).toNat v) else none
def updV (r : Nat → Int) (d v : Int) : Nat → Int := if d = 0 then r else fun i => if i = d.toNat then v else r i

/-- the state of a run -/
structure VS where
 rg : Nat → Int
 m : List Int
 p : List Int
 fu : Int
 en : Int
 st : Bool
 bad : Bool
def VS.fail (s : VS) : VS := ⟨s.rg, s.m, s.p, s.fu, s.en, true, true⟩
def VS.trap (s : VS) (n : Int) : VS := ⟨s.rg, s.m, s.p, s.fu, n, true, s.bad⟩
def VS.put (s : VS) (d v : Int) : VS := ⟨updV s.rg d v, s.m, s.p, s.fu, s.en, s.st, s.bad⟩
def VS.mem (s : VS) (m p : List Int) : VS := ⟨s.rg, m, p, s.fu, s.en, s.st, s.bad⟩
def VS.tick (s : VS) : VS := ⟨s.rg, s.m, s.p, s.fu - 1, s.en, s.st, s.bad⟩
/-- what an instruction does: 0 with a value, 1 a failure, 2 a trap -/
structure EV where
 m : List Int
 p : List Int
 k : Nat
 v : Int
def makeV (m p : List Int) (h sz fill : Int) : EV := if 400 < (m.length : Int) + sz + 1 then ⟨m, p, 1, 0⟩ else ⟨m ++ h :: List.replicate sz.toNat fill, p, 0, 2 * (m.length : Int)⟩
def effV (op n a b : Int) (m p : List Int) : EV :=
 if op = 100 then ⟨m, p, 0, a⟩ else if op = 103 then ⟨m, p, 0, 2 * n + 1⟩
 else if op = 12 then (match getM m (a + n) with | some v => ⟨m, p, 0, v⟩ | none => ⟨m, p, 1, 0⟩)
 else if op = 13 then (match setM m (a + n) b with | some m' => ⟨m', p, 0, 0⟩ | none => ⟨m, p, 1, 0⟩)
 else if op = 14 then makeV m p b n 1
 else if op = 15 then (if a < 0 ∨ 1024 < a then ⟨m, p, 2, 6⟩ else makeV m p ((1052672 + a) * 2 + 1) a b)
 else if op = 23 then (if 1000 ≤ p.length then ⟨m, p, 2, 6⟩ else if a % 2 = 1 then ⟨m, p ++ [(a - a % 2) / 2], 0, 0⟩ else ⟨m, p ++ [(a - a % 2) / 2], 1, 0⟩)
 else match mathF op a b n with | some v => ⟨m, p, 0, v⟩ | none => ⟨m, p, 2, 1⟩
def endS (e : EV) (d : Int) (s : VS) : VS := if e.k = 0 then (s.mem e.m e.p).put d e.v else if e.k = 1 then (s.mem e.m e.p).fail else (s.mem e.m e.p).trap e.v
def stepM (x : VI) (s : VS) : VS := if s.fu - 1 < 0 then s.tick.fail else endS (effV x.op x.n (s.rg x.a.toNat) (s.rg x.b.toNat) s.m s.p) (defV x) s.tick
def inssV : List VI → VS → VS
 | [], s => s
 | x :: l, s => if (stepM x s).st = true then stepM x s else inssV l (stepM x s)
def tickV (s : VS) : VS := if s.fu - 1 < 0 then s.tick.fail else s.tick
def blkV (b : VB) (s : VS) : VS := tickV (inssV b.ins s)
def yesV (op a b : Int) : Bool := (op == 16 && a == b) || ((op == 17 && a != b) || (op == 18 && decide (a < b)))
def goV (e : VE) (s : VS) : Nat := if e.kind = 1 then (e.to.getD 0 0).toNat else if yesV e.op (s.rg e.a.toNat) (s.rg e.b.toNat) = true then (e.to.getD 0 0).toNat else (e.to.getD 1 0).toNat
/-- a run from the beginning of a block to its end, and what it returns -/
inductive RunV (f : VF) : Nat → VS → VS → Int → Prop
 | stop {i : Nat} {s : VS} : (blkV (f.blk i) s).st = true → RunV f i s (blkV (f.blk i) s) 0
 | ret {i : Nat} {s : VS} : (blkV (f.blk i) s).st = false → (f.blk i).e.kind = 0 → RunV f i s (blkV (f.blk i) s) ((blkV (f.blk i) s).rg (f.blk i).e.a.toNat)
 | trap {i : Nat} {s : VS} : (blkV (f.blk i) s).st = false → (f.blk i).e.kind = 3 → RunV f i s ((blkV (f.blk i) s).trap (f.blk i).e.n) 0
 | go {i : Nat} {s s' : VS} {v : Int} : (blkV (f.blk i) s).st = false → ((f.blk i).e.kind = 1 ∨ (f.blk i).e.kind = 2) → RunV f (goV (f.blk i).e (blkV (f.blk i) s)) (blkV (f.blk i) s) s' v → RunV f i s s' v
/-- the registers after the first i parameters -/
def startR (ps args : List Int) : Nat → Nat → Int
 | 0, _ => 0
 | i + 1, q => if q = (ps.getD i 0).toNat then args.getD i 0 else startR ps args i q
end Go.Proofs.Ytlcnbihfpjhffaa
