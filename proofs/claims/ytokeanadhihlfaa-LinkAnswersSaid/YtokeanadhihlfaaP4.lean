/-
  Links, plainly: what a link is, what it sends, and its steps. No program in sight.
-/
import Derived.Test.YtokeanadhihlfaaP3
set_option linter.all false
namespace Go.Proofs.Ytokeanadhihlfaa.V
open Go

structure Lk where
  n : Int
  st : Int
  a : Int
  cmd : Int
  len : Int
  s : List Int
  q : Int
  t : Int
structure Ou where
  ps : List Rec
  dl : Bool
  ms : List Int
  cn : Bool
def Lk.V (k : Lk) : AV := .agg [.int .i64 k.n, .int .i64 k.st, .int .u32 k.a, .int .i64 k.cmd, .int .i64 k.len, .ints false .u8 k.s, .int .i64 k.q, .int .i64 k.t]
/-- What is sent, as a value that is only read; as a value whose packets are memory handed over, and that memory. -/
def Ou.V (o : Ou) : AV := .agg [.rs false 0 o.ps, .bool o.dl, .ints false .u8 o.ms, .bool o.cn]
def Ou.E (o : Ou) : AV := .agg [.ownf 1000, .bool o.dl, .ints false .u8 o.ms, .bool o.cn]
def Ou.M (o : Ou) : AV := .linr 38 0 o.ps
def idleL (k : Lk) : Lk := ⟨k.n, 0, 0, 0, 0, [], 0, 0⟩
def replyO (o : Ou) (ch cmd : Int) (b : List Int) : Ou := ⟨o.ps ++ splitL ch cmd b, o.dl, o.ms, o.cn⟩
def refuseO (o : Ou) (ch e : Int) : Ou := replyO o ch 63 [IntKind.u8.wrap e]
def extL (b more : List Int) (n : Int) : List Int := b ++ more.take (imax (imin (n - b.length) more.length) 0).toNat
def fillR (r : Rec) : Rec := if chkE r.f r.b r.c r.d r.s.length = 0 then padR r else ⟨0, 0, 0, 0, false, []⟩
/-- A message that is complete: the program's way, the reference's way. -/
def handleL (k : Lk) (o : Ou) (now : Int) : Lk × Ou :=
  if (k.s.length : Int) < k.len then (k, o)
  else if k.cmd ≠ 3 then (idleL k, replyO o k.a k.cmd k.s)
  else (⟨k.n, 2, k.a, k.cmd, 0, [], 0, now⟩, ⟨o.ps, true, k.s, o.cn⟩)
def handleR (k : Lk) (o : Ou) (now : Int) : Lk × Ou :=
  if (k.s.length : Int) < k.len then (k, o)
  else if k.cmd = 1 then (idleL k, replyO o k.a 1 k.s)
  else (⟨k.n, 2, k.a, k.cmd, 0, [], 0, now⟩, ⟨o.ps, true, k.s, o.cn⟩)
def o0 : Ou := ⟨[], false, [], false⟩
def tickL (k : Lk) (now : Int) : Lk × Ou := if now < 0 ∨ 1099511627776 < now ∨ k.st ≠ 1 ∨ IntKind.i64.wrap (now - 20) ≤ k.t then (k, o0) else (idleL k, refuseO o0 k.a 19)
def tickR (k : Lk) (now : Int) : Lk × Ou := if now < 0 ∨ 1099511627776 < now ∨ k.st ≠ 1 ∨ IntKind.i64.wrap (now - k.t) ≤ 20 then (k, o0) else (idleL k, refuseO o0 k.a 19)
def answL (k : Lk) (x : List Int) : Lk × List Rec × Int := if k.st ≠ 2 then (k, [], 18) else if splitE 3 x.length ≠ 0 then (k, [], splitE 3 x.length) else (idleL k, splitL k.a 3 x, 0)
def cancL (k : Lk) (o : Ou) (ch : Int) : Lk × Ou := if k.st ≠ 0 ∧ k.a = ch then (if k.st = 1 then (idleL k, o) else (k, ⟨o.ps, o.dl, o.ms, true⟩)) else (k, o)
theorem splitL_short (ch cmd : Int) (b : List Int) : (splitL ch cmd b).length ≤ 71 := by
  by_cases he : splitE cmd b.length = 0
  · have hn := split_len ch cmd b he
    have hcd := count_div (c := b.length) (by omega) (by unfold splitE at he; (repeat' split at he) <;> omega)
    omega
  · rw [splitL, if_pos he]
    simp
end Go.Proofs.Ytokeanadhihlfaa.V
