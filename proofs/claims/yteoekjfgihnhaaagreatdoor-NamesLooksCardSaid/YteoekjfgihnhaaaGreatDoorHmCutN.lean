/- Short names for what stands in a written-out memory. -/
import Derived.Test.YteoekjfgihnhaaaGreatDoorHmGRB25
set_option linter.all false
noncomputable section
namespace Go.Am

def qt : AV := .bool true
def qz : AV := .bool false
def qi (n : Nat) : AV := .int .i64 (.ofNat n)
def qu (n : Nat) : AV := .int .u64 (.ofNat n)
def qb (n : Nat) : AV := .int .u8 (.ofNat n)
/-- l letters, the first the lowest. -/
def qw (l : Nat) : Nat → List UInt8 := Nat.rec (motive := fun _ => Nat → List UInt8) (fun _ => []) (fun _ ih n => UInt8.ofNat (Nat.mod n 256) :: ih (Nat.div n 256)) l
def qs (l n : Nat) : AV := .str (qw l n)
def qe : AV := .str []
def qn : AV := .ptr none
def qp (i o : Nat) : AV := .ptr (some ⟨i, o⟩)
def qk (i o n : Nat) : AV := .slice (some ⟨i, o⟩) n (.tip 1)
def ql (i o n : Nat) (c : Cap) : AV := .slice (some ⟨i, o⟩) n c
def qm (i : Nat) : AV := .map (some i)
def qo (i : Nat) (o : Obj) : Nat × Option Obj := (i, some o)
def co (l : List AV) : Obj := .cells l (.own none)
def cv (t : TypeId) (l : List AV) : Obj := .cells l (.var t)
def ct (t : TypeId) (l : List AV) : Obj := .cells l (.own (some t))
end Go.Am
