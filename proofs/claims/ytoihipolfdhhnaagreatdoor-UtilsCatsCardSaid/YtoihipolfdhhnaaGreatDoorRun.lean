/-
  What the utilities' machine does, as plain functions on its data; and what each step needs to be within bounds.
-/
import Derived.Test.YtoihipolfdhhnaaGreatDoorClosF
import Derived.Lib.ItoaNum
namespace Go.Proofs.YtoihipolfdhhnaaGreatDoor

def wrap64 (n : Int) : Int := IntKind.i64.wrap n

/-- With what is done with a word. -/
def runE : Ef → ByteArray → M → M
  | .cat, s, m => if (s.toList == [45]) = true then m.pours 0 1 .none else m.tries { op := 2, path := s, want := 4 } s .cat
  | .mk, s, m => m.tries { op := 10, path := s, mode := 511 } s (.noop 86)
  | .rmd, s, m => m.tries { op := 11, path := s, dir := true } s (.noop 86)
  | .rm has, s, m => m.gone s has 0
  | .gone p has deep, s, m => m.gone (join p s) has (wrap64 (deep + 1))
  | _, _, m => m

def okE : Ef → ByteArray → M → Prop
  | .cat, _, _ => True
  | _, _, _ => False

def runEach : List ByteArray → Ef → M → M
  | [], _, m => m
  | s :: l, e, m => runE e s (m.push (.each (s :: l) e))

def okEach : List ByteArray → Ef → M → Prop
  | [], _, _ => True
  | s :: l, e, m => m.todo.length ≤ 1000000 ∧ okE e s (m.push (.each (s :: l) e))

def runD : Dp → List ByteArray → M → M
  | .tru, _, m => m
  | .fls, _, m => { m with status := 1 }
  | .id, _, m => m.sys { op := 22 } .id
  | .cat, [], m => runEach [⟨#[45]⟩] .cat m
  | .cat, l, m => runEach l .cat m
  | _, _, m => m

def okD : Dp → List ByteArray → M → Prop
  | .fls, _, _ => True
  | .id, _, _ => True
  | .cat, l, m => l ≠ [] ∧ okEach l .cat m
  | _, _, _ => False

def runK : Fn → M → M
  | .exit0, m => m.exit m.status
  | .start d ws, m => runD d ws (m.push .exit0)
  | .none, m => m
  | .exit1, m => m.exit 1
  | .each l e, m => runEach l.tail e m
  | .pours s d t, m => m.pours s d t
  | .closes fds, m => m.closes fds
  | _, m => m

def okK : Fn → M → Prop
  | .exit0, _ => True
  | .start d ws, m => m.todo.length ≤ 1000000 ∧ okD d ws (m.push .exit0)
  | .none, _ => True
  | .exit1, _ => True
  | .each l e, m => l ≠ [] ∧ okEach l.tail e m
  | .pours _ _ _, _ => True
  | .closes _, _ => True
  | _, _ => False

/-- The line that id says. -/
def dec (n : Int) : ByteArray := ⟨(Lib.itoa n).toArray⟩

def idText (c : CredD) : ByteArray :=
  let s := (⟨#[117, 105, 100, 61]⟩ : ByteArray) ++ dec c.real_ ++ ⟨#[32, 103, 105, 100, 61]⟩ ++ dec c.group
  let s := if c.eff ≠ c.real_ then s ++ (⟨#[32, 101, 117, 105, 100, 61]⟩ ++ dec c.eff) else s
  let s := if c.effGroup ≠ c.group then s ++ (⟨#[32, 101, 103, 105, 100, 61]⟩ ++ dec c.effGroup) else s
  s ++ ⟨#[10]⟩

def runR : Rn → Res → M → M
  | .say fd text t, r, m => m.said fd text t r (runK t m)
  | .tries p t, r, m => m.tried p r (runR t r m)
  | .pours s d t, r, m => m.poured s d t r (runK t m)
  | .closes fds, _, m => m.closes fds.tail
  | .cat, r, m => m.pours r.n 1 (.closes [r.n])
  | .id, r, m => m.say 1 (idText r.cred) .none
  | _, _, m => m

/-- The numbers of a cred are ints. -/
structure CredIn (c : CredD) : Prop where
  r0 : -9223372036854775808 ≤ c.real_
  r1 : c.real_ ≤ 9223372036854775807
  e0 : -9223372036854775808 ≤ c.eff
  e1 : c.eff ≤ 9223372036854775807
  g0 : -9223372036854775808 ≤ c.group
  g1 : c.group ≤ 9223372036854775807
  f0 : -9223372036854775808 ≤ c.effGroup
  f1 : c.effGroup ≤ 9223372036854775807

def okR : Rn → Res → M → Prop
  | .say _ _ t, _, m => okK t m
  | .tries p t, r, m => m.prog.size + p.size ≤ 1152921504606846976 ∧ (r.err = 0 → okR t r m)
  | .pours _ _ t, _, m => okK t m
  | .closes fds, _, _ => fds ≠ []
  | .cat, _, _ => True
  | .id, r, _ => CredIn r.cred
  | .noop _, _, _ => False
  | _, _, _ => False

/-- The rows are worked off until there is a call: n steps at most. -/
def turn : Nat → M → M
  | 0, m => m
  | n + 1, m => match m.thn, m.over with
    | none, false => match m.todo.getLast? with
      | none => m.exit 0
      | some k => turn n (runK k { m with todo := m.todo.dropLast })
    | _, _ => m

/-- Next. -/
def next (n : Nat) (m : M) (r : Res) : M :=
  if m.over then m else turn n (match m.thn with
    | some t => runR t r { m with thn := none }
    | none => m)

end Go.Proofs.YtoihipolfdhhnaaGreatDoor
