/-
  The utilities' machine as plain data: calls, answers, closures as data, and what each closure does to a machine. No memory in it.
-/
import GoSem.Core.View
namespace Go.Proofs.YtoihipolfdhhnaaGreatDoor

/-- A system call. -/
structure CallD where
  op : Int := 0
  path : ByteArray := ⟨#[]⟩
  as_ : ByteArray := ⟨#[]⟩
  text : ByteArray := ⟨#[]⟩
  fd : Int := 0
  to_ : Int := 0
  n : Int := 0
  mode : Int := 0
  owner : Int := 0
  group : Int := 0
  want : Int := 0
  make : Bool := false
  alone : Bool := false
  empty : Bool := false
  atEnd : Bool := false
  hmode : Int := 0
  line : Bool := false
  dir : Bool := false

structure InfoD where
  ino : Int := 0
  kind : Int := 0
  mode : Int := 0
  owner : Int := 0
  group : Int := 0
  links : Int := 0
  size : Int := 0
  tty : Int := 0

structure CredD where
  real_ : Int := 0
  eff : Int := 0
  saved : Int := 0
  group : Int := 0
  effGroup : Int := 0

/-- An answer. -/
structure Res where
  err : Int := 0
  n : Int := 0
  m : Int := 0
  text : ByteArray := ⟨#[]⟩
  names : List ByteArray := []
  info : InfoD := {}
  may : Int := 0
  cred : CredD := {}

/-- What brings a word to a place. -/
inductive Bring where
  | ren (op : Int)
  | cop

/-- What is done with each word. -/
inductive Ef where
  | cat
  | mk
  | rmd
  | rm (has : ByteArray)
  | gone (p has : ByteArray) (deep : Int)
  | place (at_ : ByteArray) (dir : Bool) (br : Bring)
  | chmod (l : List ByteArray)
  | chown (group : Int) (both : Bool) (owner : Int)
  | ls (long : Bool) (l : List ByteArray) (has : ByteArray)
  | entry (all : Bool) (long : Bool) (dir : ByteArray)

/-- The programs. -/
inductive Dp where
  | tru
  | fls
  | id
  | who
  | cat
  | mkdir
  | rmdir
  | rm
  | ln
  | mv
  | cp
  | chmod
  | chown
  | ls

/-- What is still to be done. -/
inductive Fn where
  | exit0
  | start (d : Dp) (words : List ByteArray)
  | none
  | exit1
  | each (l : List ByteArray) (e : Ef)
  | pours (src dst : Int) (t : Fn)
  | closes (fds : List Int)
  | goneD (p : ByteArray)
  | entries (w : ByteArray) (names : List ByteArray) (has : ByteArray)

/-- What follows on an answer. -/
inductive Rn where
  | say (fd : Int) (text : ByteArray) (t : Fn)
  | tries (p : ByteArray) (t : Rn)
  | id
  | who
  | pours (src dst : Int) (t : Fn)
  | closes (fds : List Int)
  | cat
  | noop (f : Nat)
  | gone (p has : ByteArray) (deep : Int)
  | goneL (p has : ByteArray) (deep : Int)
  | places (l : List ByteArray) (last : Int) (at_ : ByteArray) (br : Bring)
  | copies1 (src dst : ByteArray)
  | copies2 (dst : ByteArray) (mode : Int)
  | copies3 (dst : ByteArray) (a : Res)
  | chmod (l : List ByteArray) (w : ByteArray)
  | chown (group : Int) (both : Bool) (owner : Int) (w : ByteArray)
  | ls1 (w : ByteArray) (long : Bool) (l : List ByteArray) (has : ByteArray)
  | ls2 (l : List ByteArray) (w : ByteArray) (has : ByteArray)
  | entry (n : ByteArray)

structure M where
  prog : ByteArray
  status : Int
  todo : List Fn
  thn : Option Rn
  call : CallD
  over : Bool

/-- The lowest eight bits. -/
def and255 (n : Int) : Int := IntKind.i64.wrap (BitVec.ofInt 64 n &&& BitVec.ofInt 64 255).toNat

def M.sys (m : M) (c : CallD) (t : Rn) : M := { m with call := c, thn := some t }
def M.push (m : M) (k : Fn) : M := { m with todo := m.todo ++ [k] }
def M.exit (m : M) (n : Int) : M := { m with call := { op := 20, n := and255 n }, over := true }

/- TEXTS -/

def bytes (l : List UInt8) : ByteArray := ⟨l.toArray⟩

/-- The errors in words. -/
def apiSay (e : Int) : ByteArray :=
  if e = 0 then ⟨#[102, 105, 110, 101]⟩ else if e = 2 then ⟨#[110, 111, 116, 32, 121, 111, 117, 114, 115]⟩ else if e = 3 then ⟨#[110, 111, 116, 32, 116, 104, 101, 114, 101]⟩ else if e = 4 then ⟨#[110, 111, 116, 32, 97, 108, 108, 111, 119, 101, 100]⟩ else if e = 5 then ⟨#[105, 115, 32, 116, 104, 101, 114, 101]⟩
  else if e = 6 then ⟨#[110, 111, 32, 100, 105, 114, 101, 99, 116, 111, 114, 121]⟩ else if e = 7 then ⟨#[97, 32, 100, 105, 114, 101, 99, 116, 111, 114, 121]⟩ else if e = 8 then ⟨#[105, 110, 32, 117, 115, 101]⟩ else if e = 9 then ⟨#[110, 111, 32, 114, 111, 111, 109]⟩ else if e = 10 then ⟨#[116, 111, 111, 32, 108, 111, 110, 103]⟩
  else if e = 13 then ⟨#[116, 111, 111, 32, 109, 97, 110, 121]⟩ else if e = 12 then ⟨#[116, 111, 111, 32, 109, 97, 110, 121]⟩ else ⟨#[119, 114, 111, 110, 103]⟩

def hasC (s : ByteArray) (c : UInt8) : Bool := s.toList.contains c

/-- Does a text end in another? -/
def endsIn (s t : ByteArray) : Bool := if t.size ≤ s.size then (s.extract (s.size - t.size) s.size).toList == t.toList else false

/-- Does a text begin with another? -/
def beginsWith (s t : ByteArray) : Bool := if t.size ≤ s.size then (s.extract 0 t.size).toList == t.toList else false

/-- A name behind a directory. -/
def join (dir name : ByteArray) : ByteArray :=
  if (dir.toList == []) = true ∨ endsIn dir ⟨#[47]⟩ = true then dir ++ name else dir ++ ⟨#[47]⟩ ++ name

/- WHAT THE CLOSURES DO -/

def M.say (m : M) (fd : Int) (text : ByteArray) (t : Fn) : M := m.sys { op := 5, fd := fd, text := text } (.say fd text t)
def M.complain (m : M) (text : ByteArray) (t : Fn) : M := m.say 2 (m.prog ++ ⟨#[58, 32]⟩ ++ text ++ ⟨#[10]⟩) t
def M.wrong (m : M) : M := m.complain ⟨#[119, 114, 111, 110, 103]⟩ .exit1
def M.bad (m : M) (p : ByteArray) (e : Int) : M := ({ m with status := 1 } : M).complain (p ++ ⟨#[58, 32]⟩ ++ apiSay e) .none
def M.tries (m : M) (c : CallD) (p : ByteArray) (t : Rn) : M := m.sys c (.tries p t)
def M.pours (m : M) (src dst : Int) (t : Fn) : M := m.sys { op := 4, fd := src, n := 256 } (.pours src dst t)
def M.closes (m : M) : List Int → M
  | [] => m
  | fd :: r => m.sys { op := 3, fd := fd } (.closes (fd :: r))
def M.gone (m : M) (p has : ByteArray) (deep : Int) : M :=
  if deep > 24 then m.bad p 10 else m.sys { op := 11, path := p } (.gone p has deep)
def M.bring (m : M) (br : Bring) (src dst : ByteArray) : M :=
  match br with
  | .ren op => m.tries { op := op, path := src, as_ := dst } src (.noop 97)
  | .cop => m.tries { op := 8, path := src } src (.copies1 src dst)

end Go.Proofs.YtoihipolfdhhnaaGreatDoor
