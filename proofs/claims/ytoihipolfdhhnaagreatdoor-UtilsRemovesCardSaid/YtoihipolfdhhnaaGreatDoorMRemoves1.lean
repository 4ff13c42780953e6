/-
  Part 1 of the proof: Model, Sx, SxOps, SxOps2, SxOps3, SxRun, SxDraw, Tab, Mach, Base, Steps, ClosA, Tail, ClosB, ClosC.
-/
import GoSem.Core.View
import Derived.Calls
import Derived.Laws.Sem
import Derived.Laws.World
import Derived.KernelRfl
import Derived.Laws.Cells
import Derived.Laws.Entries
import Derived.Laws.Small
import Derived.Scope
import Derived.OrdersHeld
import Derived.Test.YtoihipolfdhhnaaGreatDoorProg
import Derived.Laws.AppendOwn
import Derived.Maps.AppendAt
import Derived.Lib.LaidTab
import Derived.Lib.ItoaNum
import Derived.Laws.Strings

namespace Go.Proofs.YtoihipolfdhhnaaGreatDoor

/-- A system call. -/
structure CallD where
  op : Int := 0
  path : ByteArray := ⟨#[]⟩
  as_ : ByteArray := ⟨#[]⟩
  text : ByteArray := ⟨#[]⟩
  fd : Int := 0
  to_ : Int := 0
  n : Int := 0
  mode : Int := 0
  owner : Int := 0
  group : Int := 0
  want : Int := 0
  make : Bool := false
  alone : Bool := false
  empty : Bool := false
  atEnd : Bool := false
  hmode : Int := 0
  line : Bool := false
  dir : Bool := false

structure InfoD where
  ino : Int := 0
  kind : Int := 0
  mode : Int := 0
  owner : Int := 0
  group : Int := 0
  links : Int := 0
  size : Int := 0
  tty : Int := 0

structure CredD where
  real_ : Int := 0
  eff : Int := 0
  saved : Int := 0
  group : Int := 0
  effGroup : Int := 0

/-- An answer. -/
structure Res where
  err : Int := 0
  n : Int := 0
  m : Int := 0
  text : ByteArray := ⟨#[]⟩
  names : List ByteArray := []
  info : InfoD := {}
  may : Int := 0
  cred : CredD := {}

/-- What brings a word to a place. -/
inductive Bring where
  | ren (op : Int)
  | cop

/-- What is done with each word. -/
inductive Ef where
  | cat
  | mk
  | rmd
  | rm (has : ByteArray)
  | gone (p has : ByteArray) (deep : Int)
  | place (at_ : ByteArray) (dir : Bool) (br : Bring)
  | chmod (l : List ByteArray)
  | chown (group : Int) (both : Bool) (owner : Int)
  | ls (long : Bool) (l : List ByteArray) (has : ByteArray)
  | entry (all : Bool) (long : Bool) (dir : ByteArray)

/-- The programs. -/
inductive Dp where
  | tru
  | fls
  | id
  | who
  | cat
  | mkdir
  | rmdir
  | rm
  | ln
  | mv
  | cp
  | chmod
  | chown
  | ls

/-- What is still to be done. -/
inductive Fn where
  | exit0
  | start (d : Dp) (words : List ByteArray)
  | none
  | exit1
  | each (l : List ByteArray) (e : Ef)
  | pours (src dst : Int) (t : Fn)
  | closes (fds : List Int)
  | goneD (p : ByteArray)
  | entries (w : ByteArray) (names : List ByteArray) (has : ByteArray)

/-- What follows on an answer. -/
inductive Rn where
  | say (fd : Int) (text : ByteArray) (t : Fn)
  | tries (p : ByteArray) (t : Rn)
  | id
  | who
  | pours (src dst : Int) (t : Fn)
  | closes (fds : List Int)
  | cat
  | noop (f : Nat)
  | gone (p has : ByteArray) (deep : Int)
  | goneL (p has : ByteArray) (deep : Int)
  | places (l : List ByteArray) (last : Int) (at_ : ByteArray) (br : Bring)
  | copies1 (src dst : ByteArray)
  | copies2 (dst : ByteArray) (mode : Int)
  | copies3 (dst : ByteArray) (a : Res)
  | chmod (l : List ByteArray) (w : ByteArray)
  | chown (group : Int) (both : Bool) (owner : Int) (w : ByteArray)
  | ls1 (w : ByteArray) (long : Bool) (l : List ByteArray) (has : ByteArray)
  | ls2 (l : List ByteArray) (w : ByteArray) (has : ByteArray)
  | entry (n : ByteArray)

structure M where
  prog : ByteArray
  status : Int
  todo : List Fn
  thn : Option Rn
  call : CallD
  over : Bool

/-- The lowest eight bits. -/
def and255 (n : Int) : Int := IntKind.i64.wrap (BitVec.ofInt 64 n &&& BitVec.ofInt 64 255).toNat

def M.sys (m : M) (c : CallD) (t : Rn) : M := { m with call := c, thn := some t }
def M.push (m : M) (k : Fn) : M := { m with todo := m.todo ++ [k] }
def M.exit (m : M) (n : Int) : M := { m with call := { op := 20, n := and255 n }, over := true }

/- TEXTS -/

def bytes (l : List UInt8) : ByteArray := ⟨l.toArray⟩

/-- The errors in words. -/
def apiSay (e : Int) : ByteArray :=
  if e = 0 then ⟨#[102, 105, 110, 101]⟩ else if e = 2 then ⟨#[110, 111, 116, 32, 121, 111, 117, 114, 115]⟩ else if e = 3 then ⟨#[110, 111, 116, 32, 116, 104, 101, 114, 101]⟩ else if e = 4 then ⟨#[110, 111, 116, 32, 97, 108, 108, 111, 119, 101, 100]⟩ else if e = 5 then ⟨#[105, 115, 32, 116, 104, 101, 114, 101]⟩
  else if e = 6 then ⟨#[110, 111, 32, 100, 105, 114, 101, 99, 116, 111, 114, 121]⟩ else if e = 7 then ⟨#[97, 32, 100, 105, 114, 101, 99, 116, 111, 114, 121]⟩ else if e = 8 then ⟨#[105, 110, 32, 117, 115, 101]⟩ else if e = 9 then ⟨#[110, 111, 32, 114, 111, 111, 109]⟩ else if e = 10 then ⟨#[116, 111, 111, 32, 108, 111, 110, 103]⟩
  else if e = 13 then ⟨#[116, 111, 111, 32, 109, 97, 110, 121]⟩ else if e = 12 then ⟨#[116, 111, 111, 32, 109, 97, 110, 121]⟩ else ⟨#[119, 114, 111, 110, 103]⟩

def hasC (s : ByteArray) (c : UInt8) : Bool := s.toList.contains c

/-- Does a text end in another? -/
def endsIn (s t : ByteArray) : Bool := if t.size ≤ s.size then (s.extract (s.size - t.size) s.size).toList == t.toList else false

/-- Does a text begin with another? -/
def beginsWith (s t : ByteArray) : Bool := if t.size ≤ s.size then (s.extract 0 t.size).toList == t.toList else false

/-- A name behind a directory. -/
def join (dir name : ByteArray) : ByteArray :=
  if (dir.toList == []) = true ∨ endsIn dir ⟨#[47]⟩ = true then dir ++ name else dir ++ ⟨#[47]⟩ ++ name

/- WHAT THE CLOSURES DO -/

def M.say (m : M) (fd : Int) (text : ByteArray) (t : Fn) : M := m.sys { op := 5, fd := fd, text := text } (.say fd text t)
def M.complain (m : M) (text : ByteArray) (t : Fn) : M := m.say 2 (m.prog ++ ⟨#[58, 32]⟩ ++ text ++ ⟨#[10]⟩) t
def M.wrong (m : M) : M := m.complain ⟨#[119, 114, 111, 110, 103]⟩ .exit1
def M.bad (m : M) (p : ByteArray) (e : Int) : M := ({ m with status := 1 } : M).complain (p ++ ⟨#[58, 32]⟩ ++ apiSay e) .none
def M.tries (m : M) (c : CallD) (p : ByteArray) (t : Rn) : M := m.sys c (.tries p t)
def M.pours (m : M) (src dst : Int) (t : Fn) : M := m.sys { op := 4, fd := src, n := 256 } (.pours src dst t)
def M.closes (m : M) : List Int → M
  | [] => m
  | fd :: r => m.sys { op := 3, fd := fd } (.closes (fd :: r))
def M.gone (m : M) (p has : ByteArray) (deep : Int) : M :=
  if deep > 24 then m.bad p 10 else m.sys { op := 11, path := p } (.gone p has deep)
def M.bring (m : M) (br : Bring) (src dst : ByteArray) : M :=
  match br with
  | .ren op => m.tries { op := op, path := src, as_ := dst } src (.noop 97)
  | .cop => m.tries { op := 8, path := src } src (.copies1 src dst)

end Go.Proofs.YtoihipolfdhhnaaGreatDoor

namespace Go.Proofs.YtoihipolfdhhnaaGreatDoor

/-- A captured pointer: of a named block, or of a real address. -/
inductive PP where
  | n (b o : Nat)
  | r (a : Addr)

/-- A value of one cell. -/
inductive C where
  | int (k : IntKind) (n : Int)
  | str (s : ByteArray)
  | bool (b : Bool)
  | p (b o : Nat)
  | rp (a : Addr)
  | nilp
  | f (fn : FuncId) (caps : List PP)
  | fv (fn : FuncId) (caps : Array Value)
  | nilf
  | sl (a : Option Addr) (n c : Nat)
  | nsl (b o n c : Nat)
  | ifc (t : TypeId) (x : Value)
  | nili
  | undef

inductive E where
  | c (x : C)
  | a (l : List C)

inductive SV where
  | e (x : E)
  | t (l : List E)

def PP.real (ρ : Nat → Nat) : PP → Value
  | .n b o => .pointer (some ⟨ρ b, o, none⟩)
  | .r a => .pointer (some a)

def C.real (ρ : Nat → Nat) : C → Value
  | .int k n => .int k n
  | .str s => .string s
  | .bool b => .bool b
  | .p b o => .pointer (some ⟨ρ b, o, none⟩)
  | .rp a => .pointer (some a)
  | .nilp => .pointer none
  | .f fn caps => .func (.func fn) #[] (caps.map (PP.real ρ)).toArray
  | .fv fn caps => .func (.func fn) #[] caps
  | .nilf => .nilFunc
  | .sl a n c => .slice a n c
  | .nsl b o n c => .slice (some ⟨ρ b, o, none⟩) n c
  | .ifc t x => .iface t x
  | .nili => .nilIface
  | .undef => Go.undef

def E.real (ρ : Nat → Nat) : E → Value
  | .c x => x.real ρ
  | .a l => .agg (l.map (C.real ρ)).toArray

def SV.real (ρ : Nat → Nat) : SV → Value
  | .e x => x.real ρ
  | .t l => .tuple (l.map (E.real ρ)).toArray

/-- May the value stand in a cell? -/
def C.cell : C → Bool
  | .undef => false
  | _ => true

def E.cells : E → List C
  | .c x => [x]
  | .a l => l

theorem C.real_oneCell (ρ : Nat → Nat) (x : C) (h : x.cell = true) : (x.real ρ).oneCell' = true := by
  cases x <;> first | rfl | (simp [C.cell] at h)

theorem Value.cells_of_oneCell {v : Value} (h : v.oneCell' = true) : v.cells = #[v] := by
  cases v <;> first | rfl | (simp [Value.oneCell'] at h)

theorem C.real_cells (ρ : Nat → Nat) (x : C) (h : x.cell = true) : (x.real ρ).cells = #[x.real ρ] :=
  Value.cells_of_oneCell (C.real_oneCell ρ x h)

theorem E.real_cells (ρ : Nat → Nat) (x : E) (h : x.cells.all C.cell = true) : (x.real ρ).cells = (x.cells.map (C.real ρ)).toArray := by
  cases x with
  | c x => simp only [E.cells, List.all_cons, List.all_nil, Bool.and_true] at h; simpa [E.real, E.cells] using C.real_cells ρ x h
  | a l => rfl

/-- A value of the model without pointers, as one of ours. -/
def C.ofV : Value → Option C
  | .int k n => some (.int k n)
  | .string s => some (.str s)
  | .bool b => some (.bool b)
  | .pointer none => some .nilp
  | .nilFunc => some .nilf
  | .nilIface => some .nili
  | .slice a n c => some (.sl a n c)
  | .func (.func fn) ⟨[]⟩ cap => some (.fv fn cap)
  | _ => none

theorem C.ofV_real {v : Value} {x : C} (h : C.ofV v = some x) (ρ : Nat → Nat) : x.real ρ = v := by
  unfold C.ofV at h
  split at h <;> first | (cases h; rfl) | (cases h)

def C.ofVs : List Value → Option (List C)
  | [] => some []
  | v :: l => match C.ofV v, C.ofVs l with
    | some x, some r => some (x :: r)
    | _, _ => none

theorem C.ofVs_real : ∀ {l : List Value} {r : List C}, C.ofVs l = some r → ∀ ρ, r.map (C.real ρ) = l
  | [], r, h, ρ => by simp only [C.ofVs, Option.some.injEq] at h; subst h; rfl
  | v :: l, r, h, ρ => by
    unfold C.ofVs at h
    split at h
    · rename_i x r' hx hr
      cases h
      simp only [List.map_cons, C.ofV_real hx ρ, C.ofVs_real hr ρ]
    · cases h

def E.ofV : Value → Option E
  | .agg cs => (C.ofVs cs.toList).map .a
  | v => (C.ofV v).map .c

theorem E.ofV_real {v : Value} {x : E} (h : E.ofV v = some x) (ρ : Nat → Nat) : x.real ρ = v := by
  unfold E.ofV at h
  split at h
  · rename_i cs
    cases hc : C.ofVs cs.toList with
    | none => simp [hc] at h
    | some r =>
      simp only [hc, Option.map_some, Option.some.injEq] at h
      subst h
      simp [E.real, C.ofVs_real hc ρ]
  · rename_i hv
    cases hc : C.ofV v with
    | none => simp [hc] at h
    | some r =>
      simp only [hc, Option.map_some, Option.some.injEq] at h
      subst h
      simpa [E.real] using C.ofV_real hc ρ

/-- A named block: its type, its cells. -/
structure NB where
  ty : TypeId
  cs : List C

/-- What is known of a type. -/
inductive Kd where
  | str
  | slice (e : TypeId)
  | func
  | ptr
  | int (k : IntKind)
  | bool
  | struct (fl : List (TypeId × Nat))
  | other

structure TI where
  size : Nat
  agg : Bool
  zero : List C
  kd : Kd

def Kd.fits (d : TypeDesc) : Kd → Prop
  | .str => d = .string
  | .slice e => d = .slice e
  | .func => ∃ p r v, d = .func p r v
  | .ptr => ∃ e, d = .pointer e
  | .int k => d = .int k
  | .bool => d = .bool
  | .struct fl => ∃ fs, d = .struct fs ∧ fs.toList.map (fun f => (f.type, f.offset)) = fl
  | .other => True

structure TIok (P : Program) (t : TypeId) (i : TI) : Prop where
  info : ∃ j, P.info? t = some j ∧ j.size = i.size ∧ ∃ z, j.zero = some z ∧ ∀ ρ, z.cells = (i.zero.map (C.real ρ)).toArray
  und : ∃ d, P.underlying t = some d ∧ (match d with | .struct _ | .array _ _ => true | _ => false) = i.agg ∧ i.kd.fits d

def Tabs (P : Program) (T : TypeId → Option TI) : Prop := ∀ t i, T t = some i → TIok P t i

/-- What an obligation may speak of. -/
structure Env where
  ρ : Nat → Nat
  n0 : Nat
  wb : World
  ro : Addr → Option Value := fun _ => none

structure St where
  tl : List (Nat × SV)
  bs : List NB
  orc : List Bool := []
  ext : List SV := []
  ob : List (Env → Prop) := []

def St.holds (σ : St) (ε : Env) : Prop := ∀ p ∈ σ.ob, p ε

def lk (d : Nat) : List (Nat × SV) → Option SV
  | [] => none
  | (x, v) :: l => if x = d then some v else lk d l

def St.put (σ : St) (dst : Option Nat) (v : SV) : St :=
  match dst with
  | some d => { σ with tl := (d, v) :: σ.tl }
  | none => σ

def ev (σ : St) : Operand → Option SV
  | .tmp t => lk t σ.tl
  | .const v => (E.ofV v).map .e
  | .func f => some (.e (.c (.f f [])))
  | .global g => some (.e (.c (.rp ⟨g, 0, none⟩)))

def evE (σ : St) (x : Operand) : Option E :=
  match ev σ x with
  | some (.e y) => some y
  | _ => none

def evC (σ : St) (x : Operand) : Option C :=
  match ev σ x with
  | some (.e (.c y)) => some y
  | _ => none

/-- The relation of the slots. -/
def TRel (ρ : Nat → Nat) (tl : List (Nat × SV)) (tmps : Array Value) : Prop :=
  ∀ d v, lk d tl = some v → tmps[d]? = some (v.real ρ)

/-- The relation of the memory: ρ names the blocks; below n0 they were there in wb. -/
structure Rel (ε : Env) (bs : List NB) (w : World) : Prop where
  cells : ∀ i b, bs[i]? = some b → w.heap[ε.ρ i]? = some (.cells (b.cs.map (C.real ε.ρ)).toArray b.ty (0, 0))
  inj : ∀ i j, i < bs.length → j < bs.length → ε.ρ i = ε.ρ j → i = j
  n0 : ε.n0 ≤ bs.length
  size : w.heap.size = ε.wb.heap.size + (bs.length - ε.n0)
  new : ∀ i, ε.n0 ≤ i → ε.ρ i = ε.wb.heap.size + (i - ε.n0)
  old : ∀ i, i < ε.n0 → ε.ρ i < ε.wb.heap.size
  keep : ∀ k, k < ε.wb.heap.size → (∀ i, i < ε.n0 → ε.ρ i ≠ k) → w.heap[k]? = ε.wb.heap[k]?
  ro : ∀ a v, ε.ro a = some v → w.cell? a = some v ∧ ∀ i, i < bs.length → ε.ρ i ≠ a.block
  os : w.os = ε.wb.os
  tape : w.tape = ε.wb.tape
  output : w.output = ε.wb.output

/-- What a reader needs of the memory. -/
structure Sees (ε : Env) (bs : List NB) (w : World) : Prop where
  cells : ∀ i b, bs[i]? = some b → w.heap[ε.ρ i]? = some (.cells (b.cs.map (C.real ε.ρ)).toArray b.ty (0, 0))
  ro : ∀ a v, ε.ro a = some v → w.cell? a = some v

theorem Rel.sees {ε : Env} {bs : List NB} {w : World} (h : Rel ε bs w) : Sees ε bs w := ⟨h.cells, fun a v hv => (h.ro a v hv).1⟩

theorem TRel.put {ρ : Nat → Nat} {tl : List (Nat × SV)} {tmps : Array Value} (h : TRel ρ tl tmps) (d : Nat) (hd : d < tmps.size) (v : SV) :
    TRel ρ ((d, v) :: tl) (tmps.setIfInBounds d (v.real ρ)) := by
  intro d' v' h'
  simp only [lk] at h'
  split at h'
  · rename_i e; subst e; cases h'; simp [hd]
  · rename_i e; rw [Array.getElem?_setIfInBounds_ne e]; exact h d' v' h'

theorem ev_ok {ρ : Nat → Nat} {σ : St} {a : Act} (h : TRel ρ σ.tl a.tmps) {x : Operand} {v : SV} (hx : ev σ x = some v) : a.eval x = v.real ρ := by
  cases x with
  | tmp t =>
    have := h t v hx
    simp [Act.eval, this]
  | const c =>
    simp only [ev] at hx
    cases hc : E.ofV c with
    | none => simp [hc] at hx
    | some e =>
      simp only [hc, Option.map_some, Option.some.injEq] at hx
      subst hx
      simp [Act.eval, SV.real, E.ofV_real hc ρ]
  | func f => simp only [ev, Option.some.injEq] at hx; subst hx; rfl
  | global g => simp only [ev, Option.some.injEq] at hx; subst hx; rfl

theorem evE_ok {ρ : Nat → Nat} {σ : St} {a : Act} (h : TRel ρ σ.tl a.tmps) {x : Operand} {v : E} (hx : evE σ x = some v) : a.eval x = v.real ρ := by
  unfold evE at hx
  split at hx
  · rename_i y hy; cases hx; simpa [SV.real] using ev_ok h hy
  · cases hx

theorem evC_ok {ρ : Nat → Nat} {σ : St} {a : Act} (h : TRel ρ σ.tl a.tmps) {x : Operand} {v : C} (hx : evC σ x = some v) : a.eval x = v.real ρ := by
  unfold evC at hx
  split at hx
  · rename_i y hy; cases hx; simpa [SV.real, E.real] using ev_ok h hy
  · cases hx

/-- A new block. -/
theorem Rel.alloc {ε : Env} {bs : List NB} {w : World} (h : Rel ε bs w) (b : NB) :
    Rel ε (bs ++ [b]) (w.alloc (.cells (b.cs.map (C.real ε.ρ)).toArray b.ty)) ∧ ε.ρ bs.length = w.heap.size := by
  have hn : ε.ρ bs.length = w.heap.size := by rw [h.new _ h.n0, h.size]
  refine ⟨⟨?_, ?_, by simp; have := h.n0; omega, by simp [h.size]; have := h.n0; omega, h.new, h.old, ?_, ?_, h.os, h.tape, h.output⟩, hn⟩
  · intro i c hc
    by_cases hi : i < bs.length
    · rw [List.getElem?_append_left hi] at hc
      have h1 := h.cells i c hc
      have : ε.ρ i < w.heap.size := by
        rcases Nat.lt_or_ge (ε.ρ i) w.heap.size with h2 | h2
        · exact h2
        · rw [Array.getElem?_eq_none h2] at h1; cases h1
      show (w.heap.push _)[ε.ρ i]? = _
      rw [Array.getElem?_push, if_neg (by omega)]; exact h1
    · rw [List.getElem?_append_right (by omega)] at hc
      have hi' : i = bs.length := by
        rcases Nat.lt_or_ge 0 (i - bs.length) with h2 | h2
        · rw [List.getElem?_eq_none (by simp; omega)] at hc; cases hc
        · omega
      subst hi'
      simp only [Nat.sub_self, List.getElem?_cons_zero, Option.some.injEq] at hc
      subst hc
      show (w.heap.push _)[_]? = _
      rw [hn, Array.getElem?_push, if_pos rfl]
  · intro i j hi hj e
    simp only [List.length_append, List.length_cons, List.length_nil, Nat.zero_add] at hi hj
    have hlt : ∀ k, k < bs.length → ε.ρ k < w.heap.size := by
      intro k hk
      have h1 := h.cells k bs[k] (List.getElem?_eq_getElem hk)
      rcases Nat.lt_or_ge (ε.ρ k) w.heap.size with h2 | h2
      · exact h2
      · rw [Array.getElem?_eq_none h2] at h1; cases h1
    by_cases hi' : i < bs.length <;> by_cases hj' : j < bs.length
    · exact h.inj i j hi' hj' e
    · have : j = bs.length := by omega
      subst this
      have := hlt i hi'
      omega
    · have : i = bs.length := by omega
      subst this
      have := hlt j hj'
      omega
    · omega
  · intro k hk hne
    show (w.heap.push _)[k]? = _
    rw [Array.getElem?_push, if_neg (by rw [h.size]; omega)]
    exact h.keep k hk hne
  · intro a v hv
    obtain ⟨h1, h2⟩ := h.ro a v hv
    have hlt := World.block_lt_of_cell? w a h1
    refine ⟨by rw [World.cell?_alloc_old _ _ _ (by omega)]; exact h1, fun i hi => ?_⟩
    simp only [List.length_append, List.length_cons, List.length_nil, Nat.zero_add] at hi
    by_cases hi' : i < bs.length
    · exact h2 i hi'
    · have : i = bs.length := by omega
      subst this
      omega

/-- A block that is written. -/
theorem Rel.set {ε : Env} {bs : List NB} {w : World} (h : Rel ε bs w) {b : Nat} {nb : NB} (hb : bs[b]? = some nb) (cs : List C) :
    Rel ε (bs.set b ⟨nb.ty, cs⟩) { w with heap := w.heap.setIfInBounds (ε.ρ b) (.cells (cs.map (C.real ε.ρ)).toArray nb.ty (0, 0)) } := by
  have hbl : b < bs.length := (List.getElem?_eq_some_iff.1 hb).1
  have hlt : ε.ρ b < w.heap.size := by
    have h1 := h.cells b nb hb
    rcases Nat.lt_or_ge (ε.ρ b) w.heap.size with h2 | h2
    · exact h2
    · rw [Array.getElem?_eq_none h2] at h1; cases h1
  refine ⟨?_, by simpa using h.inj, by simpa using h.n0, by simpa using h.size, h.new, h.old, ?_, ?_, h.os, h.tape, h.output⟩
  · intro i c hc
    show (w.heap.setIfInBounds (ε.ρ b) _)[ε.ρ i]? = _
    by_cases hi : i = b
    · subst hi
      rw [List.getElem?_set_self hbl] at hc
      cases hc
      rw [Array.getElem?_setIfInBounds_self_of_lt hlt]
    · rw [List.getElem?_set_ne (by omega)] at hc
      have hil : i < bs.length := (List.getElem?_eq_some_iff.1 hc).1
      rw [Array.getElem?_setIfInBounds_ne (fun e => hi (h.inj i b hil hbl e.symm))]
      exact h.cells i c hc
  · intro k hk hne
    show (w.heap.setIfInBounds (ε.ρ b) _)[k]? = _
    by_cases hb0 : b < ε.n0
    · rw [Array.getElem?_setIfInBounds_ne (hne b hb0)]; exact h.keep k hk hne
    · rw [Array.getElem?_setIfInBounds_ne (by rw [h.new b (by omega)]; omega)]; exact h.keep k hk hne
  · intro a v hv
    obtain ⟨h1, h2⟩ := h.ro a v hv
    refine ⟨?_, by simpa using h2⟩
    have hne := h2 b hbl
    have : (w.heap.setIfInBounds (ε.ρ b) (.cells (cs.map (C.real ε.ρ)).toArray nb.ty (0, 0)))[a.block]? = w.heap[a.block]? := Array.getElem?_setIfInBounds_ne hne
    simp only [World.cell?, this]
    exact h1

end Go.Proofs.YtoihipolfdhhnaaGreatDoor

namespace Go.Proofs.YtoihipolfdhhnaaGreatDoor

/-- The model's answer, as the executor foretells it. -/
def Foretold (ε : Env) (σ : St) (r : Option SV) (σ' : St) (res : Result Next) : Prop :=
  σ'.tl = σ.tl ∧
  ∃ w', Rel ε σ'.bs w' ∧ res = .ok (match r with | some v => .value (v.real ε.ρ) | none => .skip) w'

/-- The answer of an operation that only reads. -/
def ReadOk (ε : Env) (σ : St) (r : Option SV) (σ' : St) (res : Result Next) (w : World) : Prop :=
  ∃ v, r = some v ∧ σ'.bs = σ.bs ∧ σ'.tl = σ.tl ∧ res = .ok (.value (v.real ε.ρ)) w

theorem ReadOk.foretold {ε : Env} {σ : St} {r : Option SV} {σ' : St} {res : Result Next} {w : World} (h : ReadOk ε σ r σ' res w) (hrel : Rel ε σ.bs w) : Foretold ε σ r σ' res := by
  obtain ⟨v, rfl, hb, ht, hr⟩ := h
  exact ⟨ht, w, by rw [hb]; exact hrel, hr⟩

theorem addr_add (b o n : Nat) : (⟨b, o, none⟩ : Addr).add n = ⟨b, o + n, none⟩ := by
  unfold Addr.add
  by_cases h : n = 0
  · simp [h]
  · simp [h]

/- MEMORY -/

def splice (cs : List C) (o : Nat) (vs : List C) : List C := cs.take o ++ vs ++ cs.drop (o + vs.length)

def xLoad (T : TypeId → Option TI) (t : TypeId) (x : Operand) (σ : St) : Option (Option SV × St) :=
  match T t, evC σ x with
  | some i, some (.p b o) =>
    match σ.bs[b]? with
    | some nb =>
      if i.agg then
        if o + i.size ≤ nb.cs.length then some (some (.e (.a ((nb.cs.drop o).take i.size))), σ) else none
      else match nb.cs[o]? with
        | some c => some (some (.e (.c c)), σ)
        | none => none
    | none => none
  | some i, some (.rp a) =>
    match σ.ext with
    | .e v :: rest =>
      match i.agg, v with
      | true, .a l => if l.length = i.size then
          some (some (.e v), { σ with ext := rest, ob := σ.ob ++ [fun ε => ∀ j x, l[j]? = some x → ε.ro (a.add j) = some (x.real ε.ρ)] })
        else none
      | false, .c x => some (some (.e v), { σ with ext := rest, ob := σ.ob ++ [fun ε => ε.ro a = some (x.real ε.ρ)] })
      | _, _ => none
    | _ => none
  | _, _ => none

theorem Sees.cell? {ε : Env} {bs : List NB} {w : World} (h : Sees ε bs w) {b : Nat} {nb : NB} (hb : bs[b]? = some nb) (o : Nat) :
    w.cell? ⟨ε.ρ b, o, none⟩ = (nb.cs[o]?).map (C.real ε.ρ) := by
  simp [World.cell?, h.cells b nb hb]

theorem run_typeInfo' {P : Program} {t : TypeId} {i : TypeInfo} (h : P.info? t = some i) (w : World) : (typeInfo t).run P w = .ok i w := by
  simp [typeInfo, h]

theorem run_sizeOf' {P : Program} {t : TypeId} {i : TI} (h : TIok P t i) (w : World) : (sizeOf t).run P w = .ok i.size w := by
  obtain ⟨j, hj, hs, _⟩ := h.info
  simp [sizeOf, run_typeInfo' hj, hs]

theorem run_isAgg' {P : Program} {t : TypeId} {i : TI} (h : TIok P t i) (w : World) : (isAgg t).run P w = .ok i.agg w := by
  obtain ⟨d, hd, ha, _⟩ := h.und
  rw [← ha]
  cases d <;> simp [isAgg, run_underlying hd]

theorem run_zeroValue' {P : Program} {t : TypeId} {i : TI} (h : TIok P t i) (w : World) (ρ : Nat → Nat) :
    ∃ z, (zeroValue t).run P w = .ok z w ∧ z.cells = (i.zero.map (C.real ρ)).toArray := by
  obtain ⟨j, hj, _, z, hz, hc⟩ := h.info
  exact ⟨z, by simp [zeroValue, run_typeInfo' hj, hz], hc ρ⟩

theorem take_drop_get (l : List C) (o n j : Nat) (h : j < n) : ((l.drop o).take n)[j]? = l[o + j]? := by
  rw [List.getElem?_take_of_lt h, List.getElem?_drop]

theorem xLoad_ok {P : Program} {T : TypeId → Option TI} (hT : Tabs P T) {t : TypeId} {x : Operand} {σ σ' : St} {r : Option SV} {a : Act} {w : World} {ε : Env}
    (h : xLoad T t x σ = some (r, σ')) (htl : TRel ε.ρ σ.tl a.tmps) (hrel : Sees ε σ.bs w) (hob : σ'.holds ε) :
    ReadOk ε σ r σ' ((Instr.loadAt t (a.eval x) >>= fun v => pure (Next.value v)).run P w) w := by
  unfold xLoad at h
  split at h
  · rename_i i b o hi hx
    have he := evC_ok htl hx
    have hok := hT t i hi
    split at h
    · rename_i nb hb
      split at h
      · rename_i ha
        split at h
        · rename_i hsz
          cases h
          refine ⟨_, rfl, rfl, rfl, ?_⟩
          have hl := run_loadCells_list (P := P) w ⟨ε.ρ b, o, none⟩ (((nb.cs.drop o).take i.size).map (C.real ε.ρ)) (fun j v hj => by
            rw [addr_add, hrel.cell? hb]
            rw [List.getElem?_map] at hj
            have hjl : j < i.size := by
              rcases Nat.lt_or_ge j i.size with h2 | h2
              · exact h2
              · rw [List.getElem?_eq_none (by simp; omega)] at hj; cases hj
            rw [take_drop_get _ _ _ _ hjl] at hj
            exact hj)
          have hlen : (((nb.cs.drop o).take i.size).map (C.real ε.ρ)).length = i.size := by simp; omega
          rw [hlen] at hl
          simp [Instr.loadAt, he, C.real, Instr.sureAddr, loadVar, run_isAgg' hok, ha, run_sizeOf' hok, hl, SV.real, E.real]
        · cases h
      · rename_i ha
        split at h
        · rename_i c hc
          cases h
          refine ⟨_, rfl, rfl, rfl, ?_⟩
          have := hrel.cell? hb o
          rw [hc] at this
          simp [Instr.loadAt, he, C.real, Instr.sureAddr, loadVar, run_isAgg' hok, ha, this, SV.real, E.real]
        · cases h
    · cases h
  · rename_i i ad hi hx
    have he := evC_ok htl hx
    have hok := hT t i hi
    split at h
    · rename_i v rest hext
      split at h
      · rename_i l ha
        split at h
        · rename_i hlen
          cases h
          refine ⟨_, rfl, rfl, rfl, ?_⟩
          have h3 := hob _ (List.mem_append.2 (.inr (List.mem_singleton.2 rfl)))
          have hl := run_loadCells_list (P := P) w ad (l.map (C.real ε.ρ)) (fun j v hj => by
            rw [List.getElem?_map] at hj
            cases hlj : l[j]? with
            | none => rw [hlj] at hj; cases hj
            | some y =>
              rw [hlj] at hj
              cases hj
              exact hrel.ro _ _ (h3 j y hlj))
          simp only [List.length_map, hlen] at hl
          simp [Instr.loadAt, he, C.real, Instr.sureAddr, loadVar, run_isAgg' hok, ha, run_sizeOf' hok, hl, SV.real, E.real]
        · cases h
      · rename_i y ha
        cases h
        refine ⟨_, rfl, rfl, rfl, ?_⟩
        have h3 := hob _ (List.mem_append.2 (.inr (List.mem_singleton.2 rfl)))
        have := hrel.ro _ _ h3
        simp [Instr.loadAt, he, C.real, Instr.sureAddr, loadVar, run_isAgg' hok, ha, this, SV.real, E.real]
      · cases h
    · cases h
  · cases h

/- STORES -/

theorem list_step {α : Type} (cur : List α) (m : Nat) (v : α) (vs : List α) (h : m + (vs.length + 1) ≤ cur.length) :
    (cur.set m v).take (m + 1) ++ vs ++ (cur.set m v).drop (m + 1 + vs.length) = cur.take m ++ v :: vs ++ cur.drop (m + (vs.length + 1)) := by
  rw [List.set_eq_take_append_cons_drop, if_pos (by omega)]
  have hA : (cur.take m).length = m := by simp; omega
  have h1 : (cur.take m ++ v :: cur.drop (m + 1)).take (m + 1) = cur.take m ++ [v] := by
    rw [List.take_append, hA, show m + 1 - m = 1 from by omega, List.take_of_length_le (by omega)]; rfl
  have h2 : (cur.take m ++ v :: cur.drop (m + 1)).drop (m + 1 + vs.length) = cur.drop (m + (vs.length + 1)) := by
    rw [List.drop_append, hA, List.drop_of_length_le (by omega), show m + 1 + vs.length - m = vs.length + 1 from by omega, List.nil_append, List.drop_succ_cons, List.drop_drop]
    congr 1; omega
  rw [h1, h2]; simp

theorem run_storeCells_blk (P : Program) (g o : Nat) (ty : TypeId) : ∀ (vs : List Value) (i : Nat) (cur : List Value) (w : World),
    w.heap[g]? = some (.cells cur.toArray ty (0, 0)) → o + i + vs.length ≤ cur.length → (∀ v ∈ vs, v.oneCell' = true) →
    (storeCells ⟨g, o, none⟩ vs i).run P w = .ok () { w with heap := w.heap.setIfInBounds g (.cells (cur.take (o + i) ++ vs ++ cur.drop (o + i + vs.length)).toArray ty (0, 0)) }
  | [], i, cur, w, hg, _, _ => by
    have hlt : g < w.heap.size := (Array.getElem?_eq_some_iff.1 hg).1
    have hge : w.heap[g] = .cells cur.toArray ty (0, 0) := (Array.getElem?_eq_some_iff.1 hg).2
    simp only [storeCells, Sem.run_pure, List.append_nil, List.length_nil, Nat.add_zero, List.take_append_drop]
    congr 1
    rw [← hge]
    have : w.heap.setIfInBounds g w.heap[g] = w.heap := by
      apply Array.ext_getElem?
      intro k
      rw [Array.getElem?_setIfInBounds]
      split
      · rename_i e; subst e; simp [hlt]
      · rfl
    rw [this]
  | v :: vs, i, cur, w, hg, hl, h1 => by
    have hv := h1 v (by simp)
    simp only [List.length_cons] at hl
    have hc : w.cell? ⟨g, o + i, none⟩ = some (cur[o + i]'(by omega)) := by
      simp only [World.cell?, hg, Option.isSome_none, Bool.false_eq_true, if_false, List.getElem?_toArray]
      rw [List.getElem?_eq_getElem (by omega)]
    have hf : w.frozen? ⟨g, o + i, none⟩ = false := by simp [World.frozen?, hg]
    have hst := run_store P w ⟨g, o + i, none⟩ v .plain hv
    rw [hc] at hst
    simp only [hf, Bool.false_eq_true, if_false] at hst
    have hset : w.setCell ⟨g, o + i, none⟩ v = { w with heap := w.heap.setIfInBounds g (.cells (cur.set (o + i) v).toArray ty (0, 0)) } := by
      unfold World.setCell
      congr 1
      apply Array.ext'
      apply List.ext_getElem?
      intro k
      simp only [Array.getElem?_toList, Array.getElem?_modify, Array.getElem?_setIfInBounds]
      have hlt : g < w.heap.size := (Array.getElem?_eq_some_iff.1 hg).1
      by_cases hk : g = k
      · subst hk; simp [hlt]
        have hge : w.heap[g] = .cells cur.toArray ty (0, 0) := (Array.getElem?_eq_some_iff.1 hg).2
        simp [hge]
      · simp [hk]
    have ih := run_storeCells_blk P g o ty vs (i + 1) (cur.set (o + i) v) { w with heap := w.heap.setIfInBounds g (.cells (cur.set (o + i) v).toArray ty (0, 0)) }
      (by have hlt : g < w.heap.size := (Array.getElem?_eq_some_iff.1 hg).1; simp [Array.getElem?_setIfInBounds_self_of_lt hlt]) (by simp; omega) (fun x hx => h1 x (by simp [hx]))
    simp only [storeCells, Sem.run_bind, addr_add, hst, Result.andThen_ok, hset, ih]
    congr 1
    simp only [Array.setIfInBounds_setIfInBounds]
    congr 3
    apply congrArg List.toArray
    have := list_step cur (o + i) v vs (by omega)
    rw [show o + (i + 1) = o + i + 1 from by omega, this]
    rfl

def xStore (T : TypeId → Option TI) (t : TypeId) (x y : Operand) (σ : St) : Option (Option SV × St) :=
  match T t, evC σ x, evE σ y with
  | some i, some (.p b o), some v =>
    match σ.bs[b]? with
    | some nb =>
      if v.cells.length = i.size ∧ o + v.cells.length ≤ nb.cs.length ∧ v.cells.all C.cell = true then
        some (none, { σ with bs := σ.bs.set b ⟨nb.ty, splice nb.cs o v.cells⟩ })
      else none
    | none => none
  | _, _, _ => none

theorem xStore_ok {P : Program} {T : TypeId → Option TI} (hT : Tabs P T) {t : TypeId} {x y : Operand} {σ σ' : St} {r : Option SV} {a : Act} {w : World} {ε : Env}
    (h : xStore T t x y σ = some (r, σ')) (htl : TRel ε.ρ σ.tl a.tmps) (hrel : Rel ε σ.bs w) :
    Foretold ε σ r σ' ((Instr.storeAt t (a.eval x) (a.eval y) >>= fun _ => pure Next.skip).run P w) := by
  unfold xStore at h
  split at h
  · rename_i i b o v hi hx hy
    have hex := evC_ok htl hx
    have hey := evE_ok htl hy
    have hok := hT t i hi
    split at h
    · rename_i nb hb
      split at h
      · rename_i hc
        cases h
        refine ⟨rfl, _, hrel.set hb (splice nb.cs o v.cells), ?_⟩
        have hcells := E.real_cells ε.ρ v hc.2.2
        have hst := run_storeCells_blk P (ε.ρ b) o nb.ty (v.cells.map (C.real ε.ρ)) 0 (nb.cs.map (C.real ε.ρ)) w (hrel.cells b nb hb) (by simpa using hc.2.1)
          (fun z hz => by
            obtain ⟨c, hc1, rfl⟩ := List.mem_map.1 hz
            exact C.real_oneCell _ _ (List.all_eq_true.1 hc.2.2 c hc1))
        simp only [Nat.add_zero, List.length_map, ← List.map_take, ← List.map_drop, ← List.map_append] at hst
        simp [Instr.storeAt, hex, hey, C.real, Instr.sureAddr, storeVar, hcells, run_sizeOf' hok, hc.1, hst, splice]
      · cases h
    · cases h
  · cases h

/- NEW BLOCKS -/

def xAlloc (T : TypeId → Option TI) (t : TypeId) (σ : St) : Option (Option SV × St) :=
  match T t with
  | some i => some (some (.e (.c (.p σ.bs.length 0))), { σ with bs := σ.bs ++ [⟨t, i.zero⟩] })
  | none => none

theorem xAlloc_ok {P : Program} {T : TypeId → Option TI} (hT : Tabs P T) {t : TypeId} {σ σ' : St} {r : Option SV} {w : World} {ε : Env}
    (h : xAlloc T t σ = some (r, σ')) (hrel : Rel ε σ.bs w) :
    Foretold ε σ r σ' ((Instr.alloc t true (.tuple #[]) >>= fun v => pure (Next.value v)).run P w) := by
  unfold xAlloc at h
  split at h
  · rename_i i hi
    cases h
    obtain ⟨h1, h2⟩ := hrel.alloc ⟨t, i.zero⟩
    refine ⟨rfl, _, h1, ?_⟩
    obtain ⟨z, hz, hc⟩ := run_zeroValue' (hT t i hi) w ε.ρ
    simp [Instr.alloc, hz, newVar, newRow, hc, SV.real, E.real, C.real, h2]
  · cases h

def xBox (t : TypeId) (x : Operand) (σ : St) : Option (Option SV × St) :=
  match evE σ x with
  | some v => if v.cells.all C.cell = true then some (some (.e (.c (.p σ.bs.length 0))), { σ with bs := σ.bs ++ [⟨t, v.cells⟩] }) else none
  | none => none

theorem xBox_ok {P : Program} {t : TypeId} {x : Operand} {σ σ' : St} {r : Option SV} {a : Act} {w : World} {ε : Env}
    (h : xBox t x σ = some (r, σ')) (htl : TRel ε.ρ σ.tl a.tmps) (hrel : Rel ε σ.bs w) :
    Foretold ε σ r σ' ((Instr.box t (a.eval x) >>= fun v => pure (Next.value v)).run P w) := by
  unfold xBox at h
  split at h
  · rename_i v hv
    split at h
    · rename_i hc
      cases h
      obtain ⟨h1, h2⟩ := hrel.alloc ⟨t, v.cells⟩
      refine ⟨rfl, _, h1, ?_⟩
      have he := evE_ok htl hv
      have hcells := E.real_cells ε.ρ v hc
      rw [← he] at hcells
      simp [Instr.box, newVar, newRow, hcells, SV.real, E.real, C.real, h2]
    · cases h
  · cases h

/- STRUCTS -/

def xFill (place : Nat → Option (Nat × Nat)) (cells : List C) : List (Nat × E) → Option (List C)
  | [] => some cells
  | (i, v) :: rest =>
    match place i with
    | none => none
    | some (off, size) =>
      if v.cells.length = size ∧ off + v.cells.length ≤ cells.length ∧ v.cells.all C.cell = true then xFill place (splice cells off v.cells) rest else none

theorem foldl_splice (off : Nat) : ∀ (vs : List Value) (k : Nat) (cs : List Value), off + k + vs.length ≤ cs.length →
    (vs.zipIdx k).foldl (fun (c : Array Value) (x : Value × Nat) => c.setIfInBounds (off + x.2) x.1) cs.toArray = (cs.take (off + k) ++ vs ++ cs.drop (off + k + vs.length)).toArray
  | [], k, cs, _ => by simp
  | v :: vs, k, cs, h => by
    simp only [List.length_cons] at h
    have ih := foldl_splice off vs (k + 1) (cs.set (off + k) v) (by simp; omega)
    simp only [List.zipIdx_cons, List.foldl_cons]
    have hs : cs.toArray.setIfInBounds (off + k) v = (cs.set (off + k) v).toArray := by simp
    rw [hs, ih]
    apply congrArg List.toArray
    have := list_step cs (off + k) v vs (by omega)
    rw [show off + (k + 1) = off + k + 1 from by omega, this]
    rfl

theorem xFill_ok (place : Nat → Option (Nat × Nat)) (ρ : Nat → Nat) : ∀ (parts : List (Nat × E)) (cells out : List C), xFill place cells parts = some out →
    Instr.fill place (cells.map (C.real ρ)).toArray (parts.map fun x => (x.1, x.2.real ρ)) = some (out.map (C.real ρ)).toArray
  | [], cells, out, h => by simp only [xFill, Option.some.injEq] at h; subst h; rfl
  | (i, v) :: rest, cells, out, h => by
    simp only [xFill] at h
    split at h
    · cases h
    · rename_i off size hp
      split at h
      · rename_i hc
        have ih := xFill_ok place ρ rest _ out h
        have hcells := E.real_cells ρ v hc.2.2
        simp only [List.map_cons, Instr.fill, hp, hcells]
        rw [if_neg (by simp; omega)]
        have := foldl_splice off (v.cells.map (C.real ρ)) 0 (cells.map (C.real ρ)) (by simpa using hc.2.1)
        simp only [Nat.add_zero, List.length_map] at this
        rw [← ih]
        congr 1
        rw [← Array.foldl_toList, Array.toList_zipIdx]
        rw [this]
        simp [splice]
      · cases h

def evParts (σ : St) : List (Nat × Operand) → Option (List (Nat × E))
  | [] => some []
  | (i, x) :: r => match evE σ x, evParts σ r with
    | some v, some l => some ((i, v) :: l)
    | _, _ => none

theorem evParts_ok {ρ : Nat → Nat} {σ : St} {a : Act} (h : TRel ρ σ.tl a.tmps) : ∀ {l : List (Nat × Operand)} {r : List (Nat × E)}, evParts σ l = some r →
    l.map (fun (x : Nat × Operand) => (x.1, a.eval x.2)) = r.map (fun x => (x.1, x.2.real ρ))
  | [], r, hr => by simp only [evParts, Option.some.injEq] at hr; subst hr; rfl
  | (i, x) :: l, r, hr => by
    unfold evParts at hr
    split at hr
    · rename_i v l' hv hl
      cases hr
      simp only [List.map_cons, evE_ok h hv, evParts_ok h hl]
    · cases hr

def placesOf (T : TypeId → Option TI) : List (TypeId × Nat) → Option (List (Nat × Nat))
  | [] => some []
  | (t, o) :: r => match T t, placesOf T r with
    | some i, some l => some ((o, i.size) :: l)
    | _, _ => none

def xBuild (T : TypeId → Option TI) (t : TypeId) (parts : Array (Nat × Operand)) (σ : St) : Option (Option SV × St) :=
  match T t with
  | some i => match i.kd with
    | .struct fl => match placesOf T fl, evParts σ parts.toList with
      | some pl, some ps => match xFill (fun k => pl[k]?) i.zero ps with
        | some cs => some (some (.e (.a cs)), σ)
        | none => none
      | _, _ => none
    | _ => none
  | none => none

theorem run_mapM_list {α β : Type} (P : Program) (w : World) (f : α → Sem β) (g : α → β) : ∀ (l : List α), (∀ x ∈ l, (f x).run P w = .ok (g x) w) → (l.mapM f).run P w = .ok (l.map g) w
  | [], _ => by simp
  | x :: l, h => by
    have h1 := h x (by simp)
    have ih := run_mapM_list P w f g l (fun y hy => h y (by simp [hy]))
    simp [List.mapM_cons, h1, ih]

theorem run_places {P : Program} {T : TypeId → Option TI} (hT : Tabs P T) (w : World) : ∀ (fl : List (TypeId × Nat)) (pl : List (Nat × Nat)), placesOf T fl = some pl →
    ∀ (fs : List Field), fs.map (fun (f : Field) => (f.type, f.offset)) = fl → (fs.mapM fun (f : Field) => do pure (f.offset, ← sizeOf f.type)).run P w = .ok pl w
  | [], pl, h, fs, hfs => by
    have : fs = [] := by simpa using hfs
    subst this
    simp only [placesOf, Option.some.injEq] at h; subst h; simp
  | (t, o) :: fl, pl, h, fs, hfs => by
    unfold placesOf at h
    split at h
    · rename_i i l hi hl
      cases h
      cases fs with
      | nil => cases hfs
      | cons f fs =>
        simp only [List.map_cons, List.cons.injEq, Prod.mk.injEq] at hfs
        obtain ⟨⟨h1, h2⟩, h3⟩ := hfs
        have ih := run_places hT w fl l hl fs h3
        have hs := run_sizeOf' (hT t i hi) w
        rw [← h1] at hs
        rw [List.mapM_cons]
        simp only [Sem.run_bind, hs, Result.andThen_ok, Sem.run_pure, ih, h2]
    · cases h

theorem xBuild_ok {P : Program} {T : TypeId → Option TI} (hT : Tabs P T) {t : TypeId} {parts : Array (Nat × Operand)} {σ σ' : St} {r : Option SV} {a : Act} {w : World} {ε : Env}
    (h : xBuild T t parts σ = some (r, σ')) (htl : TRel ε.ρ σ.tl a.tmps) :
    ReadOk ε σ r σ' ((Instr.build t (parts.map fun (i, x) => (i, a.eval x)) >>= fun v => pure (Next.value v)).run P w) w := by
  unfold xBuild at h
  split at h
  · rename_i i hi
    have hok := hT t i hi
    split at h
    · rename_i fl hk
      split at h
      · rename_i pl ps hpl hps
        split at h
        · rename_i cs hcs
          cases h
          refine ⟨_, rfl, rfl, rfl, ?_⟩
          obtain ⟨z, hz, hc⟩ := run_zeroValue' hok w ε.ρ
          obtain ⟨d, hd, _, hkd⟩ := hok.und
          rw [hk] at hkd
          obtain ⟨fs, rfl, hfl⟩ := hkd
          have hp := run_places hT w fl pl hpl fs.toList hfl
          have hfill := xFill_ok (fun k => pl[k]?) ε.ρ ps i.zero cs hcs
          have hparts : (parts.map fun (i, x) => (i, a.eval x)).toList = ps.map fun x => (x.1, x.2.real ε.ρ) := by
            rw [Array.toList_map]; exact evParts_ok htl hps
          have hm : (fs.mapM fun (f : Field) => do pure (f.offset, ← sizeOf f.type) : Sem (Array (Nat × Nat))) = List.toArray <$> (fs.toList.mapM fun (f : Field) => do pure (f.offset, ← sizeOf f.type)) := by
            rw [Array.mapM_eq_mapM_toList]
          have hplace : (fun (k : Nat) => pl.toArray[k]?) = fun (k : Nat) => pl[k]? := by funext k; simp
          simp only [Instr.build, Sem.run_bind, hz, Result.andThen_ok, hc, run_underlying hd, hm, Sem.run_map, hp, hparts, hplace, hfill, Sem.run_pure]
          rfl
        · cases h
      · cases h
    · cases h
  · cases h

end Go.Proofs.YtoihipolfdhhnaaGreatDoor

namespace Go.Proofs.YtoihipolfdhhnaaGreatDoor

/- PLACES -/

def xNil (x : Operand) (σ : St) : Option (Option SV × St) :=
  match evC σ x with
  | some (.p b o) => some (some (.e (.c (.p b o))), σ)
  | some (.rp a) => some (some (.e (.c (.rp a))), σ)
  | some (.f fn l) => some (some (.e (.c (.f fn l))), σ)
  | some (.fv fn l) => some (some (.e (.c (.fv fn l))), σ)
  | _ => none

def xField (T : TypeId → Option TI) (s : TypeId) (x : Operand) (k : Nat) (σ : St) : Option (Option SV × St) :=
  match T s with
  | some i => match i.kd with
    | .struct fl => match fl[k]? with
      | some (t, off) => match T t with
        | some j => if j.size = 0 then none else
          match evC σ x with
          | some (.p b o) => some (some (.e (.c (.p b (o + off)))), σ)
          | some (.rp a) => some (some (.e (.c (.rp (a.add off)))), σ)
          | _ => none
        | none => none
      | none => none
    | _ => none
  | none => none

theorem getElem?_fields {fs : Array Field} {fl : List (TypeId × Nat)} (h : fs.toList.map (fun (f : Field) => (f.type, f.offset)) = fl) {k : Nat} {t : TypeId} {off : Nat}
    (hk : fl[k]? = some (t, off)) : ∃ f, fs[k]? = some f ∧ f.type = t ∧ f.offset = off := by
  subst h
  rw [List.getElem?_map] at hk
  cases hf : fs.toList[k]? with
  | none => rw [hf] at hk; cases hk
  | some f =>
    rw [hf] at hk
    simp only [Option.map_some, Option.some.injEq, Prod.mk.injEq] at hk
    exact ⟨f, by simpa using hf, hk.1, hk.2⟩

theorem xField_ok {P : Program} {T : TypeId → Option TI} (hT : Tabs P T) {s : TypeId} {x : Operand} {k : Nat} {σ σ' : St} {r : Option SV} {a : Act} {w : World} {ε : Env}
    (h : xField T s x k σ = some (r, σ')) (htl : TRel ε.ρ σ.tl a.tmps) :
    ReadOk ε σ r σ' ((Instr.fieldAt s (a.eval x) k >>= fun v => pure (Next.value v)).run P w) w := by
  unfold xField at h
  split at h
  · rename_i i hi
    split at h
    · rename_i fl hk
      split at h
      · rename_i t off hf
        split at h
        · rename_i j hj
          split at h
          · cases h
          · rename_i hz
            obtain ⟨d, hd, _, hkd⟩ := (hT s i hi).und
            rw [hk] at hkd
            obtain ⟨fs, rfl, hfl⟩ := hkd
            obtain ⟨f, h1, h2, h3⟩ := getElem?_fields hfl hf
            have hs := run_sizeOf' (hT t j hj) w
            rw [← h2] at hs
            split at h
            · rename_i b o hx
              have he := evC_ok htl hx
              cases h
              refine ⟨_, rfl, rfl, rfl, ?_⟩
              simp [Instr.fieldAt, run_underlying hd, h1, he, C.real, Instr.sureAddr, fieldPlace, hs, hz, h3, addr_add, SV.real, E.real]
            · rename_i ad hx
              have he := evC_ok htl hx
              cases h
              refine ⟨_, rfl, rfl, rfl, ?_⟩
              simp [Instr.fieldAt, run_underlying hd, h1, he, C.real, Instr.sureAddr, fieldPlace, hs, hz, h3, SV.real, E.real]
            · cases h
        · cases h
      · cases h
    · cases h
  · cases h

/-- A field of a struct's value. -/
def xPart (T : TypeId → Option TI) (s : TypeId) (x : Operand) (k : Nat) (σ : St) : Option (Option SV × St) :=
  match T s with
  | some i => match i.kd with
    | .struct fl => match fl[k]? with
      | some (t, off) => match T t, evE σ x with
        | some j, some (.a cs) =>
          if j.agg then some (some (.e (.a ((cs.take (off + j.size)).drop off))), σ)
          else match cs[off]? with
            | some c => some (some (.e (.c c)), σ)
            | none => none
        | _, _ => none
      | none => none
    | _ => none
  | none => none

theorem xPart_ok {P : Program} {T : TypeId → Option TI} (hT : Tabs P T) {s : TypeId} {x : Operand} {k : Nat} {σ σ' : St} {r : Option SV} {a : Act} {w : World} {ε : Env}
    (h : xPart T s x k σ = some (r, σ')) (htl : TRel ε.ρ σ.tl a.tmps) :
    ReadOk ε σ r σ' ((Instr.field s (a.eval x) k >>= fun v => pure (Next.value v)).run P w) w := by
  unfold xPart at h
  split at h
  · rename_i i hi
    split at h
    · rename_i fl hk
      split at h
      · rename_i t off hf
        obtain ⟨d, hd, _, hkd⟩ := (hT s i hi).und
        rw [hk] at hkd
        obtain ⟨fs, rfl, hfl⟩ := hkd
        obtain ⟨f, h1, h2, h3⟩ := getElem?_fields hfl hf
        split at h
        · rename_i j cs hj hx
          have he := evE_ok htl hx
          have hs := run_sizeOf' (hT t j hj) w
          have hA := run_isAgg' (hT t j hj) w
          split at h
          · rename_i hag
            cases h
            refine ⟨_, rfl, rfl, rfl, ?_⟩
            simp only [Instr.field, Sem.run_bind, run_underlying hd, Result.andThen_ok, h1, he, E.real, asAgg, Sem.run_pure, part, h2, h3, hA, hag, if_true, hs, SV.real]
            congr 3
            simp [List.map_drop, List.map_take]
            rw [List.drop_take]
            congr 1
            omega
          · rename_i hag
            split at h
            · rename_i c hc
              cases h
              refine ⟨_, rfl, rfl, rfl, ?_⟩
              simp [Instr.field, run_underlying hd, h1, he, E.real, asAgg, part, h2, h3, hA, hag, hc, SV.real]
            · cases h
        · cases h
      · cases h
    · cases h
  · cases h

/- NUMBERS, TEXTS -/

/-- A test: the next bit says how it ends. -/
def ask (b : Bool) (σ : St) : Option (Option SV × St) :=
  match σ.orc with
  | o :: rest => some (some (.e (.c (.bool o))), { σ with orc := rest, ob := σ.ob ++ [fun _ => b = o] })
  | [] => none

theorem ask_ok {b : Bool} {σ σ' : St} {r : Option SV} {w : World} {ε : Env} (h : ask b σ = some (r, σ')) (hob : σ'.holds ε) {res : Result Next}
    (hr : res = .ok (.value (.bool b)) w) : ReadOk ε σ r σ' res w := by
  unfold ask at h
  split at h
  · rename_i o rest ho
    cases h
    have := hob _ (List.mem_append.2 (.inr (List.mem_singleton.2 rfl)))
    refine ⟨_, rfl, rfl, rfl, ?_⟩
    rw [hr, this]; rfl
  · cases h

def cmpI (op : BinOp) (x y : Int) : Option Bool :=
  match op with
  | .eql => some (x == y)
  | .neq => some (x != y)
  | .lss => some (decide (x < y))
  | .leq => some (decide (x ≤ y))
  | .gtr => some (decide (x > y))
  | .geq => some (decide (x ≥ y))
  | _ => none

def arI (op : BinOp) (k : IntKind) (x y : Int) : Option Int :=
  match op with
  | .add => some (k.wrap (x + y))
  | .sub => some (k.wrap (x - y))
  | .mul => some (k.wrap (x * y))
  | .and => some (k.wrap (BitVec.ofInt k.bits x &&& BitVec.ofInt k.bits y).toNat)
  | .or => some (k.wrap (BitVec.ofInt k.bits x ||| BitVec.ofInt k.bits y).toNat)
  | .andNot => some (k.wrap (BitVec.ofInt k.bits x &&& ~~~BitVec.ofInt k.bits y).toNat)
  | .xor => some (k.wrap (BitVec.ofInt k.bits x ^^^ BitVec.ofInt k.bits y).toNat)
  | _ => none

/-- What a divisor of nothing forbids. -/
def dvI (op : BinOp) (k : IntKind) (x y : Int) : Option Int :=
  match op with
  | .quo => some (k.wrap (x.tdiv y))
  | .rem => some (x.tmod y)
  | _ => none

def shI (op : BinOp) (k : IntKind) (x y : Int) : Option Int :=
  match op with
  | .shl => some (k.wrap (x * 2 ^ (min y.toNat k.bits)))
  | .shr => some (x.fdiv (2 ^ (min y.toNat k.bits)))
  | _ => none

def cmpS (op : BinOp) (x y : ByteArray) : Option Bool :=
  match op with
  | .eql => some (x.toList == y.toList)
  | .neq => some (!(x.toList == y.toList))
  | _ => none

def kEq : IntKind → IntKind → Bool
  | .i8, .i8 | .i16, .i16 | .i32, .i32 | .i64, .i64 | .u8, .u8 | .u16, .u16 | .u32, .u32 | .u64, .u64 => true
  | _, _ => false

theorem kEq_eq {a b : IntKind} (h : kEq a b = true) : a = b := by
  cases a <;> cases b <;> first | rfl | (simp [kEq] at h)

def eqB (op : BinOp) (b : Bool) : Option Bool :=
  match op with
  | .eql => some b
  | .neq => some !b
  | _ => none

def xBin (T : TypeId → Option TI) (op : BinOp) (xt : TypeId) (x y : Operand) (σ : St) : Option (Option SV × St) :=
  match evC σ x, evC σ y with
  | some (.int k a), some (.int k' b) =>
    match shI op k a b with
    | some n => some (some (.e (.c (.int k n))), { σ with ob := σ.ob ++ [fun _ => 0 ≤ b] })
    | none =>
    if kEq k k' then
      match cmpI op a b with
      | some t => ask t σ
      | none => match arI op k a b with
        | some n => some (some (.e (.c (.int k n))), σ)
        | none => match dvI op k a b with
          | some n => some (some (.e (.c (.int k n))), { σ with ob := σ.ob ++ [fun _ => b ≠ 0] })
          | none => none
    else none
  | some (.str a), some (.str b) =>
    match op with
    | .add => some (some (.e (.c (.str (a ++ b)))), { σ with ob := σ.ob ++ [fun _ => ((a.size + b.size : Nat) : Int) ≤ 9223372036854775807] })
    | _ => match cmpS op a b with
      | some t => ask t σ
      | none => none
  | some (.f _ _), some .nilf | some (.fv _ _), some .nilf => match T xt, eqB op false with
    | some ⟨_, _, _, .func⟩, some t => some (some (.e (.c (.bool t))), σ)
    | _, _ => none
  | some .nilf, some .nilf => match T xt, eqB op true with
    | some ⟨_, _, _, .func⟩, some t => some (some (.e (.c (.bool t))), σ)
    | _, _ => none
  | some (.p _ _), some .nilp | some (.rp _), some .nilp => match T xt, eqB op false with
    | some ⟨_, _, _, .ptr⟩, some t => some (some (.e (.c (.bool t))), σ)
    | _, _ => none
  | some .nilp, some .nilp => match T xt, eqB op true with
    | some ⟨_, _, _, .ptr⟩, some t => some (some (.e (.c (.bool t))), σ)
    | _, _ => none
  | some (.bool a), some (.bool b) => match T xt, eqB op (a == b) with
    | some ⟨_, _, _, .bool⟩, some t => ask t σ
    | _, _ => none
  | _, _ => none

theorem maxI64 : IntKind.i64.max = 9223372036854775807 := rfl

theorem eqGuard_ok {P : Program} {w : World} (op : BinOp) (t : TypeId) (x y : Operand) (a b : Value) (ha : a.oneCell' = true) (hi : a ≠ .nilIface) :
    (eqGuard op t x y a b).run P w = .ok () w := by
  unfold eqGuard
  by_cases h : (!(op matches .eql | .neq)) = true
  · cases op <;> cases a <;> simp_all [Value.oneCell']
  · cases op <;> cases a <;> cases b <;> simp_all [Value.oneCell']

theorem run_binOp_int {P : Program} {w : World} {k : IntKind} {op : BinOp} {xt : TypeId} {a b : Int} :
    (∀ t, cmpI op a b = some t → (binOp op xt (.int k a) (.int k b)).run P w = .ok (.bool t) w) ∧
    (∀ n, cmpI op a b = none → arI op k a b = some n → (binOp op xt (.int k a) (.int k b)).run P w = .ok (.int k n) w) := by
  constructor
  · intro t h
    cases op <;> simp only [cmpI, Option.some.injEq, reduceCtorEq] at h <;> subst h <;> simp [binOp, Op.intCmp]
  · intro n h0 h
    cases op <;> simp only [arI, Option.some.injEq, reduceCtorEq] at h <;> first | (subst h; simp [binOp, Op.intArith, Op.intBits]) | (simp [cmpI] at h0)

theorem run_dvI {P : Program} {w : World} {k : IntKind} {op : BinOp} {xt : TypeId} {a b n : Int} (h : dvI op k a b = some n) (hb : b ≠ 0) : (binOp op xt (.int k a) (.int k b)).run P w = .ok (.int k n) w := by
  cases op <;> simp only [dvI, Option.some.injEq, reduceCtorEq] at h <;> subst h <;> simp [binOp, Op.intDiv, hb]

theorem run_shI {P : Program} {w : World} {k k' : IntKind} {op : BinOp} {xt : TypeId} {a b n : Int} (h : shI op k a b = some n) (hb : 0 ≤ b) : (binOp op xt (.int k a) (.int k' b)).run P w = .ok (.int k n) w := by
  have : ¬ b < 0 := by omega
  cases op <;> simp only [shI, Option.some.injEq, reduceCtorEq] at h <;> subst h <;> simp [binOp, Op.shift, this]

theorem run_eqB {P : Program} {w : World} {t : TypeId} {x y : Value} {e b : Bool} {op : BinOp} (hb : eqB op e = some b)
    (he : ∀ d, (Op.equalIn (d + 1) t x y).run P w = .ok e w) (h1 : binOp .eql t x y = (do pure (.bool (← Op.equal t x y)))) (h2 : binOp .neq t x y = (do pure (.bool (!(← Op.equal t x y))))) :
    (binOp op t x y).run P w = .ok (.bool b) w := by
  have h := he 9999
  have h' : (Op.equal t x y).run P w = .ok e w := h
  cases op <;> simp only [eqB, Option.some.injEq, reduceCtorEq] at hb <;> subst hb
  · rw [h1]; simp only [Sem.run_bind, h', Result.andThen_ok, Sem.run_pure]
  · rw [h2]; simp only [Sem.run_bind, h', Result.andThen_ok, Sem.run_pure]

theorem xBin_ok {P : Program} {T : TypeId → Option TI} (hT : Tabs P T) {op : BinOp} {xt : TypeId} {x y : Operand} {σ σ' : St} {r : Option SV} {a : Act} {w : World} {ε : Env}
    (h : xBin T op xt x y σ = some (r, σ')) (htl : TRel ε.ρ σ.tl a.tmps) (hob : σ'.holds ε) :
    ReadOk ε σ r σ' (((do eqGuard op xt x y (a.eval x) (a.eval y); binOp op xt (a.eval x) (a.eval y)) >>= fun v => pure (Next.value v)).run P w) w := by
  have hg : ∀ (u v : Value), u.oneCell' = true → u ≠ .nilIface → ∀ z, (binOp op xt u v).run P w = .ok z w →
      a.eval x = u → a.eval y = v → ((do eqGuard op xt x y (a.eval x) (a.eval y); binOp op xt (a.eval x) (a.eval y)) >>= fun v => pure (Next.value v)).run P w = .ok (.value z) w := by
    intro u v hu hi z hz e1 e2
    simp only [Sem.run_bind, e1, e2, eqGuard_ok op xt x y u v hu hi, Result.andThen_ok, hz, Sem.run_pure]
  unfold xBin at h
  split at h
  · rename_i k m k' n hx hy
    have hex := evC_ok htl hx
    have hey := evC_ok htl hy
    split at h
    · rename_i z hz
      cases h
      have ho := hob _ (List.mem_append.2 (.inr (List.mem_singleton.2 rfl)))
      exact ⟨_, rfl, rfl, rfl, hg _ _ (by rfl) (by simp) _ (run_shI hz ho) hex hey⟩
    split at h
    · rename_i hk
      have := kEq_eq hk
      subst this
      split at h
      · rename_i t ht
        exact ask_ok h hob (hg _ _ (by rfl) (by simp) _ (run_binOp_int.1 t ht) hex hey)
      · rename_i hc
        split at h
        · rename_i z hz
          cases h
          exact ⟨_, rfl, rfl, rfl, hg _ _ (by rfl) (by simp) _ (run_binOp_int.2 z hc hz) hex hey⟩
        · split at h
          · rename_i z hz
            cases h
            have ho := hob _ (List.mem_append.2 (.inr (List.mem_singleton.2 rfl)))
            exact ⟨_, rfl, rfl, rfl, hg _ _ (by rfl) (by simp) _ (run_dvI hz ho) hex hey⟩
          · cases h
    · cases h
  · rename_i s t hx hy
    have hex := evC_ok htl hx
    have hey := evC_ok htl hy
    split at h
    · cases h
      have ho := hob _ (List.mem_append.2 (.inr (List.mem_singleton.2 rfl)))
      refine ⟨_, rfl, rfl, rfl, hg _ _ (by rfl) (by simp [C.real]) _ ?_ hex hey⟩
      have : ¬ (((s.size + t.size : Nat) : Int) > IntKind.i64.max) := by rw [maxI64]; omega
      simp only [C.real, binOp, Op.stringOp, if_neg this, Sem.run_pure]
      rfl
    · split at h
      · rename_i b hb
        refine ask_ok h hob (hg _ _ (by rfl) (by simp [C.real]) _ ?_ hex hey)
        cases op <;> simp only [cmpS, Option.some.injEq, reduceCtorEq] at hb <;> subst hb <;> simp [C.real, binOp, Op.stringOp]
      · cases h
  · rename_i hx hy
    have hex := evC_ok htl hx
    have hey := evC_ok htl hy
    split at h
    · rename_i t hi ht
      cases h
      obtain ⟨d, hd, _, p, q, v, rfl⟩ := (hT xt _ hi).und
      refine ⟨_, rfl, rfl, rfl, hg _ _ (by rfl) (by simp [C.real]) _ ?_ hex hey⟩
      exact run_eqB ht (fun d => by simp [C.real, Op.equalIn, run_underlying hd]) rfl rfl
    · cases h
  · rename_i hx hy
    have hex := evC_ok htl hx
    have hey := evC_ok htl hy
    split at h
    · rename_i t hi ht
      cases h
      obtain ⟨d, hd, _, p, q, v, rfl⟩ := (hT xt _ hi).und
      refine ⟨_, rfl, rfl, rfl, hg _ _ (by rfl) (by simp [C.real]) _ ?_ hex hey⟩
      exact run_eqB ht (fun d => by simp [C.real, Op.equalIn, run_underlying hd]) rfl rfl
    · cases h
  · rename_i hx hy
    have hex := evC_ok htl hx
    have hey := evC_ok htl hy
    split at h
    · rename_i t hi ht
      cases h
      obtain ⟨d, hd, _, p, q, v, rfl⟩ := (hT xt _ hi).und
      refine ⟨_, rfl, rfl, rfl, hg _ _ (by rfl) (by simp [C.real]) _ ?_ hex hey⟩
      exact run_eqB ht (fun d => by simp [C.real, Op.equalIn, run_underlying hd]) rfl rfl
    · cases h
  · rename_i hx hy
    have hex := evC_ok htl hx
    have hey := evC_ok htl hy
    split at h
    · rename_i t hi ht
      cases h
      obtain ⟨d, hd, _, e, rfl⟩ := (hT xt _ hi).und
      refine ⟨_, rfl, rfl, rfl, hg _ _ (by rfl) (by simp [C.real]) _ ?_ hex hey⟩
      exact run_eqB ht (fun d => by simp [C.real, Op.equalIn, run_underlying hd]) rfl rfl
    · cases h
  · rename_i hx hy
    have hex := evC_ok htl hx
    have hey := evC_ok htl hy
    split at h
    · rename_i t hi ht
      cases h
      obtain ⟨d, hd, _, e, rfl⟩ := (hT xt _ hi).und
      refine ⟨_, rfl, rfl, rfl, hg _ _ (by rfl) (by simp [C.real]) _ ?_ hex hey⟩
      exact run_eqB ht (fun d => by simp [C.real, Op.equalIn, run_underlying hd]) rfl rfl
    · cases h
  · rename_i hx hy
    have hex := evC_ok htl hx
    have hey := evC_ok htl hy
    split at h
    · rename_i t hi ht
      cases h
      obtain ⟨d, hd, _, e, rfl⟩ := (hT xt _ hi).und
      refine ⟨_, rfl, rfl, rfl, hg _ _ (by rfl) (by simp [C.real]) _ ?_ hex hey⟩
      exact run_eqB ht (fun d => by simp [C.real, Op.equalIn, run_underlying hd]) rfl rfl
    · cases h
  · rename_i s t hx hy
    have hex := evC_ok htl hx
    have hey := evC_ok htl hy
    split at h
    · rename_i z hi ht
      have hu := (hT xt _ hi).und
      obtain ⟨d, hd, _, hkd⟩ := hu
      simp only [Kd.fits] at hkd
      subst hkd
      refine ask_ok h hob (hg _ _ (by rfl) (by simp [C.real]) _ ?_ hex hey)
      exact run_eqB ht (fun d => by simp [C.real, Op.equalIn, run_underlying hd]) rfl rfl
    · cases h
  · cases h

end Go.Proofs.YtoihipolfdhhnaaGreatDoor

namespace Go.Proofs.YtoihipolfdhhnaaGreatDoor

/- LENGTHS -/

def xLen (T : TypeId → Option TI) (t : TypeId) (x : Operand) (σ : St) : Option (Option SV × St) :=
  match T t, evC σ x with
  | some ⟨_, _, _, .str⟩, some (.str s) => some (some (.e (.c (.int .i64 s.size))), σ)
  | some ⟨_, _, _, .slice _⟩, some (.sl _ n _) => some (some (.e (.c (.int .i64 n))), σ)
  | some ⟨_, _, _, .slice _⟩, some (.nsl _ _ n _) => some (some (.e (.c (.int .i64 n))), σ)
  | _, _ => none

theorem xLen_ok {P : Program} {T : TypeId → Option TI} (hT : Tabs P T) {t ty : TypeId} {x : Operand} {σ σ' : St} {r : Option SV} {a : Act} {w : World} {ε : Env}
    (h : xLen T t x σ = some (r, σ')) (htl : TRel ε.ρ σ.tl a.tmps) :
    ReadOk ε σ r σ' ((builtin .len #[t] ty #[false] #[a.eval x]).run P w) w ∧ ReadOk ε σ r σ' ((builtin .len #[t] ty #[true] #[a.eval x]).run P w) w := by
  unfold xLen at h
  split at h
  · rename_i hi hx
    have he := evC_ok htl hx
    obtain ⟨d, hd, _, hk⟩ := (hT t _ hi).und
    simp only [Kd.fits] at hk
    subst hk
    cases h
    constructor <;> exact ⟨_, rfl, rfl, rfl, by simp [builtin, Builtin.len_, run_underlying hd, he, C.real, SV.real, E.real, goInt]⟩
  · rename_i hi hx
    have he := evC_ok htl hx
    obtain ⟨d, hd, _, hk⟩ := (hT t _ hi).und
    simp only [Kd.fits] at hk
    subst hk
    cases h
    constructor <;> exact ⟨_, rfl, rfl, rfl, by simp [builtin, Builtin.len_, run_underlying hd, he, C.real, SV.real, E.real, goInt]⟩
  · rename_i hi hx
    have he := evC_ok htl hx
    obtain ⟨d, hd, _, hk⟩ := (hT t _ hi).und
    simp only [Kd.fits] at hk
    subst hk
    cases h
    constructor <;> exact ⟨_, rfl, rfl, rfl, by simp [builtin, Builtin.len_, run_underlying hd, he, C.real, SV.real, E.real, goInt]⟩
  · cases h

/- PIECES -/

/-- A bound's number; none: there is no bound. -/
def evI (σ : St) : Option Operand → Option (Option Int)
  | none => some none
  | some x => match evC σ x with
    | some (.int _ n) => some (some n)
    | _ => none

theorem evI_ok {ρ : Nat → Nat} {σ : St} {a : Act} (h : TRel ρ σ.tl a.tmps) {x : Option Operand} {v : Option Int} (hx : evI σ x = some v) :
    (x = none ∧ v = none) ∨ ∃ o k n, x = some o ∧ v = some n ∧ a.eval o = .int k n := by
  cases x with
  | none => simp only [evI, Option.some.injEq] at hx; exact .inl ⟨rfl, hx.symm⟩
  | some o =>
    simp only [evI] at hx
    split at hx
    · rename_i k n hc
      cases hx
      exact .inr ⟨o, k, n, rfl, rfl, evC_ok h hc⟩
    · cases hx

def loOf (l : Option Int) : Nat := (l.getD 0).toNat
def hiOf (h : Option Int) (n : Nat) : Nat := match h with | some x => x.toNat | none => n
def okLo (l : Option Int) (h : Nat) : Prop := match l with | some x => 0 ≤ x ∧ x ≤ (h : Int) | none => True

theorem run_sliceBounds {P : Program} {w : World} {ρ : Nat → Nat} {σ : St} {a : Act} (htl : TRel ρ σ.tl a.tmps) {lo hi : Option Operand} {l h : Option Int} (hl : evI σ lo = some l) (hh : evI σ hi = some h)
    (isSlice : Bool) (len cap : Nat) (h1 : okLo h cap) (h2 : okLo l (hiOf h len)) :
    (Instr.sliceBounds isSlice len cap (lo.map a.eval) (hi.map a.eval) none).run P w = .ok (loOf l, hiOf h len, cap) w := by
  rcases evI_ok htl hl with ⟨rfl, rfl⟩ | ⟨o, k, n, rfl, rfl, he⟩ <;> rcases evI_ok htl hh with ⟨rfl, rfl⟩ | ⟨o', k', n', rfl, rfl, he'⟩
  · simp [Instr.sliceBounds, loOf, hiOf]
  · simp only [okLo] at h1
    simp [Instr.sliceBounds, loOf, hiOf, he', Instr.sliceBound, asIntOf, h1]
  · simp only [okLo, hiOf] at h2
    simp [Instr.sliceBounds, loOf, hiOf, he, Instr.sliceBound, asIntOf, h2]
  · simp only [okLo, hiOf] at h1 h2
    simp [Instr.sliceBounds, loOf, hiOf, he, he', Instr.sliceBound, asIntOf, h1, h2]
    intro hlt; omega

def xSlice (T : TypeId → Option TI) (t : TypeId) (x : Operand) (lo hi : Option Operand) (σ : St) : Option (Option SV × St) :=
  match T t, evC σ x, evI σ lo, evI σ hi with
  | some ⟨_, _, _, .str⟩, some (.str s), some l, some h =>
    some (some (.e (.c (.str (s.extract (loOf l) (hiOf h s.size))))), { σ with ob := σ.ob ++ [fun _ => okLo h s.size ∧ okLo l (hiOf h s.size)] })
  | some ⟨_, _, _, .slice e⟩, some (.sl ad n c), some l, some h => match T e with
    | some i => some (some (.e (.c (.sl (if c = loOf l then ad else ad.map (·.add (loOf l * i.size))) (hiOf h n - loOf l) (c - loOf l)))),
        { σ with ob := σ.ob ++ [fun _ => okLo h c ∧ okLo l (hiOf h n)] })
    | none => none
  | _, _, _, _ => none

theorem xSlice_ok {P : Program} {T : TypeId → Option TI} (hT : Tabs P T) {t : TypeId} {x : Operand} {lo hi : Option Operand} {σ σ' : St} {r : Option SV} {a : Act} {w : World} {ε : Env}
    (h : xSlice T t x lo hi σ = some (r, σ')) (htl : TRel ε.ρ σ.tl a.tmps) (hob : σ'.holds ε) :
    ReadOk ε σ r σ' ((Instr.sliceAt t (a.eval x) (lo.map a.eval) (hi.map a.eval) none >>= fun v => pure (Next.value v)).run P w) w := by
  unfold xSlice at h
  split at h
  · rename_i s l u hi' hx hl hh
    have he := evC_ok htl hx
    obtain ⟨d, hd, _, hk⟩ := (hT t _ hi').und
    simp only [Kd.fits] at hk
    subst hk
    cases h
    have ho := hob _ (List.mem_append.2 (.inr (List.mem_singleton.2 rfl)))
    refine ⟨_, rfl, rfl, rfl, ?_⟩
    have hb := run_sliceBounds (P := P) (w := w) htl hl hh false s.size s.size ho.1 ho.2
    simp [Instr.sliceAt, Instr.slice, run_underlying hd, he, C.real, hb, SV.real, E.real]
  · rename_i e ad n c l u hi' hx hl hh
    have he := evC_ok htl hx
    obtain ⟨d, hd, _, hk⟩ := (hT t _ hi').und
    simp only [Kd.fits] at hk
    subst hk
    split at h
    · rename_i i hi2
      cases h
      have ho := hob _ (List.mem_append.2 (.inr (List.mem_singleton.2 rfl)))
      refine ⟨_, rfl, rfl, rfl, ?_⟩
      have hb := run_sliceBounds (P := P) (w := w) htl hl hh true n c ho.1 ho.2
      have hs := run_sizeOf' (hT e i hi2) w
      simp [Instr.sliceAt, Instr.slice, run_underlying hd, he, C.real, hb, hs, SV.real, E.real]
    · cases h
  · cases h

/- ELEMENTS -/

def xAt (T : TypeId → Option TI) (t : TypeId) (x i : Operand) (σ : St) : Option (Option SV × St) :=
  match T t, evC σ x, evC σ i with
  | some ⟨_, _, _, .slice e⟩, some (.sl (some ad) n _), some (.int _ k) => match T e with
    | some j => some (some (.e (.c (.rp (ad.add (k.toNat * j.size))))), { σ with ob := σ.ob ++ [fun _ => 0 ≤ k ∧ k < (n : Int)] })
    | none => none
  | some ⟨_, _, _, .slice e⟩, some (.nsl b o n _), some (.int _ k) => match T e with
    | some j => some (some (.e (.c (.p b (o + k.toNat * j.size)))), { σ with ob := σ.ob ++ [fun _ => 0 ≤ k ∧ k < (n : Int)] })
    | none => none
  | _, _, _ => none

theorem xAt_ok {P : Program} {T : TypeId → Option TI} (hT : Tabs P T) {t : TypeId} {x i : Operand} {σ σ' : St} {r : Option SV} {a : Act} {w : World} {ε : Env}
    (h : xAt T t x i σ = some (r, σ')) (htl : TRel ε.ρ σ.tl a.tmps) (hob : σ'.holds ε) :
    ReadOk ε σ r σ' ((Instr.indexAt t (a.eval x) (a.eval i) >>= fun v => pure (Next.value v)).run P w) w := by
  unfold xAt at h
  split at h
  · rename_i e ad n c k m hi hx hi'
    have he := evC_ok htl hx
    have he' := evC_ok htl hi'
    obtain ⟨d, hd, _, hk⟩ := (hT t _ hi).und
    simp only [Kd.fits] at hk
    subst hk
    split at h
    · rename_i j hj
      cases h
      have ho := hob _ (List.mem_append.2 (.inr (List.mem_singleton.2 rfl)))
      refine ⟨_, rfl, rfl, rfl, ?_⟩
      have hs := run_sizeOf' (hT e j hj) w
      simp [Instr.indexAt, run_underlying hd, he, he', C.real, asIntOf, ho, hs, SV.real, E.real]
    · cases h
  · rename_i e b o n c k m hi hx hi'
    have he := evC_ok htl hx
    have he' := evC_ok htl hi'
    obtain ⟨d, hd, _, hk⟩ := (hT t _ hi).und
    simp only [Kd.fits] at hk
    subst hk
    split at h
    · rename_i j hj
      cases h
      have ho := hob _ (List.mem_append.2 (.inr (List.mem_singleton.2 rfl)))
      refine ⟨_, rfl, rfl, rfl, ?_⟩
      have hs := run_sizeOf' (hT e j hj) w
      simp [Instr.indexAt, run_underlying hd, he, he', C.real, asIntOf, ho, hs, SV.real, E.real, addr_add]
    · cases h
  · cases h

/-- A byte of a text. -/
def xByte (T : TypeId → Option TI) (t : TypeId) (x i : Operand) (σ : St) : Option (Option SV × St) :=
  match T t, evC σ x, evC σ i with
  | some ⟨_, _, _, .str⟩, some (.str s), some (.int _ k) =>
    some (some (.e (.c (.int .u8 ((s[k.toNat]?).getD 0).toNat))), { σ with ob := σ.ob ++ [fun _ => 0 ≤ k ∧ k.toNat < s.size] })
  | _, _, _ => none

theorem xByte_ok {P : Program} {T : TypeId → Option TI} (hT : Tabs P T) {t : TypeId} {x i : Operand} {σ σ' : St} {r : Option SV} {a : Act} {w : World} {ε : Env}
    (h : xByte T t x i σ = some (r, σ')) (htl : TRel ε.ρ σ.tl a.tmps) (hob : σ'.holds ε) :
    ReadOk ε σ r σ' ((Instr.index t (a.eval x) (a.eval i) >>= fun v => pure (Next.value v)).run P w) w := by
  unfold xByte at h
  split at h
  · rename_i s k m hi hx hi'
    have he := evC_ok htl hx
    have he' := evC_ok htl hi'
    obtain ⟨d, hd, _, hk⟩ := (hT t _ hi).und
    simp only [Kd.fits] at hk
    subst hk
    cases h
    have ho := hob _ (List.mem_append.2 (.inr (List.mem_singleton.2 rfl)))
    refine ⟨_, rfl, rfl, rfl, ?_⟩
    obtain ⟨h0, h1⟩ := ho
    have hg : s[m.toNat]? = some (s[m.toNat]'h1) := by simp [h1]
    simp [Instr.index, run_underlying hd, he, he', C.real, asIntOf, h0, hg, SV.real, E.real]
  · cases h

/- FUNCTION VALUES, TUPLES, OTHERS -/

def evCap (σ : St) (x : Operand) : Option PP :=
  match evC σ x with
  | some (.p b o) => some (.n b o)
  | some (.rp a) => some (.r a)
  | _ => none

def evCaps (σ : St) : List Operand → Option (List PP)
  | [] => some []
  | x :: l => match evCap σ x, evCaps σ l with
    | some v, some r => some (v :: r)
    | _, _ => none

theorem evCaps_ok {ρ : Nat → Nat} {σ : St} {a : Act} (h : TRel ρ σ.tl a.tmps) : ∀ {l : List Operand} {r : List PP}, evCaps σ l = some r → l.map a.eval = r.map (PP.real ρ)
  | [], r, hr => by simp only [evCaps, Option.some.injEq] at hr; subst hr; rfl
  | x :: l, r, hr => by
    unfold evCaps at hr
    split at hr
    · rename_i v l' hv hl
      cases hr
      simp only [List.map_cons, evCaps_ok h hl]
      congr 1
      unfold evCap at hv
      split at hv
      · rename_i b o hc; cases hv; exact evC_ok h hc
      · rename_i ad hc; cases hv; exact evC_ok h hc
      · cases hv
    · cases hr

def xBuildSlice (T : TypeId → Option TI) (t : TypeId) (len : Nat) (parts : Array (Nat × Operand)) (σ : St) : Option (Option SV × St) :=
  match T t with
  | some ⟨_, _, _, .slice e⟩ => match T e with
    | some i =>
      if len * i.size ≤ 64 ∧ len * i.size ≠ 0 ∧ i.zero.length = i.size then
        match evParts σ parts.toList with
        | some ps => match xFill (fun k => some (k * i.size, i.size)) ((List.range (len * i.size)).map fun j => i.zero.getD (j % i.size) .undef) ps with
          | some cs => some (some (.e (.c (.nsl σ.bs.length 0 len len))), { σ with bs := σ.bs ++ [⟨e, cs⟩] })
          | none => none
        | none => none
      else none
    | none => none
  | _ => none

theorem xBuildSlice_ok {P : Program} {T : TypeId → Option TI} (hT : Tabs P T) {t : TypeId} {len : Nat} {parts : Array (Nat × Operand)} {σ σ' : St} {r : Option SV} {a : Act} {w : World} {ε : Env}
    (h : xBuildSlice T t len parts σ = some (r, σ')) (htl : TRel ε.ρ σ.tl a.tmps) (hrel : Rel ε σ.bs w) :
    Foretold ε σ r σ' ((Instr.buildSlice t len (parts.map fun (i, x) => (i, a.eval x)) >>= fun v => pure (Next.value v)).run P w) := by
  unfold xBuildSlice at h
  split at h
  · rename_i e hi
    obtain ⟨d, hd, _, hk⟩ := (hT t _ hi).und
    simp only [Kd.fits] at hk
    subst hk
    split at h
    · rename_i i hi2
      split at h
      · rename_i hlen
        split at h
        · rename_i ps hps
          split at h
          · rename_i cs hcs
            cases h
            obtain ⟨h1, h2⟩ := hrel.alloc ⟨e, cs⟩
            refine ⟨rfl, _, h1, ?_⟩
            have hs := run_sizeOf' (hT e i hi2) w
            obtain ⟨z, hz, hc⟩ := run_zeroValue' (hT e i hi2) w ε.ρ
            have hfill := xFill_ok _ ε.ρ ps _ cs hcs
            have hparts : (parts.map fun (i, x) => (i, a.eval x)).toList = ps.map fun x => (x.1, x.2.real ε.ρ) := by
              rw [Array.toList_map]; exact evParts_ok htl hps
            have hbig : ¬ (len * i.size > 2 ^ 24) := by omega
            have hne : ¬ (len * i.size = 0) := hlen.2.1
            have hpos : 0 < i.size := Nat.pos_of_ne_zero (fun e => by rw [e] at hne; simp at hne)
            have hcells : (Array.range (len * i.size)).map (fun j => (i.zero.map (C.real ε.ρ)).toArray[j % (i.zero.map (C.real ε.ρ)).toArray.size]!)
                = (((List.range (len * i.size)).map fun j => i.zero.getD (j % i.size) .undef).map (C.real ε.ρ)).toArray := by
              apply Array.ext'
              simp only [Array.toList_map, Array.toList_range, List.map_map]
              apply List.map_congr_left
              intro j _
              have hj : j % i.size < i.zero.length := by rw [hlen.2.2]; exact Nat.mod_lt _ hpos
              simp [List.getD, hlen.2.2, List.getElem?_eq_getElem hj]
            simp only [Instr.buildSlice, Sem.run_bind, run_underlying hd, Result.andThen_ok, hs, if_neg hbig, if_neg hne, hz, hc, Sem.run_pure, hcells, hparts, hfill, newRow, run_newObj]
            simp only [SV.real, E.real, C.real, h2]
            rfl
          · cases h
        · cases h
      · cases h
    · cases h
  · cases h

/-- All operations but calls of functions. -/
def xop (T : TypeId → Option TI) (o : Oper) (σ : St) : Option (Option SV × St) :=
  match o.op with
  | .move x | .assign x => (ev σ x).map fun v => (some v, σ)
  | .pick c x y => match evC σ c with
    | some (.bool b) => (ev σ (if b then x else y)).map fun v => (some v, σ)
    | _ => none
  | .alloc t => xAlloc T t σ
  | .box t x => xBox t x σ
  | .build t parts => xBuild T t parts σ
  | .buildSlice t len parts => xBuildSlice T t len parts σ
  | .load t x => xLoad T t x σ
  | .store t x y => xStore T t x y σ
  | .nilCheck x => xNil x σ
  | .binOp op xt x y _ => xBin T op xt x y σ
  | .unOp .not _ x => match evC σ x with
    | some (.bool b) => some (some (.e (.c (.bool !b))), σ)
    | _ => none
  | .unOp .neg _ x => match evC σ x with
    | some (.int k n) => some (some (.e (.c (.int k (k.wrap (-n))))), σ)
    | _ => none
  | .convert src dst x => match T src, T dst, evC σ x with
    | some _, some ⟨_, _, _, .int k'⟩, some (.int _ n) => some (some (.e (.c (.int k' (k'.wrap n)))), σ)
    | _, _, _ => none
  | .makeFunc (.func fn) ⟨[]⟩ caps => (evCaps σ caps.toList).map fun l => (some (.e (.c (.f fn l))), σ)
  | .slice t x lo hi none => xSlice T t x lo hi σ
  | .fieldAddr s x k => xField T s x k σ
  | .field s x k => xPart T s x k σ
  | .indexAddr t x i => xAt T t x i σ
  | .index t x i => xByte T t x i σ
  | .extract x k => match ev σ x with
    | some (.t l) => (l[k]?).map fun v => (some (.e v), σ)
    | _ => none
  | .call ⟨.builtin .len, ⟨[x]⟩, ⟨[t]⟩⟩ => xLen T t x σ
  | .call ⟨.builtin .max, ⟨[x, y]⟩, _⟩ => match evC σ x, evC σ y with
    | some (.int k a), some (.int _ b) => some (some (.e (.c (.int k (if b > a then b else a)))), σ)
    | _, _ => none
  | .call ⟨.builtin .min, ⟨[x, y]⟩, _⟩ => match evC σ x, evC σ y with
    | some (.int k a), some (.int _ b) => some (some (.e (.c (.int k (if b < a then b else a)))), σ)
    | _, _ => none
  | _ => none

/-- Does an operation only read? -/
def reads : Op → Bool
  | .alloc _ | .box _ _ | .buildSlice _ _ _ | .store _ _ _ => false
  | _ => true

theorem xop_read {P : Program} {T : TypeId → Option TI} (hT : Tabs P T) {o : Oper} {σ σ' : St} {r : Option SV} {a : Act} {w : World} {ε : Env}
    (h : xop T o σ = some (r, σ')) (hr : reads o.op = true) (htl : TRel ε.ρ σ.tl a.tmps) (hrel : Sees ε σ.bs w) (hob : σ'.holds ε) :
    ReadOk ε σ r σ' ((execOp a.eval o).run P w) w := by
  obtain ⟨dst, op, type, pos, after, guard⟩ := o
  unfold xop at h
  simp only at h hr
  split at h
  · cases hv : ev σ ‹Operand› with
    | none => simp [hv] at h
    | some v => simp only [hv, Option.map_some, Option.some.injEq, Prod.mk.injEq] at h; obtain ⟨rfl, rfl⟩ := h; exact ⟨_, rfl, rfl, rfl, by simp [execOp, ev_ok htl hv]⟩
  · cases hv : ev σ ‹Operand› with
    | none => simp [hv] at h
    | some v => simp only [hv, Option.map_some, Option.some.injEq, Prod.mk.injEq] at h; obtain ⟨rfl, rfl⟩ := h; exact ⟨_, rfl, rfl, rfl, by simp [execOp, ev_ok htl hv]⟩
  · rename_i c x y
    split at h
    · rename_i b hb
      have hc := evC_ok htl hb
      cases hv : ev σ (if b = true then x else y) with
      | none => simp [hv] at h
      | some v =>
        simp only [hv, Option.map_some, Option.some.injEq, Prod.mk.injEq] at h; obtain ⟨rfl, rfl⟩ := h
        refine ⟨_, rfl, rfl, rfl, ?_⟩
        have := ev_ok htl hv
        cases b <;> simp_all [execOp, C.real, asBool]
    · cases h
  · simp [reads] at hr
  · simp [reads] at hr
  · exact xBuild_ok hT h htl
  · simp [reads] at hr
  · exact xLoad_ok hT h htl hrel hob
  · simp [reads] at hr
  · rename_i x
    unfold xNil at h
    split at h <;> first | (cases h; done) | (rename_i hx; have he := evC_ok htl hx; cases h; exact ⟨_, rfl, rfl, rfl, by simp [execOp, he, C.real, SV.real, E.real]⟩)
  · exact xBin_ok hT h htl hob
  · split at h
    · rename_i b hb
      have he := evC_ok htl hb
      cases h
      exact ⟨_, rfl, rfl, rfl, by simp [execOp, he, C.real, Op.unary, SV.real, E.real]⟩
    · cases h
  · split at h
    · rename_i k n hb
      have he := evC_ok htl hb
      cases h
      exact ⟨_, rfl, rfl, rfl, by simp [execOp, he, C.real, Op.unary, Op.intArith, SV.real, E.real]⟩
    · cases h
  · split at h
    · rename_i i1 k' k n h1 h2 hb
      have he := evC_ok htl hb
      obtain ⟨d, hd, _, hk⟩ := (hT _ _ h2).und
      simp only [Kd.fits] at hk
      subst hk
      obtain ⟨d1, hd1, _⟩ := (hT _ _ h1).und
      cases h
      exact ⟨_, rfl, rfl, rfl, by simp [execOp, he, C.real, convert, run_underlying hd, run_underlying hd1, Conv.intToInt, SV.real, E.real]⟩
    · cases h
  · rename_i fn caps
    cases hv : evCaps σ caps.toList with
    | none => simp [hv] at h
    | some l =>
      simp only [hv, Option.map_some, Option.some.injEq, Prod.mk.injEq] at h; obtain ⟨rfl, rfl⟩ := h
      have hm := evCaps_ok htl hv
      have hm' : caps.map a.eval = (l.map (PP.real ε.ρ)).toArray := by apply Array.ext'; simpa using hm
      exact ⟨_, rfl, rfl, rfl, by simp [execOp, Instr.makeFunc, hm', SV.real, E.real, C.real]⟩
  · exact xSlice_ok hT h htl hob
  · exact xField_ok hT h htl
  · exact xPart_ok hT h htl
  · exact xAt_ok hT h htl hob
  · exact xByte_ok hT h htl hob
  · rename_i x k
    split at h
    · rename_i l hx
      have he := ev_ok htl hx
      cases hv : l[k]? with
      | none => simp [hv] at h
      | some v =>
        simp only [hv, Option.map_some, Option.some.injEq, Prod.mk.injEq] at h; obtain ⟨rfl, rfl⟩ := h
        exact ⟨_, rfl, rfl, rfl, by simp [execOp, he, SV.real, Instr.extract, hv]⟩
    · cases h
  · rename_i x t
    have hl := xLen_ok (P := P) (w := w) (ε := ε) hT (ty := type) h htl
    cases x <;> first | (have h1 := hl.1; simpa [execOp, resolve, invoke] using h1; done) | (have h1 := hl.2; simpa [execOp, resolve, invoke] using h1)
  · split at h
    · rename_i k m k' n hx hy
      have hex := evC_ok htl hx
      have hey := evC_ok htl hy
      cases h
      exact ⟨_, rfl, rfl, rfl, by simp [execOp, resolve, invoke, hex, hey, C.real, SV.real, E.real, builtin, run_max_int2]⟩
    · cases h
  · split at h
    · rename_i k m k' n hx hy
      have hex := evC_ok htl hx
      have hey := evC_ok htl hy
      cases h
      exact ⟨_, rfl, rfl, rfl, by simp [execOp, resolve, invoke, hex, hey, C.real, SV.real, E.real, builtin, run_min_int2]⟩
    · cases h
  · cases h

theorem xop_ok {P : Program} {T : TypeId → Option TI} (hT : Tabs P T) {o : Oper} {σ σ' : St} {r : Option SV} {a : Act} {w : World} {ε : Env}
    (h : xop T o σ = some (r, σ')) (htl : TRel ε.ρ σ.tl a.tmps) (hrel : Rel ε σ.bs w) (hob : σ'.holds ε) :
    Foretold ε σ r σ' ((execOp a.eval o).run P w) := by
  cases hr : reads o.op with
  | true => exact (xop_read hT h hr htl hrel.sees hob).foretold hrel
  | false =>
    obtain ⟨dst, op, type, pos, after, guard⟩ := o
    cases op <;> simp only [reads, Bool.true_eq_false] at hr <;> simp only [xop] at h
    · exact xAlloc_ok hT h hrel
    · exact xBox_ok h htl hrel
    · exact xBuildSlice_ok hT h htl hrel
    · exact xStore_ok hT h htl hrel

end Go.Proofs.YtoihipolfdhhnaaGreatDoor

namespace Go.Proofs.YtoihipolfdhhnaaGreatDoor

def wantedX (o : Oper) (ops : Array Oper) (σ : St) : Option Bool :=
  match o.guard with
  | none => some true
  | some (j, want) => match (ops[j]?).bind (·.dst) with
    | some d => match lk d σ.tl with
      | some (.e (.c (.bool b))) => some (b == want)
      | some _ => some false
      | none => none
    | none => some false

def putX (nt : Nat) (dst : Option Nat) (v : SV) (σ : St) : Option St :=
  match dst with
  | none => some σ
  | some d => if d < nt then some { σ with tl := (d, v) :: σ.tl } else none

def undefX : SV := .e (.c .undef)

def step1 (T : TypeId → Option TI) (nt : Nat) : List Item → St → Option (List Item × St)
  | .code .skip :: k, σ => some (k, σ)
  | .code (.label _) :: k, σ => some (k, σ)
  | .inBlock _ :: k, σ => some (k, σ)
  | .inScope _ :: k, σ => some (k, σ)
  | .code (.seq x y) :: k, σ => some (.code x :: .code y :: k, σ)
  | .code (.cond c x y) :: k, σ => match evC σ c with
    | some (.bool b) => some (.code (if b then x else y) :: k, σ)
    | _ => none
  | .code (.block id c) :: k, σ => some (.code c :: .inBlock id :: k, σ)
  | .code (.scope c) :: k, σ => some (.code c :: .inScope c :: k, σ)
  | .code (.exit id) :: k, σ => (exitTo id k).map fun k' => (k', σ)
  | .code (.region _ ops false) :: k, σ => some (.inRegion ops (List.range ops.size) :: k, σ)
  | .inRegion _ [] :: k, σ => some (k, σ)
  | .inRegion ops (i :: rest) :: k, σ => match ops[i]? with
    | none => none
    | some o => match wantedX o ops σ with
      | none => none
      | some false => (putX nt o.dst undefX σ).map fun σ' => (.inRegion ops rest :: k, σ')
      | some true => match xop T o σ with
        | none => none
        | some (r, σ') => (putX nt o.dst (r.getD undefX) σ').map fun σ'' => (.inRegion ops rest :: k, σ'')
  | _, _ => none

def run (T : TypeId → Option TI) (nt : Nat) : Nat → List Item → St → List Item × St
  | 0, k, σ => (k, σ)
  | n + 1, k, σ => match step1 T nt k σ with
    | some (k', σ') => run T nt n k' σ'
    | none => (k, σ)

structure CRel (ε : Env) (nt : Nat) (σ : St) (a : Act) (w : World) : Prop where
  tl : TRel ε.ρ σ.tl a.tmps
  size : a.tmps.size = nt
  defers : a.defers = []
  mem : Rel ε σ.bs w

theorem wantedX_ok {ρ : Nat → Nat} {o : Oper} {ops : Array Oper} {σ : St} {tmps : Array Value} {b : Bool} (h : wantedX o ops σ = some b) (htl : TRel ρ σ.tl tmps) :
    Region.wanted o (yielded ops tmps) = b := by
  unfold wantedX at h
  unfold Region.wanted
  split at h
  · rename_i hg; cases h; rw [hg]
  · rename_i j want hg
    rw [hg]
    simp only
    split at h
    · rename_i d hd
      split at h
      · rename_i t hl
        cases h
        have := htl d _ hl
        simp only [yielded, hd, Option.bind_some, this, SV.real, E.real, C.real]
        cases t <;> cases want <;> rfl
      · rename_i v hv hl
        cases h
        have h2 := htl d _ hl
        have hy : yielded ops tmps j = none := by
          simp only [yielded, hd, Option.bind_some, h2]
          split
          · rename_i b' hb
            exfalso
            simp only [Option.some.injEq] at hb
            cases v with
            | e x => cases x with
              | c y => cases y <;> simp_all [SV.real, E.real, C.real, undef]
              | a l => simp [SV.real, E.real] at hb
            | t l => simp [SV.real] at hb
          · rfl
        rw [hy]; rfl
      · cases h
    · rename_i hd
      cases h
      simp only [yielded, hd, Option.bind_none]
      rfl

theorem putX_ok {ε : Env} {nt : Nat} {dst : Option Nat} {v : SV} {σ σ' : St} {a : Act} {w : World} (h : putX nt dst v σ = some σ') (hc : CRel ε nt σ a w) :
    CRel ε nt σ' (a.put dst (v.real ε.ρ)) w ∧ σ'.ob = σ.ob := by
  unfold putX at h
  split at h
  · cases h; exact ⟨hc, rfl⟩
  · rename_i d
    split at h
    · rename_i hd
      cases h
      refine ⟨⟨TRel.put hc.tl d (by rw [hc.size]; exact hd) v, by simp [Act.put, hc.size], hc.defers, hc.mem⟩, rfl⟩
    · cases h

theorem putX_ob {nt : Nat} {dst : Option Nat} {v : SV} {σ σ' : St} (h : putX nt dst v σ = some σ') : σ'.ob = σ.ob := by
  unfold putX at h
  split at h
  · cases h; rfl
  · split at h
    · cases h; rfl
    · cases h

theorem step_op_ok {P : Program} {b : Frame} {a : Act} {k : List Item} {cs : List Frame} {w w' : World} {ops : Array Oper} {i : Nat} {rest : List Nat} {o : Oper} {r : Option Value}
    (ho : ops[i]? = some o) (hw : Region.wanted o (yielded ops a.tmps) = true) (hr : (execOp a.eval o).run P w = .ok (match r with | some v => .value v | none => .skip) w') :
    step P (lone (b.at a (.inRegion ops (i :: rest) :: k)) cs w) = .next (lone (b.at (a.put o.dst (r.getD undef)) (.inRegion ops rest :: k)) cs w') := by
  have hg := stepG_op (P := P) (b := b) (k := k) (cs := cs) (w := w) (rest := rest) ho hw
  have hfin : ∀ v, (b.at a (.inRegion ops (i :: rest) :: k)).finish v = b.at (a.put o.dst v) (.inRegion ops rest :: k) := by
    intro v; rw [Frame.finish_at, ho]; rfl
  refine step_lone_go ?_
  rw [hg, ← hfin]
  cases r <;> simp [stepG.apply, hr]

theorem step1_ok {P : Program} {T : TypeId → Option TI} (hT : Tabs P T) {ε : Env} {nt : Nat} {k k' : List Item} {σ σ' : St} {a : Act} {w : World} {b : Frame} {cs : List Frame}
    (h : step1 T nt k σ = some (k', σ')) (hc : CRel ε nt σ a w) (hob : σ'.holds ε) :
    ∃ a' w', CRel ε nt σ' a' w' ∧ Steps P (lone (b.at a k) cs w) (lone (b.at a' k') cs w') := by
  unfold step1 at h
  split at h
  · cases h; exact ⟨a, w, hc, .one step_skip⟩
  · cases h; exact ⟨a, w, hc, .one step_label⟩
  · cases h; exact ⟨a, w, hc, .one step_inBlock⟩
  · cases h; exact ⟨a, w, hc, .one step_inScope⟩
  · cases h; exact ⟨a, w, hc, .one step_seq⟩
  · split at h
    · rename_i t ht
      cases h
      exact ⟨a, w, hc, .one (step_cond (evC_ok hc.tl ht))⟩
    · cases h
  · cases h; exact ⟨a, w, hc, .one step_block⟩
  · cases h; exact ⟨a, w, hc, .one step_scope⟩
  · rename_i id k0
    cases he : exitTo id k0 with
    | none => simp [he] at h
    | some k1 =>
      simp only [he, Option.map_some, Option.some.injEq, Prod.mk.injEq] at h
      obtain ⟨rfl, rfl⟩ := h
      exact ⟨a, w, hc, .one (step_exit he)⟩
  · cases h; exact ⟨a, w, hc, .one step_region⟩
  · cases h; exact ⟨a, w, hc, .one step_region_end⟩
  · rename_i ops i rest k0
    split at h
    · cases h
    · rename_i o ho
      split at h
      · cases h
      · rename_i hw
        have hw' := wantedX_ok hw hc.tl
        cases hp : putX nt o.dst undefX σ with
        | none => simp [hp] at h
        | some σ1 =>
          simp only [hp, Option.map_some, Option.some.injEq, Prod.mk.injEq] at h
          obtain ⟨rfl, rfl⟩ := h
          obtain ⟨h1, h2⟩ := putX_ok hp hc
          refine ⟨_, w, h1, .one ?_⟩
          have := step_op_skip (P := P) (b := b) (a := a) (k := k0) (cs := cs) (w := w) (ops := ops) (i := i) (rest := rest) (by simp [ho, hw'])
          have hu : (undefX).real ε.ρ = undef := rfl
          rw [hu]
          simpa [ho] using this
      · rename_i hw
        have hw' := wantedX_ok hw hc.tl
        split at h
        · cases h
        · rename_i r σ1 hx
          cases hp : putX nt o.dst (r.getD undefX) σ1 with
          | none => simp [hp] at h
          | some σ2 =>
            simp only [hp, Option.map_some, Option.some.injEq, Prod.mk.injEq] at h
            obtain ⟨rfl, rfl⟩ := h
            have hob1 : σ1.holds ε := by
              intro p hp'
              exact hob p (by rw [putX_ob hp]; exact hp')
            obtain ⟨htl, w', hrel, hrun⟩ := xop_ok hT hx hc.tl hc.mem hob1
            have hc1 : CRel ε nt σ1 a w' := ⟨by rw [htl]; exact hc.tl, hc.size, hc.defers, hrel⟩
            obtain ⟨h1, h2⟩ := putX_ok hp hc1
            refine ⟨_, w', h1, .one ?_⟩
            have hst := step_op_ok (P := P) (b := b) (k := k0) (cs := cs) (rest := rest) (r := r.map (SV.real ε.ρ)) ho hw' (by rw [hrun]; cases r <;> rfl)
            have hv : (r.map (SV.real ε.ρ)).getD undef = (r.getD undefX).real ε.ρ := by cases r <;> rfl
            rw [hv] at hst
            exact hst
  · cases h

theorem ask_ob {t : Bool} {σ σ' : St} {r : Option SV} (h : ask t σ = some (r, σ')) {p : Env → Prop} (hp : p ∈ σ.ob) : p ∈ σ'.ob := by
  unfold ask at h
  split at h
  · cases h; simp [hp]
  · cases h

theorem xLoad_ob {T : TypeId → Option TI} {t : TypeId} {x : Operand} {σ σ' : St} {r : Option SV} (h : xLoad T t x σ = some (r, σ')) {p : Env → Prop} (hp : p ∈ σ.ob) : p ∈ σ'.ob := by
  unfold xLoad at h
  repeat' split at h
  all_goals first | (cases h; done) | (cases h; simp [hp])

theorem xStore_ob {T : TypeId → Option TI} {t : TypeId} {x y : Operand} {σ σ' : St} {r : Option SV} (h : xStore T t x y σ = some (r, σ')) {p : Env → Prop} (hp : p ∈ σ.ob) : p ∈ σ'.ob := by
  unfold xStore at h
  repeat' split at h
  all_goals first | (cases h; done) | (cases h; simp [hp])

theorem xBin_ob {T : TypeId → Option TI} {op : BinOp} {t : TypeId} {x y : Operand} {σ σ' : St} {r : Option SV} (h : xBin T op t x y σ = some (r, σ')) {p : Env → Prop} (hp : p ∈ σ.ob) : p ∈ σ'.ob := by
  unfold xBin at h
  repeat' split at h
  all_goals first | (cases h; done) | exact ask_ob h hp | (cases h; simp [hp])

theorem xSlice_ob {T : TypeId → Option TI} {t : TypeId} {x : Operand} {lo hi : Option Operand} {σ σ' : St} {r : Option SV} (h : xSlice T t x lo hi σ = some (r, σ')) {p : Env → Prop} (hp : p ∈ σ.ob) : p ∈ σ'.ob := by
  unfold xSlice at h
  repeat' split at h
  all_goals first | (cases h; done) | (cases h; simp [hp])

theorem xAt_ob {T : TypeId → Option TI} {t : TypeId} {x i : Operand} {σ σ' : St} {r : Option SV} (h : xAt T t x i σ = some (r, σ')) {p : Env → Prop} (hp : p ∈ σ.ob) : p ∈ σ'.ob := by
  unfold xAt at h
  repeat' split at h
  all_goals first | (cases h; done) | (cases h; simp [hp])

theorem xByte_ob {T : TypeId → Option TI} {t : TypeId} {x i : Operand} {σ σ' : St} {r : Option SV} (h : xByte T t x i σ = some (r, σ')) {p : Env → Prop} (hp : p ∈ σ.ob) : p ∈ σ'.ob := by
  unfold xByte at h
  repeat' split at h
  all_goals first | (cases h; done) | (cases h; simp [hp])

theorem map_pair_ob {α : Type} {z : Option α} {g : α → Option SV × St} {σ σ' : St} {r : Option SV} (hg : ∀ v, (g v).2 = σ) (h : z.map g = some (r, σ')) {p : Env → Prop} (hp : p ∈ σ.ob) : p ∈ σ'.ob := by
  cases z with
  | none => cases h
  | some v =>
    simp only [Option.map_some, Option.some.injEq] at h
    have := hg v
    rw [h] at this
    simp only at this
    rw [this]; exact hp

theorem xop_ob {T : TypeId → Option TI} {o : Oper} {σ σ' : St} {r : Option SV} (h : xop T o σ = some (r, σ')) {p : Env → Prop} (hp : p ∈ σ.ob) : p ∈ σ'.ob := by
  unfold xop at h
  split at h
  · exact map_pair_ob (σ := σ) (fun _ => rfl) h hp
  · exact map_pair_ob (σ := σ) (fun _ => rfl) h hp
  · split at h
    · exact map_pair_ob (σ := σ) (fun _ => rfl) h hp
    · cases h
  · unfold xAlloc at h
    split at h
    · cases h; exact hp
    · cases h
  · unfold xBox at h
    repeat' split at h
    all_goals first | (cases h; done) | (cases h; exact hp)
  · unfold xBuild at h
    repeat' split at h
    all_goals first | (cases h; done) | (cases h; exact hp)
  · unfold xBuildSlice at h
    repeat' split at h
    all_goals first | (cases h; done) | (cases h; exact hp)
  · exact xLoad_ob h hp
  · exact xStore_ob h hp
  · unfold xNil at h
    repeat' split at h
    all_goals first | (cases h; done) | (cases h; exact hp)
  · exact xBin_ob h hp
  · split at h
    · cases h; exact hp
    · cases h
  · split at h
    · cases h; exact hp
    · cases h
  · split at h
    · cases h; exact hp
    · cases h
  · exact map_pair_ob (σ := σ) (fun _ => rfl) h hp
  · exact xSlice_ob h hp
  · unfold xField at h
    repeat' split at h
    all_goals first | (cases h; done) | (cases h; exact hp)
  · unfold xPart at h
    repeat' split at h
    all_goals first | (cases h; done) | (cases h; exact hp)
  · exact xAt_ob h hp
  · exact xByte_ob h hp
  · split at h
    · exact map_pair_ob (σ := σ) (fun _ => rfl) h hp
    · cases h
  · unfold xLen at h
    repeat' split at h
    all_goals first | (cases h; done) | (cases h; exact hp)
  · split at h
    · cases h; exact hp
    · cases h
  · split at h
    · cases h; exact hp
    · cases h
  · cases h

theorem step1_ob {T : TypeId → Option TI} {nt : Nat} {k k' : List Item} {σ σ' : St} (h : step1 T nt k σ = some (k', σ')) {p : Env → Prop} (hp : p ∈ σ.ob) : p ∈ σ'.ob := by
  unfold step1 at h
  split at h
  · cases h; exact hp
  · cases h; exact hp
  · cases h; exact hp
  · cases h; exact hp
  · cases h; exact hp
  · split at h
    · cases h; exact hp
    · cases h
  · cases h; exact hp
  · cases h; exact hp
  · rename_i id k0
    cases he : exitTo id k0 with
    | none => simp [he] at h
    | some k1 => simp only [he, Option.map_some, Option.some.injEq, Prod.mk.injEq] at h; obtain ⟨rfl, rfl⟩ := h; exact hp
  · cases h; exact hp
  · cases h; exact hp
  · split at h
    · cases h
    · rename_i o ho
      split at h
      · cases h
      · cases hp' : putX nt o.dst undefX σ with
        | none => simp [hp'] at h
        | some σ1 =>
          simp only [hp', Option.map_some, Option.some.injEq, Prod.mk.injEq] at h
          obtain ⟨rfl, rfl⟩ := h
          rw [putX_ob hp']; exact hp
      · split at h
        · cases h
        · rename_i r σ1 hx
          cases hp' : putX nt o.dst (r.getD undefX) σ1 with
          | none => simp [hp'] at h
          | some σ2 =>
            simp only [hp', Option.map_some, Option.some.injEq, Prod.mk.injEq] at h
            obtain ⟨rfl, rfl⟩ := h
            rw [putX_ob hp']
            exact xop_ob hx hp
  · cases h

theorem run_ob {T : TypeId → Option TI} {nt : Nat} : ∀ (m : Nat) (k : List Item) (σ : St), ∀ p ∈ σ.ob, p ∈ (run T nt m k σ).2.ob
  | 0, _, _, _, h => h
  | m + 1, k, σ, p, hp => by
    simp only [run]
    cases hs : step1 T nt k σ with
    | none => exact hp
    | some x => exact run_ob m x.1 x.2 p (step1_ob hs hp)

theorem run_ok {P : Program} {T : TypeId → Option TI} (hT : Tabs P T) {ε : Env} {nt : Nat} {b : Frame} {cs : List Frame} : ∀ (n : Nat) (k : List Item) (σ : St) (a : Act) (w : World),
    CRel ε nt σ a w → (run T nt n k σ).2.holds ε →
    ∃ a' w', CRel ε nt (run T nt n k σ).2 a' w' ∧ Steps P (lone (b.at a k) cs w) (lone (b.at a' (run T nt n k σ).1) cs w')
  | 0, k, σ, a, w, hc, _ => ⟨a, w, hc, .refl _ _⟩
  | n + 1, k, σ, a, w, hc, hob => by
    simp only [run] at hob ⊢
    cases hs : step1 T nt k σ with
    | none => exact ⟨a, w, hc, .refl _ _⟩
    | some x =>
      simp only [hs] at hob
      have hob1 : x.2.holds ε := fun p hp => hob p (run_ob n x.1 x.2 p hp)
      obtain ⟨a1, w1, hc1, hst⟩ := step1_ok (P := P) hT (b := b) (cs := cs) hs hc hob1
      obtain ⟨a2, w2, hc2, hst2⟩ := run_ok hT n x.1 x.2 a1 w1 hc1 hob
      exact ⟨a2, w2, hc2, hst.trans hst2⟩

/- CALLS, THE END -/

def base (f : FuncId) : Frame := { (default : Frame) with fn := f, kind := .normal }

/-- From here the frame of function f comes to R. -/
def Gets (P : Program) (f : FuncId) (k : List Item) (a : Act) (w : World) (R : Ending → World → Prop) : Prop :=
  ∀ cs, ∃ e w' fr, R e w' ∧ Comes P (lone ((base f).at a k) cs w) (lone fr cs w') e ∧ fr.fn = f ∧ fr.leaving P w' e

theorem Gets.of_steps {P : Program} {f : FuncId} {k k' : List Item} {a a' : Act} {w w' : World} {R : Ending → World → Prop}
    (h : ∀ cs, Steps P (lone ((base f).at a k) cs w) (lone ((base f).at a' k') cs w')) (hg : Gets P f k' a' w' R) : Gets P f k a w R :=
  fun cs => let ⟨e, w'', fr, hR, hc, hf, hl⟩ := hg cs; ⟨e, w'', fr, hR, Comes.of_steps (h cs) hc, hf, hl⟩

theorem calls_of_gets {P : Program} {f : FuncId} {fn : Func} {c : Code} {args : Array Value} {w : World} {R : Ending → World → Prop}
    (hf : P.funcs[f]? = some fn) (hb : fn.body = some c)
    (h : Gets P f [.code c] { tmps := args ++ Array.replicate (fn.ntmps - args.size) undef, defers := [] } w R) : Calls P f args w R := by
  intro cs
  have henter : Frame.enter P f args .normal = (base f).at { tmps := args ++ Array.replicate (fn.ntmps - args.size) undef, defers := [] } [.code c] := by
    simp [Frame.enter, Frame.at, hf, hb, base]
  rw [henter]
  exact h cs

theorem gets_run {P : Program} {T : TypeId → Option TI} (hT : Tabs P T) {ε : Env} {nt : Nat} {f : FuncId} {k : List Item} {σ : St} {a : Act} {w : World} {R : Ending → World → Prop} (n : Nat)
    (hc : CRel ε nt σ a w) (hob : (run T nt n k σ).2.holds ε) (h : ∀ a' w', CRel ε nt (run T nt n k σ).2 a' w' → Gets P f (run T nt n k σ).1 a' w' R) : Gets P f k a w R := by
  intro cs
  obtain ⟨a', w', hc', hst⟩ := run_ok (P := P) hT (b := base f) (cs := cs) n k σ a w hc hob
  obtain ⟨e, w'', fr, hR, hcm, hf, hl⟩ := h a' w' hc' cs
  exact ⟨e, w'', fr, hR, Comes.of_steps hst hcm, hf, hl⟩

def isFin : List Item → Bool
  | [] => true
  | .code .ret :: _ => true
  | _ => false

def resX (T : TypeId → Option TI) (σ : St) : ResultVar → Option E
  | .tmp t => match lk t σ.tl with
    | some (.e v) => some v
    | _ => none
  | .cell s t => match lk s σ.tl, T t with
    | some (.e (.c (.p b o))), some i => match σ.bs[b]? with
      | some nb => if i.agg then if o + i.size ≤ nb.cs.length then some (.a ((nb.cs.drop o).take i.size)) else none
        else (nb.cs[o]?).map .c
      | none => none
    | _, _ => none

def resXs (T : TypeId → Option TI) (σ : St) : List ResultVar → Option (List E)
  | [] => some []
  | x :: l => match resX T σ x, resXs T σ l with
    | some v, some r => some (v :: r)
    | _, _ => none

def retX : List E → SV
  | [x] => .e x
  | l => .t l

def resSem (tmps : Array Value) : ResultVar → Sem Value
  | .tmp t => pure (tmps.getD t undef)
  | .cell s t => do loadVar t (← asAddr (tmps.getD s undef))

theorem resX_ok {P : Program} {T : TypeId → Option TI} (hT : Tabs P T) {ε : Env} {nt : Nat} {σ : St} {a : Act} {w : World} (hc : CRel ε nt σ a w) {x : ResultVar} {v : E} (h : resX T σ x = some v) :
    (resSem a.tmps x).run P w = .ok (v.real ε.ρ) w := by
  cases x with
  | tmp t =>
    simp only [resX] at h
    split at h
    · rename_i y hy
      cases h
      have := hc.tl t _ hy
      simp [resSem, this, SV.real]
    · cases h
  | cell s t =>
    simp only [resX] at h
    split at h
    · rename_i b o i hs hi
      have h1 := hc.tl s _ hs
      have hok := hT t i hi
      split at h
      · rename_i nb hb
        split at h
        · rename_i hag
          split at h
          · rename_i hsz
            cases h
            have hl := run_loadCells_list (P := P) w ⟨ε.ρ b, o, none⟩ (((nb.cs.drop o).take i.size).map (C.real ε.ρ)) (fun j v hj => by
              rw [addr_add, hc.mem.sees.cell? hb]
              rw [List.getElem?_map] at hj
              have hjl : j < i.size := by
                rcases Nat.lt_or_ge j i.size with h2 | h2
                · exact h2
                · rw [List.getElem?_eq_none (by simp; omega)] at hj; cases hj
              rw [take_drop_get _ _ _ _ hjl] at hj
              exact hj)
            have hlen : (((nb.cs.drop o).take i.size).map (C.real ε.ρ)).length = i.size := by simp; omega
            rw [hlen] at hl
            simp [resSem, h1, SV.real, E.real, C.real, asAddr, loadVar, run_isAgg' hok, hag, run_sizeOf' hok, hl]
          · cases h
        · rename_i hag
          cases hg : nb.cs[o]? with
          | none => simp [hg] at h
          | some c =>
            simp only [hg, Option.map_some, Option.some.injEq] at h
            subst h
            have := hc.mem.sees.cell? hb o
            rw [hg] at this
            simp [resSem, h1, SV.real, E.real, C.real, asAddr, loadVar, run_isAgg' hok, hag, this]
      · cases h
    · cases h

theorem resXs_ok {P : Program} {T : TypeId → Option TI} (hT : Tabs P T) {ε : Env} {nt : Nat} {σ : St} {a : Act} {w : World} (hc : CRel ε nt σ a w) {fn : Func} {l : List E}
    (h : resXs T σ fn.results.toList = some l) : (results fn a.tmps).run P w = .ok ((retX l).real ε.ρ) w := by
  have hl : ∀ (rs : List ResultVar) (l : List E), resXs T σ rs = some l → (rs.mapM (resSem a.tmps)).run P w = .ok (l.map (E.real ε.ρ)) w := by
    intro rs
    induction rs with
    | nil => intro l h; simp only [resXs, Option.some.injEq] at h; subst h; simp
    | cons x rs ih =>
      intro l h
      unfold resXs at h
      split at h
      · rename_i v r hv hr
        cases h
        rw [List.mapM_cons]
        have h1 := resX_ok (P := P) hT hc hv
        have h2 := ih r hr
        rw [Sem.run_bind, h1, Result.andThen_ok, Sem.run_bind, h2, Result.andThen_ok]
        rfl
      · cases h
  have := hl _ _ h
  have hres : results fn a.tmps = (do let vs ← fn.results.mapM (resSem a.tmps); pure (if h : vs.size = 1 then vs[0] else .tuple vs)) := rfl
  rw [hres, Array.mapM_eq_mapM_toList]
  simp only [Sem.run_bind, Sem.run_map, this, Result.andThen_ok, Sem.run_pure]
  congr 1
  match l with
  | [] => rfl
  | [x] => rfl
  | x :: y :: l => simp [retX, SV.real]

theorem gets_fin {P : Program} {T : TypeId → Option TI} (hT : Tabs P T) {ε : Env} {nt : Nat} {f : FuncId} {fn : Func} {k : List Item} {σ : St} {a : Act} {w : World} {R : Ending → World → Prop} {l : List E}
    (hc : CRel ε nt σ a w) (hf : P.funcs[f]? = some fn) (hk : isFin k = true) (hr : resXs T σ fn.results.toList = some l) (hR : R (.returned ((retX l).real ε.ρ)) w) : Gets P f k a w R := by
  intro cs
  have hres := resXs_ok (P := P) hT hc hr
  unfold isFin at hk
  split at hk
  · exact ⟨_, w, _, hR, Steps.one step_end, rfl, rfl, hc.defers, rfl, fn, hf, hres⟩
  · exact ⟨_, w, _, hR, Steps.one step_ret, rfl, rfl, hc.defers, rfl, fn, hf, hres⟩
  · cases hk

/-- The call that stands next. -/
structure CallX where
  fn : FuncId
  args : List E
  caps : List PP
  capv : Array Value

def CallX.real (ρ : Nat → Nat) (c : CallX) : Array Value := (c.args.map (E.real ρ)).toArray ++ ((c.caps.map (PP.real ρ)).toArray ++ c.capv)

def evArgs (σ : St) : List Operand → Option (List E)
  | [] => some []
  | x :: l => match evE σ x, evArgs σ l with
    | some v, some r => some (v :: r)
    | _, _ => none

theorem evArgs_ok {ρ : Nat → Nat} {σ : St} {a : Act} (h : TRel ρ σ.tl a.tmps) : ∀ {l : List Operand} {r : List E}, evArgs σ l = some r → l.map a.eval = r.map (E.real ρ)
  | [], r, hr => by simp only [evArgs, Option.some.injEq] at hr; subst hr; rfl
  | x :: l, r, hr => by
    unfold evArgs at hr
    split at hr
    · rename_i v l' hv hl
      cases hr
      simp only [List.map_cons, evArgs_ok h hl, evE_ok h hv]
    · cases hr

def callX (k : List Item) (σ : St) : Option CallX :=
  match k with
  | .inRegion ops (i :: _) :: _ => match ops[i]? with
    | some ⟨_, .call ⟨.value g, args, _⟩, _, _, _, gd⟩ => match wantedX ⟨none, .move g, 0, default, #[], gd⟩ ops σ, evC σ g, evArgs σ args.toList with
      | some true, some (.f fn caps), some l => some ⟨fn, l, caps, #[]⟩
      | some true, some (.fv fn capv), some l => some ⟨fn, l, [], capv⟩
      | _, _, _ => none
    | _ => none
  | _ => none

def popX : List Item → List Item
  | .inRegion ops (_ :: rest) :: k => .inRegion ops rest :: k
  | k => k

def dstX : List Item → Option Nat
  | .inRegion ops (i :: _) :: _ => (ops[i]?).bind (·.dst)
  | _ => none

def enters (P : Program) (g : FuncId) : Bool :=
  match P.funcs[g]? with
  | some fn => !(fn.name == "runtime.NumGoroutine") && fn.body.isSome
  | none => false

theorem wanted_guard (o o' : Oper) (y : Nat → Option Bool) (h : o.guard = o'.guard) : Region.wanted o y = Region.wanted o' y := by
  unfold Region.wanted; rw [h]

theorem run_callFunc {P : Program} {g : FuncId} (h : enters P g = true) (args : Array Value) (w : World) : (callFunc g args).run P w = .ok (.enter g args) w := by
  unfold enters at h
  split at h
  · rename_i fn hf
    simp only [Bool.and_eq_true, Bool.not_eq_true'] at h
    have hb : fn.body.isNone = false := by cases hb : fn.body <;> simp_all
    simp only [callFunc, Sem.run_bind, run_program, Result.andThen_ok, hf, h.1, Bool.false_eq_true, if_false, hb, Sem.run_pure]
  · cases h

theorem gets_call {P : Program} {ε : Env} {nt : Nat} {f : FuncId} {k : List Item} {σ : St} {a : Act} {w : World} {R S : Ending → World → Prop} {c : CallX}
    (hc : CRel ε nt σ a w) (hx : callX k σ = some c) (he : enters P c.fn = true) (hcall : Calls P c.fn (c.real ε.ρ) w S)
    (h : ∀ e w', S e w' → ∃ v, e = .returned v ∧ Gets P f (popX k) (a.put (dstX k) v) w' R) : Gets P f k a w R := by
  intro cs
  unfold callX at hx
  split at hx
  · rename_i ops i rest k0
    split at hx
    · rename_i dst g args at0 ty pos after gd ho
      have key : ∀ (fn : FuncId) (capv : Array Value) (l : List E), wantedX ⟨none, .move g, 0, default, #[], gd⟩ ops σ = some true → a.eval g = .func (.func fn) #[] capv → evArgs σ args.toList = some l →
          c.fn = fn → c.real ε.ρ = (l.map (E.real ε.ρ)).toArray ++ capv →
          ∃ e w' fr, R e w' ∧ Comes P (lone ((base f).at a (.inRegion ops (i :: rest) :: k0)) cs w) (lone fr cs w') e ∧ fr.fn = f ∧ fr.leaving P w' e := by
        intro fn capv l hw hg hl hfn hreal
        have hw' : Region.wanted ⟨dst, .call ⟨.value g, args, at0⟩, ty, pos, after, gd⟩ (yielded ops a.tmps) = true := wantedX_ok hw hc.tl
        have hargs : args.map a.eval = (l.map (E.real ε.ρ)).toArray := by apply Array.ext'; simpa using evArgs_ok hc.tl hl
        have hrun : (execOp a.eval ⟨dst, .call ⟨.value g, args, at0⟩, ty, pos, after, gd⟩).run P w = .ok (.enter fn (c.real ε.ρ)) w := by
          have := run_callFunc (hfn ▸ he) ((l.map (E.real ε.ρ)).toArray ++ capv) w
          simp only [execOp, resolve, hg, hargs, Deferred.ofValue, Sem.run_bind, Sem.run_pure, Result.andThen_ok, invoke, Array.empty_append, this, hreal]
        have hgop := stepG_op (P := P) (b := base f) (a := a) (k := k0) (cs := cs) (w := w) (rest := rest) ho hw'
        have hfin : ∀ v, ((base f).at a (.inRegion ops (i :: rest) :: k0)).finish v = (base f).at (a.put dst v) (.inRegion ops rest :: k0) := by
          intro v; rw [Frame.finish_at, ho]; rfl
        have henter : step P (lone ((base f).at a (.inRegion ops (i :: rest) :: k0)) cs w) = .next (lone (Frame.enter P fn (c.real ε.ρ) .normal) ((base f).at a (.inRegion ops (i :: rest) :: k0) :: cs) w) :=
          step_lone_go (by rw [hgop]; simp [stepG.apply, hrun, Frame.at])
        obtain ⟨e, w', fr, hS, hcm, _, hlv⟩ := hcall ((base f).at a (.inRegion ops (i :: rest) :: k0) :: cs)
        obtain ⟨v, rfl, hg'⟩ := h e w' hS
        have hd : dstX (.inRegion ops (i :: rest) :: k0) = dst := by simp [dstX, ho]
        rw [hd] at hg'
        obtain ⟨e2, w2, fr2, hR, hcm2, hf2, hl2⟩ := hg' cs
        have hback := step_leave_returned (cs := cs) (c := (base f).at a (.inRegion ops (i :: rest) :: k0)) hlv
        rw [hfin] at hback
        rw [hfn] at hcm
        exact ⟨e2, w2, fr2, hR, Comes.of_steps (Steps.head henter (Steps.trans hcm (Steps.one hback))) hcm2, hf2, hl2⟩
      split at hx
      · rename_i fn caps l hw hg hl
        cases hx
        exact key fn _ l hw (evC_ok hc.tl hg) hl rfl (by simp [CallX.real])
      · rename_i fn capv l hw hg hl
        cases hx
        exact key fn _ l hw (evC_ok hc.tl hg) hl rfl (by simp [CallX.real])
      · cases hx
    · cases hx
  · cases hx

end Go.Proofs.YtoihipolfdhhnaaGreatDoor

namespace Go.Proofs.YtoihipolfdhhnaaGreatDoor

def dtake (T : TypeId → Option TI) (nt : Nat) (ops : Array Oper) : List Nat → Array Bool → St → Option (Array Bool × St)
  | [], l, σ => some (l, σ)
  | i :: is, l, σ => match ops[i]? with
    | some o =>
      if reads o.op && Region.free .any ops l i && (Region.ready .any ops l).contains i then
        match wantedX o ops σ with
        | some true => match xop T o σ with
          | some (some v, σ1) => match putX nt o.dst v σ1 with
            | some σ2 => dtake T nt ops is (l.setIfInBounds i true) σ2
            | none => none
          | _ => none
        | some false => match putX nt o.dst undefX σ with
          | some σ2 => dtake T nt ops is (l.setIfInBounds i true) σ2
          | none => none
        | none => none
      else none
    | none => none

/-- What is wanted behind a region. -/
def Behind (P : Program) (f : FuncId) (k : List Item) (R : Ending → World → Prop) (e : Exit) (a : Act) (w : World) : Prop :=
  e = .normal ∧ Gets P f k a w R

theorem putX_tl {nt : Nat} {dst : Option Nat} {v : SV} {σ σ' : St} {ρ : Nat → Nat} {a : Act} (h : putX nt dst v σ = some σ') (htl : TRel ρ σ.tl a.tmps) (hs : a.tmps.size = nt) :
    TRel ρ σ'.tl (a.put dst (v.real ρ)).tmps ∧ (a.put dst (v.real ρ)).tmps.size = nt ∧ (a.put dst (v.real ρ)).defers = a.defers ∧ σ'.bs = σ.bs ∧ σ'.ob = σ.ob := by
  unfold putX at h
  split at h
  · cases h; exact ⟨htl, hs, rfl, rfl, rfl⟩
  · rename_i d
    split at h
    · rename_i hd
      cases h
      exact ⟨TRel.put htl d (by rw [hs]; exact hd) v, by simp [Act.put, hs], rfl, rfl, rfl⟩
    · cases h

theorem dtake_ob {T : TypeId → Option TI} {nt : Nat} {ops : Array Oper} : ∀ (is : List Nat) (l l' : Array Bool) (σ σ' : St), dtake T nt ops is l σ = some (l', σ') → ∀ p ∈ σ.ob, p ∈ σ'.ob
  | [], l, l', σ, σ', h, p, hp => by simp only [dtake, Option.some.injEq, Prod.mk.injEq] at h; obtain ⟨_, rfl⟩ := h; exact hp
  | i :: is, l, l', σ, σ', h, p, hp => by
    unfold dtake at h
    split at h
    · rename_i o ho
      split at h
      · split at h
        · split at h
          · rename_i v σ1 hx
            split at h
            · rename_i σ2 hp2
              exact dtake_ob is _ _ _ _ h p (by rw [putX_ob hp2]; exact xop_ob hx hp)
            · cases h
          · cases h
        · split at h
          · rename_i σ2 hp2
            exact dtake_ob is _ _ _ _ h p (by rw [putX_ob hp2]; exact hp)
          · cases h
        · cases h
      · cases h
    · cases h

theorem dgets_take {P : Program} {T : TypeId → Option TI} (hT : Tabs P T) {ε : Env} {nt : Nat} {f : FuncId} {ops : Array Oper} {k : List Item} {R : Ending → World → Prop} {bs : List NB} (hsel : Region.noSelect ops = true) {fuel : Nat} {w : World} (hS : Sees ε bs w) :
    ∀ (is : List Nat) (l l' : Array Bool) (σ σ' : St) (a : Act), dtake T nt ops is l σ = some (l', σ') → σ.bs = bs → TRel ε.ρ σ.tl a.tmps → a.tmps.size = nt → σ'.holds ε →
    (∀ a', TRel ε.ρ σ'.tl a'.tmps → a'.tmps.size = nt → a'.defers = a.defers → wpAnyH P .any ops (Behind P f k R) (Sees ε bs) fuel l' a' w) →
    wpAnyH P .any ops (Behind P f k R) (Sees ε bs) (fuel + is.length) l a w
  | [], l, l', σ, σ', a, h, hb, htl, hs, hob, hK => by
    simp only [dtake, Option.some.injEq, Prod.mk.injEq] at h
    obtain ⟨rfl, rfl⟩ := h
    exact hK a htl hs rfl
  | i :: is, l, l', σ, σ', a, h, hb, htl, hs, hob, hK => by
    have hQ : ∀ c a w (o : Oper) (v : Value), Behind P f k R (.panic c) (a.put o.dst v) w → Behind P f k R (.panic c) a w := fun c a w o v h => by cases h.1
    unfold dtake at h
    split at h
    · rename_i o ho
      split at h
      · rename_i hc
        simp only [Bool.and_eq_true] at hc
        obtain ⟨⟨hr, hf⟩, hrd⟩ := hc
        split at h
        · rename_i hw
          split at h
          · rename_i v σ1 hx
            split at h
            · rename_i σ2 hp2
              have hob1 : σ1.holds ε := fun p hp => hob p (dtake_ob is _ _ _ _ h p (by rw [putX_ob hp2]; exact hp))
              obtain ⟨v', hv', hbs, htl1, _⟩ := xop_read (P := P) (w := w) hT hx hr htl (by rw [hb]; exact hS) hob1
              simp only [Option.some.injEq] at hv'
              subst hv'
              obtain ⟨h1, h2, h3, h4, _⟩ := putX_tl (a := a) hp2 (by rw [htl1]; exact htl) hs
              refine wpAnyH_take ho hsel hf hrd (v := v.real ε.ρ) (fun c a w => hQ c a w o _) (.inl ⟨wantedX_ok hw htl, fun w2 hS2 => ?_⟩) hS ?_
              · obtain ⟨v2, hv2, _, _, hrun⟩ := xop_read (P := P) (w := w2) hT hx hr htl (by rw [hb]; exact hS2) hob1
                simp only [Option.some.injEq] at hv2
                subst hv2
                exact hrun
              · exact dgets_take hT hsel hS is _ _ _ _ _ h (by rw [h4, hbs, hb]) h1 h2 hob (fun a' e1 e2 e3 => hK a' e1 e2 (e3.trans h3))
            · cases h
          · cases h
        · rename_i hw
          split at h
          · rename_i σ2 hp2
            obtain ⟨h1, h2, h3, h4, _⟩ := putX_tl (a := a) hp2 htl hs
            refine wpAnyH_take ho hsel hf hrd (v := undef) (fun c a w => hQ c a w o _) (.inr ⟨wantedX_ok hw htl, rfl⟩) hS ?_
            exact dgets_take hT hsel hS is _ _ _ _ _ h (by rw [h4, hb]) h1 h2 hob (fun a' e1 e2 e3 => hK a' e1 e2 (e3.trans h3))
          · cases h
        · cases h
      · cases h
    · cases h

theorem dgets_done {P : Program} {f : FuncId} {ops : Array Oper} {k : List Item} {R : Ending → World → Prop} {S : World → Prop} {listed : Array Bool} {a : Act} {w : World} (fuel : Nat)
    (hr : Region.ready .any ops listed = []) (h : Gets P f k a w R) : wpAnyH P .any ops (Behind P f k R) S fuel listed a w :=
  wpAnyH_done hr ⟨rfl, h⟩ fuel

theorem gets_draw {P : Program} {f : FuncId} {id : Nat} {ops : Array Oper} {k : List Item} {a : Act} {w : World} {R : Ending → World → Prop} {S : World → Prop} (hm : P.follows .mixedOrders = true)
    (h : wpAnyH P .any ops (Behind P f k R) S ops.size (Array.replicate ops.size false) a { w with drawn := w.drawn + 1 }) : Gets P f (.code (.region id ops true) :: k) a w R := by
  intro cs
  obtain ⟨e, a', w', ⟨he, hg⟩, harr⟩ := wp_region_held hm h (base f) k cs
  subst he
  obtain ⟨e2, w2, fr, hR, hc, hf, hl⟩ := hg cs
  exact ⟨e2, w2, fr, hR, Comes.of_steps harr hc, hf, hl⟩

theorem dgets_call {P : Program} {ε : Env} {f : FuncId} {ops : Array Oper} {k : List Item} {σ : St} {a : Act} {w : World} {R Sp : Ending → World → Prop} {S : World → Prop} {c : CallX} {fuel : Nat} {listed : Array Bool} {i : Nat}
    (htl : TRel ε.ρ σ.tl a.tmps) (hr : Region.ready .any ops listed = [i]) (hx : callX [.inRegion ops [i]] σ = some c) (he : enters P c.fn = true) (hcall : Calls P c.fn (c.real ε.ρ) w Sp)
    (h : ∀ e w', Sp e w' → ∃ v, e = .returned v ∧ S w' ∧ wpAnyH P .any ops (Behind P f k R) S fuel (listed.setIfInBounds i true) (a.put (dstX [.inRegion ops [i]]) v) w') :
    wpAnyH P .any ops (Behind P f k R) S (fuel + 1) listed a w := by
  refine wpAnyH_all hr (by simp) (fun j hj => ?_)
  simp only [List.mem_singleton] at hj
  subst hj
  unfold callX at hx
  simp only at hx
  split at hx
  · rename_i dst g args at0 ty pos after gd ho
    have key : ∀ (fn : FuncId) (capv : Array Value) (l : List E), wantedX ⟨none, .move g, 0, default, #[], gd⟩ ops σ = some true → a.eval g = .func (.func fn) #[] capv → evArgs σ args.toList = some l →
        c.fn = fn → c.real ε.ρ = (l.map (E.real ε.ρ)).toArray ++ capv →
        wpOp P ops (Behind P f k R) j (fun a' w' => S w' ∧ wpAnyH P .any ops (Behind P f k R) S fuel (listed.setIfInBounds j true) a' w') a w := by
      intro fn capv l hw hg hl hfn hreal
      have hw' : Region.wanted ⟨dst, .call ⟨.value g, args, at0⟩, ty, pos, after, gd⟩ (yielded ops a.tmps) = true := wantedX_ok hw htl
      have hargs : args.map a.eval = (l.map (E.real ε.ρ)).toArray := by apply Array.ext'; simpa using evArgs_ok htl hl
      have hrun : (execOp a.eval ⟨dst, .call ⟨.value g, args, at0⟩, ty, pos, after, gd⟩).run P w = .ok (.enter fn (c.real ε.ρ)) w := by
        have := run_callFunc (hfn ▸ he) ((l.map (E.real ε.ρ)).toArray ++ capv) w
        simp only [execOp, resolve, hg, hargs, Deferred.ofValue, Sem.run_bind, Sem.run_pure, Result.andThen_ok, invoke, Array.empty_append, this, hreal]
      unfold wpOp
      simp only [ho, hw', if_true]
      refine .inl ?_
      unfold Oper.wp
      rw [hrun]
      simp only [Oper.upon]
      rw [← hfn]
      refine Calls.mono hcall fun e w' hSp => ?_
      obtain ⟨v, rfl, hS, hK⟩ := h e w' hSp
      have hd : dstX [.inRegion ops [j]] = dst := by simp [dstX, ho]
      rw [hd] at hK
      exact ⟨hS, hK⟩
    split at hx
    · rename_i fn caps l hw hg hl
      cases hx
      exact key fn _ l hw (evC_ok htl hg) hl rfl (by simp [CallX.real])
    · rename_i fn capv l hw hg hl
      cases hx
      exact key fn _ l hw (evC_ok htl hg) hl rfl (by simp [CallX.real])
    · cases hx
  · cases hx

/-- An operation that makes or writes memory, where it alone may come up. -/
theorem dgets_op {P : Program} {T : TypeId → Option TI} (hT : Tabs P T) {ε : Env} {nt : Nat} {f : FuncId} {ops : Array Oper} {k : List Item} {σ σ1 σ2 : St} {a : Act} {w : World} {R : Ending → World → Prop} {S : World → Prop} {fuel : Nat} {listed : Array Bool} {i : Nat} {o : Oper} {r : Option SV}
    (hc : CRel ε nt σ a w) (hr : Region.ready .any ops listed = [i]) (ho : ops[i]? = some o) (hw : wantedX o ops σ = some true) (hx : xop T o σ = some (r, σ1)) (hp : putX nt o.dst (r.getD undefX) σ1 = some σ2) (hob : σ2.holds ε)
    (h : ∀ a' w', CRel ε nt σ2 a' w' → S w' ∧ wpAnyH P .any ops (Behind P f k R) S fuel (listed.setIfInBounds i true) a' w') :
    wpAnyH P .any ops (Behind P f k R) S (fuel + 1) listed a w := by
  refine wpAnyH_all hr (by simp) (fun j hj => ?_)
  simp only [List.mem_singleton] at hj
  subst hj
  have hob1 : σ1.holds ε := fun p hp' => hob p (by rw [putX_ob hp]; exact hp')
  obtain ⟨htl, w', hrel, hrun⟩ := xop_ok hT hx hc.tl hc.mem hob1
  have hc1 : CRel ε nt σ1 a w' := ⟨by rw [htl]; exact hc.tl, hc.size, hc.defers, hrel⟩
  obtain ⟨h1, _⟩ := putX_ok hp hc1
  have hw' := wantedX_ok hw hc.tl
  unfold wpOp
  simp only [ho, hw', if_true]
  refine .inl ?_
  unfold Oper.wp
  rw [hrun]
  have := h _ _ h1
  cases r with
  | none => exact this
  | some v => exact this

theorem Sees.drew {ε : Env} {bs : List NB} {w : World} (h : Sees ε bs w) (n : Nat) : Sees ε bs { w with drawn := n } := ⟨h.cells, h.ro⟩
theorem Rel.drew {ε : Env} {bs : List NB} {w : World} (h : Rel ε bs w) (n : Nat) : Rel ε bs { w with drawn := n } :=
  ⟨h.cells, h.inj, h.n0, h.size, h.new, h.old, h.keep, h.ro, h.os, h.tape, h.output⟩

/- A NEW REACH OF NAMES, BEHIND A CALL -/

/-- No names at all: what lies in the memory now is old. -/
def fresh (w : World) : Env := ⟨fun i => w.heap.size + i, 0, w, fun _ => none⟩

theorem CRel.fresh {nt : Nat} {a : Act} {w : World} (hs : a.tmps.size = nt) (hd : a.defers = []) : CRel (fresh w) nt { tl := [], bs := [] } a w :=
  ⟨fun _ _ h => (by cases h), hs, hd, ⟨fun _ _ h => (by simp at h), fun _ _ h => (by simp at h), Nat.le_refl _, (by simp [Go.Proofs.YtoihipolfdhhnaaGreatDoor.fresh]), fun _ _ => rfl, fun _ h => (by cases h), fun _ _ _ => rfl, fun _ _ h => (by cases h), rfl, rfl, rfl⟩⟩

def C.below (n : Nat) : C → Bool
  | .p b _ => b < n
  | .nsl b _ _ _ => b < n
  | .f _ caps => caps.all fun | .n b _ => b < n | .r _ => true
  | _ => true
def E.below (n : Nat) : E → Bool
  | .c x => x.below n
  | .a l => l.all (C.below n)
def SV.below (n : Nat) : SV → Bool
  | .e x => x.below n
  | .t l => l.all (E.below n)

theorem C.real_below {ρ ρ' : Nat → Nat} {n : Nat} (hρ : ∀ i, i < n → ρ' i = ρ i) {x : C} (h : x.below n = true) : x.real ρ' = x.real ρ := by
  cases x <;> simp only [C.below, decide_eq_true_eq] at h <;> simp only [C.real]
  · rw [hρ _ h]
  · rename_i fn caps
    congr 2
    apply List.map_congr_left
    intro p hp
    have := List.all_eq_true.1 h p hp
    cases p with
    | n b o => simp only [decide_eq_true_eq] at this; simp only [PP.real, hρ _ this]
    | r a => rfl
  · rw [hρ _ h]

theorem E.real_below {ρ ρ' : Nat → Nat} {n : Nat} (hρ : ∀ i, i < n → ρ' i = ρ i) {x : E} (h : x.below n = true) : x.real ρ' = x.real ρ := by
  cases x with
  | c x => exact C.real_below hρ h
  | a l =>
    simp only [E.real]
    congr 2
    apply List.map_congr_left
    intro p hp
    exact C.real_below hρ (List.all_eq_true.1 h p hp)

theorem SV.real_below {ρ ρ' : Nat → Nat} {n : Nat} (hρ : ∀ i, i < n → ρ' i = ρ i) {x : SV} (h : x.below n = true) : x.real ρ' = x.real ρ := by
  cases x with
  | e x => exact E.real_below hρ h
  | t l =>
    simp only [SV.real]
    congr 2
    apply List.map_congr_left
    intro p hp
    exact E.real_below hρ (List.all_eq_true.1 h p hp)

/-- Behind a call: the same names, the same slots, a new base; the named blocks as they are now. -/
def Env.next (ε : Env) (n : Nat) (w : World) (ro : Addr → Option Value) : Env := ⟨fun i => if i < n then ε.ρ i else w.heap.size + (i - n), n, w, ro⟩

theorem CRel.next {ε : Env} {nt : Nat} {tl : List (Nat × SV)} {bs' : List NB} {a : Act} {w' : World} (n : Nat) (ro : Addr → Option Value)
    (htl : TRel ε.ρ tl a.tmps) (hs : a.tmps.size = nt) (hd : a.defers = []) (hn : bs'.length = n)
    (hinj : ∀ i j, i < n → j < n → ε.ρ i = ε.ρ j → i = j)
    (hc : ∀ i b, bs'[i]? = some b → w'.heap[ε.ρ i]? = some (.cells (b.cs.map (C.real ε.ρ)).toArray b.ty (0, 0)))
    (hro : ∀ a v, ro a = some v → w'.cell? a = some v ∧ ∀ i, i < n → ε.ρ i ≠ a.block)
    (hb : (tl.all fun x => x.2.below n) = true) (hb' : (bs'.all fun b => b.cs.all (C.below n)) = true) : CRel (ε.next n w' ro) nt { tl := tl, bs := bs' } a w' := by
  have hρ : ∀ i, i < n → (ε.next n w' ro).ρ i = ε.ρ i := fun i hi => by simp [Env.next, hi]
  have hlt : ∀ i, i < n → ε.ρ i < w'.heap.size := by
    intro i hi
    have h1 := hc i (bs'[i]'(by omega)) (List.getElem?_eq_getElem (by omega))
    rcases Nat.lt_or_ge (ε.ρ i) w'.heap.size with h2 | h2
    · exact h2
    · rw [Array.getElem?_eq_none h2] at h1; cases h1
  refine ⟨?_, hs, hd, ⟨?_, ?_, by simp [Env.next, hn], by simp [Env.next, hn], fun i hi => ?_, fun i hi => ?_, fun k _ _ => rfl, fun ad v hv => ?_, rfl, rfl, rfl⟩⟩
  · intro d v h
    have h1 := htl d v h
    have hv : v.below n = true := by
      have : (d, v) ∈ tl := by
        clear hb htl h1
        induction tl with
        | nil => cases h
        | cons x l ih =>
          obtain ⟨x1, x2⟩ := x
          simp only [lk] at h
          split at h
          · rename_i e; cases h; subst e; simp
          · exact List.mem_cons_of_mem _ (ih h)
      exact List.all_eq_true.1 hb _ this
    rw [h1, SV.real_below hρ hv]
  · intro i b h
    have hi : i < n := by rw [← hn]; exact (List.getElem?_eq_some_iff.1 h).1
    rw [hρ i hi, hc i b h]
    congr 3
    apply List.map_congr_left
    intro c hcm
    have := List.all_eq_true.1 hb' b (List.mem_of_getElem? h)
    exact (C.real_below hρ (List.all_eq_true.1 this c hcm)).symm
  · intro i j hi hj e
    rw [hn] at hi hj
    rw [hρ i hi, hρ j hj] at e
    exact hinj i j hi hj e
  · simp only [Env.next] at hi ⊢
    rw [if_neg (by omega)]
  · simp only [Env.next] at hi ⊢
    rw [if_pos hi]; exact hlt i hi
  · obtain ⟨h1, h2⟩ := hro ad v hv
    refine ⟨h1, fun i hi => ?_⟩
    rw [hn] at hi
    rw [hρ i hi]; exact h2 i hi

end Go.Proofs.YtoihipolfdhhnaaGreatDoor

namespace Go.Proofs.YtoihipolfdhhnaaGreatDoor

theorem TIok.mk' {P : Program} {t : TypeId} {i : TI} (zs : List Value) {d : TypeDesc} (h1 : (P.info? t).map (fun j => (j.size, j.zero.map fun z => z.cells)) = some (i.size, some zs.toArray))
    (h2 : C.ofVs zs = some i.zero) (h4 : (match d with | .struct _ | .array _ _ => true | _ => false) = i.agg) (h3 : P.underlying t = some d) (h5 : i.kd.fits d) : TIok P t i := by
  refine ⟨?_, d, h3, h4, h5⟩
  cases hj : P.info? t with
  | none => rw [hj] at h1; cases h1
  | some j =>
    rw [hj] at h1
    simp only [Option.map_some, Option.some.injEq, Prod.mk.injEq] at h1
    cases hz : j.zero with
    | none => rw [hz] at h1; simp at h1
    | some z =>
      rw [hz] at h1
      simp only [Option.map_some, Option.some.injEq] at h1
      refine ⟨j, rfl, h1.1, z, hz, fun ρ => ?_⟩
      rw [h1.2, C.ofVs_real h2 ρ]

def ti2 : TI := ⟨1, false, [.int .i64 0], .int .i64⟩
theorem ti2_ok : TIok Tryz.prog 2 ti2 :=
  .mk' [.int .i64 0] (by kernel_rfl) rfl rfl Tryz.underlying2 rfl
def ti3 : TI := ⟨1, false, [.int .i64 0], .int .i64⟩
theorem ti3_ok : TIok Tryz.prog 3 ti3 :=
  .mk' [.int .i64 0] (by kernel_rfl) rfl rfl Tryz.underlying3 rfl
def ti4 : TI := ⟨1, false, [.bool false], .bool⟩
theorem ti4_ok : TIok Tryz.prog 4 ti4 :=
  .mk' [.bool false] (by kernel_rfl) rfl rfl Tryz.underlying4 rfl
def ti5 : TI := ⟨1, false, [.int .u8 0], .int .u8⟩
theorem ti5_ok : TIok Tryz.prog 5 ti5 :=
  .mk' [.int .u8 0] (by kernel_rfl) rfl rfl Tryz.underlying5 rfl
def ti9 : TI := ⟨1, false, [.str ⟨#[]⟩], .str⟩
theorem ti9_ok : TIok Tryz.prog 9 ti9 :=
  .mk' [.string ⟨#[]⟩] (by kernel_rfl) rfl rfl Tryz.underlying9 rfl
def ti21 : TI := ⟨1, false, [.int .i32 0], .int .i32⟩
theorem ti21_ok : TIok Tryz.prog 21 ti21 :=
  .mk' [.int .i32 0] (by kernel_rfl) rfl rfl Tryz.underlying21 rfl
def ti22 : TI := ⟨1, false, [.sl none 0 0], .slice 9⟩
theorem ti22_ok : TIok Tryz.prog 22 ti22 :=
  .mk' [.slice none 0 0] (by kernel_rfl) rfl rfl Tryz.underlying22 rfl
def ti23 : TI := ⟨1, false, [.sl none 0 0], .slice 35⟩
theorem ti23_ok : TIok Tryz.prog 23 ti23 :=
  .mk' [.slice none 0 0] (by kernel_rfl) rfl rfl Tryz.underlying23 rfl
def ti26 : TI := ⟨1, false, [.nilp], .ptr⟩
theorem ti26_ok : TIok Tryz.prog 26 ti26 :=
  .mk' [.pointer none] (by kernel_rfl) rfl rfl Tryz.underlying26 ⟨_, rfl⟩
def ti29 : TI := ⟨1, false, [.int .i64 0], .int .i64⟩
theorem ti29_ok : TIok Tryz.prog 29 ti29 :=
  .mk' [.int .i64 0] (by kernel_rfl) rfl rfl Tryz.underlying29 rfl
def ti31 : TI := ⟨8, true, [.int .i64 0, .int .i64 0, .int .i64 0, .int .i64 0, .int .i64 0, .int .i64 0, .int .i64 0, .int .i64 0], .struct [(3, 0), (3, 1), (3, 2), (3, 3), (3, 4), (3, 5), (3, 6), (3, 7)]⟩
theorem ti31_ok : TIok Tryz.prog 31 ti31 :=
  .mk' [.int .i64 0, .int .i64 0, .int .i64 0, .int .i64 0, .int .i64 0, .int .i64 0, .int .i64 0, .int .i64 0] (by kernel_rfl) rfl rfl Tryz.underlying31 ⟨_, rfl, rfl⟩
def ti33 : TI := ⟨5, true, [.int .i64 0, .int .i64 0, .int .i64 0, .int .i64 0, .int .i64 0], .struct [(3, 0), (3, 1), (3, 2), (3, 3), (3, 4)]⟩
theorem ti33_ok : TIok Tryz.prog 33 ti33 :=
  .mk' [.int .i64 0, .int .i64 0, .int .i64 0, .int .i64 0, .int .i64 0] (by kernel_rfl) rfl rfl Tryz.underlying33 ⟨_, rfl, rfl⟩
def ti35 : TI := ⟨19, true, [.int .i64 0, .int .i64 0, .int .i64 0, .str ⟨#[]⟩, .sl none 0 0, .int .i64 0, .int .i64 0, .int .i64 0, .int .i64 0, .int .i64 0, .int .i64 0, .int .i64 0, .int .i64 0, .int .i64 0, .int .i64 0, .int .i64 0, .int .i64 0, .int .i64 0, .int .i64 0], .struct [(29, 0), (3, 1), (3, 2), (9, 3), (22, 4), (31, 5), (3, 13), (33, 14)]⟩
theorem ti35_ok : TIok Tryz.prog 35 ti35 :=
  .mk' [.int .i64 0, .int .i64 0, .int .i64 0, .string ⟨#[]⟩, .slice none 0 0, .int .i64 0, .int .i64 0, .int .i64 0, .int .i64 0, .int .i64 0, .int .i64 0, .int .i64 0, .int .i64 0, .int .i64 0, .int .i64 0, .int .i64 0, .int .i64 0, .int .i64 0, .int .i64 0] (by kernel_rfl) rfl rfl Tryz.underlying35 ⟨_, rfl, rfl⟩
def ti37 : TI := ⟨6, true, [.int .i64 0, .bool false, .bool false, .bool false, .bool false, .int .i64 0], .struct [(3, 0), (4, 1), (4, 2), (4, 3), (4, 4), (3, 5)]⟩
theorem ti37_ok : TIok Tryz.prog 37 ti37 :=
  .mk' [.int .i64 0, .bool false, .bool false, .bool false, .bool false, .int .i64 0] (by kernel_rfl) rfl rfl Tryz.underlying37 ⟨_, rfl, rfl⟩
def ti39 : TI := ⟨20, true, [.int .i64 0, .str ⟨#[]⟩, .str ⟨#[]⟩, .str ⟨#[]⟩, .int .i64 0, .int .i64 0, .int .i64 0, .int .i64 0, .int .i64 0, .int .i64 0, .int .i64 0, .bool false, .bool false, .bool false, .bool false, .int .i64 0, .bool false, .bool false, .sl none 0 0, .sl none 0 0], .struct [(3, 0), (9, 1), (9, 2), (9, 3), (3, 4), (3, 5), (3, 6), (3, 7), (3, 8), (3, 9), (37, 10), (4, 16), (4, 17), (22, 18), (22, 19)]⟩
theorem ti39_ok : TIok Tryz.prog 39 ti39 :=
  .mk' [.int .i64 0, .string ⟨#[]⟩, .string ⟨#[]⟩, .string ⟨#[]⟩, .int .i64 0, .int .i64 0, .int .i64 0, .int .i64 0, .int .i64 0, .int .i64 0, .int .i64 0, .bool false, .bool false, .bool false, .bool false, .int .i64 0, .bool false, .bool false, .slice none 0 0, .slice none 0 0] (by kernel_rfl) rfl rfl Tryz.underlying39 ⟨_, rfl, rfl⟩
def ti44 : TI := ⟨1, false, [.sl none 0 0], .slice 22⟩
theorem ti44_ok : TIok Tryz.prog 44 ti44 :=
  .mk' [.slice none 0 0] (by kernel_rfl) rfl rfl Tryz.underlying44 rfl
def ti47 : TI := ⟨1, false, [.sl none 0 0], .slice 3⟩
theorem ti47_ok : TIok Tryz.prog 47 ti47 :=
  .mk' [.slice none 0 0] (by kernel_rfl) rfl rfl Tryz.underlying47 rfl
def ti55 : TI := ⟨1, false, [.nilf], .func⟩
theorem ti55_ok : TIok Tryz.prog 55 ti55 :=
  .mk' [.nilFunc] (by kernel_rfl) rfl rfl Tryz.underlying55 ⟨_, _, _, rfl⟩
def ti57 : TI := ⟨1, false, [.nilp], .ptr⟩
theorem ti57_ok : TIok Tryz.prog 57 ti57 :=
  .mk' [.pointer none] (by kernel_rfl) rfl rfl Tryz.underlying57 ⟨_, rfl⟩
def ti60 : TI := ⟨2, true, [.str ⟨#[]⟩, .int .i64 0], .struct [(9, 0), (3, 1)]⟩
theorem ti60_ok : TIok Tryz.prog 60 ti60 :=
  .mk' [.string ⟨#[]⟩, .int .i64 0] (by kernel_rfl) rfl rfl Tryz.underlying60 ⟨_, rfl, rfl⟩
def ti63 : TI := ⟨1, false, [.sl none 0 0], .slice 84⟩
theorem ti63_ok : TIok Tryz.prog 63 ti63 :=
  .mk' [.slice none 0 0] (by kernel_rfl) rfl rfl Tryz.underlying63 rfl
def ti64 : TI := ⟨1, false, [.nilf], .func⟩
theorem ti64_ok : TIok Tryz.prog 64 ti64 :=
  .mk' [.nilFunc] (by kernel_rfl) rfl rfl Tryz.underlying64 ⟨_, _, _, rfl⟩
def ti66 : TI := ⟨26, true, [.str ⟨#[]⟩, .int .i64 0, .int .i64 0, .sl none 0 0, .nilf, .int .i64 0, .str ⟨#[]⟩, .str ⟨#[]⟩, .str ⟨#[]⟩, .int .i64 0, .int .i64 0, .int .i64 0, .int .i64 0, .int .i64 0, .int .i64 0, .int .i64 0, .bool false, .bool false, .bool false, .bool false, .int .i64 0, .bool false, .bool false, .sl none 0 0, .sl none 0 0, .bool false], .struct [(60, 0), (3, 2), (63, 3), (64, 4), (39, 5), (4, 25)]⟩
theorem ti66_ok : TIok Tryz.prog 66 ti66 :=
  .mk' [.string ⟨#[]⟩, .int .i64 0, .int .i64 0, .slice none 0 0, .nilFunc, .int .i64 0, .string ⟨#[]⟩, .string ⟨#[]⟩, .string ⟨#[]⟩, .int .i64 0, .int .i64 0, .int .i64 0, .int .i64 0, .int .i64 0, .int .i64 0, .int .i64 0, .bool false, .bool false, .bool false, .bool false, .int .i64 0, .bool false, .bool false, .slice none 0 0, .slice none 0 0, .bool false] (by kernel_rfl) rfl rfl Tryz.underlying66 ⟨_, rfl, rfl⟩
def ti67 : TI := ⟨1, false, [.nilf], .func⟩
theorem ti67_ok : TIok Tryz.prog 67 ti67 :=
  .mk' [.nilFunc] (by kernel_rfl) rfl rfl Tryz.underlying67 ⟨_, _, _, rfl⟩
def ti69 : TI := ⟨1, true, [.nilp], .struct [(57, 0)]⟩
theorem ti69_ok : TIok Tryz.prog 69 ti69 :=
  .mk' [.pointer none] (by kernel_rfl) rfl rfl Tryz.underlying69 ⟨_, rfl, rfl⟩
def ti71 : TI := ⟨1, false, [.nilp], .ptr⟩
theorem ti71_ok : TIok Tryz.prog 71 ti71 :=
  .mk' [.pointer none] (by kernel_rfl) rfl rfl Tryz.underlying71 ⟨_, rfl⟩
def ti73 : TI := ⟨25, true, [.sl none 0 0, .int .i64 0, .int .i64 0, .str ⟨#[]⟩, .str ⟨#[]⟩, .str ⟨#[]⟩, .int .i64 0, .int .i64 0, .int .i64 0, .int .i64 0, .int .i64 0, .int .i64 0, .int .i64 0, .bool false, .bool false, .bool false, .bool false, .int .i64 0, .bool false, .bool false, .sl none 0 0, .sl none 0 0, .bool false, .str ⟨#[]⟩, .int .i64 0], .struct [(23, 0), (3, 1), (39, 2), (4, 22), (9, 23), (3, 24)]⟩
theorem ti73_ok : TIok Tryz.prog 73 ti73 :=
  .mk' [.slice none 0 0, .int .i64 0, .int .i64 0, .string ⟨#[]⟩, .string ⟨#[]⟩, .string ⟨#[]⟩, .int .i64 0, .int .i64 0, .int .i64 0, .int .i64 0, .int .i64 0, .int .i64 0, .int .i64 0, .bool false, .bool false, .bool false, .bool false, .int .i64 0, .bool false, .bool false, .slice none 0 0, .slice none 0 0, .bool false, .string ⟨#[]⟩, .int .i64 0] (by kernel_rfl) rfl rfl Tryz.underlying73 ⟨_, rfl, rfl⟩
def ti75 : TI := ⟨1, false, [.int .u64 0], .int .u64⟩
theorem ti75_ok : TIok Tryz.prog 75 ti75 :=
  .mk' [.int .u64 0] (by kernel_rfl) rfl rfl Tryz.underlying75 rfl
def ti76 : TI := ⟨1, false, [.sl none 0 0], .slice 5⟩
theorem ti76_ok : TIok Tryz.prog 76 ti76 :=
  .mk' [.slice none 0 0] (by kernel_rfl) rfl rfl Tryz.underlying76 rfl
def ti79 : TI := ⟨1, false, [.nilf], .func⟩
theorem ti79_ok : TIok Tryz.prog 79 ti79 :=
  .mk' [.nilFunc] (by kernel_rfl) rfl rfl Tryz.underlying79 ⟨_, _, _, rfl⟩
def ti81 : TI := ⟨1, false, [.nilf], .func⟩
theorem ti81_ok : TIok Tryz.prog 81 ti81 :=
  .mk' [.nilFunc] (by kernel_rfl) rfl rfl Tryz.underlying81 ⟨_, _, _, rfl⟩
def ti84 : TI := ⟨2, true, [.nilf, .bool false], .struct [(67, 0), (4, 1)]⟩
theorem ti84_ok : TIok Tryz.prog 84 ti84 :=
  .mk' [.nilFunc, .bool false] (by kernel_rfl) rfl rfl Tryz.underlying84 ⟨_, rfl, rfl⟩
def ti117 : TI := ⟨1, false, [.nilf], .func⟩
theorem ti117_ok : TIok Tryz.prog 117 ti117 :=
  .mk' [.nilFunc] (by kernel_rfl) rfl rfl Tryz.underlying117 ⟨_, _, _, rfl⟩

def Tab : TypeId → Option TI
  | 2 => some ti2
  | 3 => some ti3
  | 4 => some ti4
  | 5 => some ti5
  | 9 => some ti9
  | 21 => some ti21
  | 22 => some ti22
  | 23 => some ti23
  | 26 => some ti26
  | 29 => some ti29
  | 31 => some ti31
  | 33 => some ti33
  | 35 => some ti35
  | 37 => some ti37
  | 39 => some ti39
  | 44 => some ti44
  | 47 => some ti47
  | 55 => some ti55
  | 57 => some ti57
  | 60 => some ti60
  | 63 => some ti63
  | 64 => some ti64
  | 66 => some ti66
  | 67 => some ti67
  | 69 => some ti69
  | 71 => some ti71
  | 73 => some ti73
  | 75 => some ti75
  | 76 => some ti76
  | 79 => some ti79
  | 81 => some ti81
  | 84 => some ti84
  | 117 => some ti117
  | _ => none

theorem tab_ok : Tabs Tryz.prog Tab := by
  intro t i h
  unfold Tab at h
  split at h <;> first | (cases h; done) | skip
  · cases h; exact ti2_ok
  · cases h; exact ti3_ok
  · cases h; exact ti4_ok
  · cases h; exact ti5_ok
  · cases h; exact ti9_ok
  · cases h; exact ti21_ok
  · cases h; exact ti22_ok
  · cases h; exact ti23_ok
  · cases h; exact ti26_ok
  · cases h; exact ti29_ok
  · cases h; exact ti31_ok
  · cases h; exact ti33_ok
  · cases h; exact ti35_ok
  · cases h; exact ti37_ok
  · cases h; exact ti39_ok
  · cases h; exact ti44_ok
  · cases h; exact ti47_ok
  · cases h; exact ti55_ok
  · cases h; exact ti57_ok
  · cases h; exact ti60_ok
  · cases h; exact ti63_ok
  · cases h; exact ti64_ok
  · cases h; exact ti66_ok
  · cases h; exact ti67_ok
  · cases h; exact ti69_ok
  · cases h; exact ti71_ok
  · cases h; exact ti73_ok
  · cases h; exact ti75_ok
  · cases h; exact ti76_ok
  · cases h; exact ti79_ok
  · cases h; exact ti81_ok
  · cases h; exact ti84_ok
  · cases h; exact ti117_ok

end Go.Proofs.YtoihipolfdhhnaaGreatDoor

namespace Go.Proofs.YtoihipolfdhhnaaGreatDoor

def CallD.cs (c : CallD) : List C := [.int .i64 c.op, .str c.path, .str c.as_, .str c.text, .int .i64 c.fd, .int .i64 c.to_, .int .i64 c.n, .int .i64 c.mode, .int .i64 c.owner, .int .i64 c.group, .int .i64 c.want, .bool c.make, .bool c.alone, .bool c.empty, .bool c.atEnd, .int .i64 c.hmode, .bool c.line, .bool c.dir, .sl none 0 0, .sl none 0 0]

def InfoD.cs (c : InfoD) : List C := [.int .i64 c.ino, .int .i64 c.kind, .int .i64 c.mode, .int .i64 c.owner, .int .i64 c.group, .int .i64 c.links, .int .i64 c.size, .int .i64 c.tty]
def CredD.cs (c : CredD) : List C := [.int .i64 c.real_, .int .i64 c.eff, .int .i64 c.saved, .int .i64 c.group, .int .i64 c.effGroup]

/-- An answer's cells; its names are the slice a n c. -/
def Res.cs (r : Res) (a : Option Addr) (n c : Nat) : List C :=
  [.int .i64 r.err, .int .i64 r.n, .int .i64 r.m, .str r.text, .sl a n c, .int .i64 r.info.ino, .int .i64 r.info.kind, .int .i64 r.info.mode, .int .i64 r.info.owner, .int .i64 r.info.group, .int .i64 r.info.links, .int .i64 r.info.size, .int .i64 r.info.tty, .int .i64 r.may, .int .i64 r.cred.real_, .int .i64 r.cred.eff, .int .i64 r.cred.saved, .int .i64 r.cred.group, .int .i64 r.cred.effGroup]

/-- The real cells of a list without names. -/
def plainR (l : List C) : Array Value := (l.map (C.real fun _ => 0)).toArray

/-- A bound, and blocks that somebody else writes. -/
structure Bd where
  n : Nat
  x : List Nat

instance : Coe Bd Nat := ⟨Bd.n⟩

/-- The real blocks of boxes: number k holds one cell. -/
def Box (B : Bd) (w : World) (k : Nat) (T : TypeId) (v : Value) : Prop := w.heap[k]? = some (.cells #[v] T (0, 0)) ∧ k ∉ B.x

/-- A block that the machine never writes: older than B, or neither a machine nor a row of steps nor a call nor an answer of somebody else's. -/
def Safe (B : Bd) (w : World) (k : Nat) : Prop := k < B ∨ ∃ c T fr, w.heap[k]? = some (.cells c T fr) ∧ T ≠ 66 ∧ T ≠ 84 ∧ T ≠ 39 ∧ k ∉ B.x

structure Keep (B : Bd) (w w' : World) : Prop where
  os : w'.os = w.os
  tape : w'.tape = w.tape
  output : w'.output = w.output
  size : w.heap.size ≤ w'.heap.size
  block : ∀ k, k < w.heap.size → Safe B w k → w'.heap[k]? = w.heap[k]?

theorem Keep.refl (B : Bd) (w : World) : Keep B w w := ⟨rfl, rfl, rfl, Nat.le_refl _, fun _ _ _ => rfl⟩

theorem Safe.keep {B : Bd} {w w' : World} {k : Nat} (h : Safe B w k) (hk : k < w.heap.size) (hw : Keep B w w') : Safe B w' k := by
  rcases h with h | ⟨c, T, fr, h1, h2⟩
  · exact .inl h
  · exact .inr ⟨c, T, fr, by rw [hw.block k hk (.inr ⟨c, T, fr, h1, h2⟩)]; exact h1, h2⟩

theorem Keep.trans {B : Bd} {a b c : World} (h : Keep B a b) (k : Keep B b c) : Keep B a c :=
  ⟨k.os.trans h.os, k.tape.trans h.tape, k.output.trans h.output, Nat.le_trans h.size k.size, fun i hi hs =>
    (k.block i (Nat.lt_of_lt_of_le hi h.size) (hs.keep hi h)).trans (h.block i hi hs)⟩

theorem lt_of_block {w : World} {k : Nat} {o : Obj} (h : w.heap[k]? = some o) : k < w.heap.size := (Array.getElem?_eq_some_iff.1 h).1

theorem Keep.cells {B : Bd} {w w' : World} (h : Keep B w w') {k : Nat} {c : Array Value} {T : TypeId} {fr : Nat × Nat} (hk : w.heap[k]? = some (.cells c T fr)) (h1 : T ≠ 66) (h2 : T ≠ 84) (h3 : T ≠ 39) (h4 : k ∉ B.x) :
    w'.heap[k]? = some (.cells c T fr) := by
  rw [h.block k (lt_of_block hk) (.inr ⟨c, T, fr, hk, h1, h2, h3, h4⟩)]; exact hk

theorem Box.keep {B : Bd} {w w' : World} {k : Nat} {T : TypeId} {v : Value} (h : Box B w k T v) (hw : Keep B w w') (h1 : T ≠ 66 := by decide) (h2 : T ≠ 84 := by decide) (h3 : T ≠ 39 := by decide) : Box B w' k T v := ⟨hw.cells h.1 h1 h2 h3 h.2, h.2⟩

/-- A slice of texts. -/
structure StrsAt (B : Bd) (w : World) (a : Option Addr) (n c : Nat) (l : List ByteArray) : Prop where
  len : n = l.length
  cap : n ≤ c
  at_ : ∀ j s, l[j]? = some s → ∃ ad, a = some ad ∧ w.cell? (ad.add j) = some (.string s) ∧ Safe B w ad.block

theorem addr_add_block (a : Addr) (n : Nat) : (a.add n).block = a.block := by unfold Addr.add; split <;> rfl

theorem addr_add_add (a : Addr) (m n : Nat) (h : m ≠ 0 ∨ n = 0) : (a.add m).add n = a.add (m + n) := by
  unfold Addr.add
  by_cases hm : m = 0 <;> by_cases hn : n = 0 <;> simp_all [Nat.add_assoc]

theorem StrsAt.keep {B : Bd} {w w' : World} {a : Option Addr} {n c : Nat} {l : List ByteArray} (h : StrsAt B w a n c l) (hw : Keep B w w') : StrsAt B w' a n c l :=
  ⟨h.len, h.cap, fun j s hj => by
    obtain ⟨ad, h1, h2, h3⟩ := h.at_ j s hj
    have hlt := World.block_lt_of_cell? w _ h2
    rw [addr_add_block] at hlt
    refine ⟨ad, h1, ?_, h3.keep hlt hw⟩
    have := hw.block ad.block hlt h3
    have e : w'.cell? (ad.add j) = w.cell? (ad.add j) := World.cell?_of_block (by rw [addr_add_block]; exact this)
    rw [e]; exact h2⟩

/-- A slice of numbers. -/
structure IntsAt (B : Bd) (w : World) (a : Option Addr) (n c : Nat) (l : List Int) : Prop where
  len : n = l.length
  cap : n ≤ c
  at_ : ∀ j s, l[j]? = some s → ∃ ad, a = some ad ∧ w.cell? (ad.add j) = some (.int .i64 s) ∧ Safe B w ad.block

theorem IntsAt.keep {B : Bd} {w w' : World} {a : Option Addr} {n c : Nat} {l : List Int} (h : IntsAt B w a n c l) (hw : Keep B w w') : IntsAt B w' a n c l :=
  ⟨h.len, h.cap, fun j s hj => by
    obtain ⟨ad, h1, h2, h3⟩ := h.at_ j s hj
    have hlt := World.block_lt_of_cell? w _ h2
    rw [addr_add_block] at hlt
    refine ⟨ad, h1, ?_, h3.keep hlt hw⟩
    have := hw.block ad.block hlt h3
    have e : w'.cell? (ad.add j) = w.cell? (ad.add j) := World.cell?_of_block (by rw [addr_add_block]; exact this)
    rw [e]; exact h2⟩

/-- A pointer to a box. -/
abbrev bp (k : Nat) : Value := .pointer (some ⟨k, 0, none⟩)

def StrBox (B : Bd) (w : World) (k : Nat) (s : ByteArray) : Prop := Box B w k 9 (.string s)
def IntBox (B : Bd) (w : World) (k : Nat) (n : Int) : Prop := Box B w k 3 (.int .i64 n)
def BoolBox (B : Bd) (w : World) (k : Nat) (b : Bool) : Prop := Box B w k 4 (.bool b)
def StrsBox (B : Bd) (w : World) (k : Nat) (l : List ByteArray) : Prop := ∃ a n c, Box B w k 22 (.slice a n c) ∧ StrsAt B w a n c l
def IntsBox (B : Bd) (w : World) (k : Nat) (l : List Int) : Prop := ∃ a n c, Box B w k 47 (.slice a n c) ∧ IntsAt B w a n c l
/-- A block that holds an answer. -/
def ResBox (B : Bd) (w : World) (k : Nat) (r : Res) : Prop := ∃ a n c, w.heap[k]? = some (.cells (plainR (r.cs a n c)) 35 (0, 0)) ∧ StrsAt B w a n c r.names ∧ k ∉ B.x

theorem StrsBox.keep {B : Bd} {w w' : World} {k : Nat} {l : List ByteArray} (h : StrsBox B w k l) (hw : Keep B w w') : StrsBox B w' k l :=
  let ⟨a, n, c, h1, h2⟩ := h; ⟨a, n, c, h1.keep hw, h2.keep hw⟩
theorem IntsBox.keep {B : Bd} {w w' : World} {k : Nat} {l : List Int} (h : IntsBox B w k l) (hw : Keep B w w') : IntsBox B w' k l :=
  let ⟨a, n, c, h1, h2⟩ := h; ⟨a, n, c, h1.keep hw, h2.keep hw⟩
theorem ResBox.keep {B : Bd} {w w' : World} {k : Nat} {r : Res} (h : ResBox B w k r) (hw : Keep B w w') : ResBox B w' k r :=
  let ⟨a, n, c, h1, h2, h3⟩ := h; ⟨a, n, c, hw.cells h1 (by decide) (by decide) (by decide) h3, h2.keep hw, h3⟩

/- CLOSURES -/

def RepB (B : Bd) (w : World) : Bring → FuncId → Array Value → Prop
  | .ren op, f, c => f = 96 ∧ ∃ k, c = #[bp k] ∧ IntBox B w k op
  | .cop, f, c => f = 49 ∧ c = #[]

def RepE (B : Bd) (w : World) : Ef → FuncId → Array Value → Prop
  | .cat, f, c => f = 78 ∧ c = #[]
  | .mk, f, c => f = 85 ∧ ∃ k, c = #[bp k] ∧ Box B w k 79 (.func (.func 44) #[] #[])
  | .rmd, f, c => f = 85 ∧ ∃ k, c = #[bp k] ∧ Box B w k 79 (.func (.func 45) #[] #[])
  | .rm has, f, c => f = 89 ∧ ∃ k, c = #[bp k] ∧ StrBox B w k has
  | .gone p has deep, f, c => f = 143 ∧ ∃ k1 k2 k3, c = #[bp k1, bp k2, bp k3] ∧ StrBox B w k1 p ∧ StrBox B w k2 has ∧ IntBox B w k3 deep
  | .place pl dir br, f, c => f = 93 ∧ ∃ k1 k2 k3 bf bc, c = #[bp k1, bp k2, bp k3] ∧ StrBox B w k1 pl ∧ BoolBox B w k2 dir ∧ Box B w k3 81 (.func (.func bf) #[] bc) ∧ RepB B w br bf bc
  | .chmod l, f, c => f = 102 ∧ ∃ k, c = #[bp k] ∧ StrsBox B w k l
  | .chown g both o, f, c => f = 108 ∧ ∃ k1 k2 k3, c = #[bp k1, bp k2, bp k3] ∧ IntBox B w k1 g ∧ BoolBox B w k2 both ∧ IntBox B w k3 o
  | .ls long l has, f, c => f = 111 ∧ ∃ k1 k2 k3, c = #[bp k1, bp k2, bp k3] ∧ BoolBox B w k1 long ∧ StrsBox B w k2 l ∧ StrBox B w k3 has
  | .entry all long dir, f, c => f = 155 ∧ ∃ k1 k2 k3, c = #[bp k1, bp k2, bp k3] ∧ BoolBox B w k1 all ∧ BoolBox B w k2 long ∧ StrBox B w k3 dir

def RepD (B : Bd) (w : World) : Dp → FuncId → Array Value → Prop
  | .tru, f, c => f = 38 ∧ c = #[]
  | .fls, f, c => f = 39 ∧ c = #[]
  | .id, f, c => f = 40 ∧ c = #[]
  | .who, f, c => f = 41 ∧ c = #[]
  | .cat, f, c => f = 42 ∧ c = #[]
  | .mkdir, f, c => f = 83 ∧ ∃ k, c = #[bp k] ∧ Box B w k 79 (.func (.func 44) #[] #[])
  | .rmdir, f, c => f = 83 ∧ ∃ k, c = #[bp k] ∧ Box B w k 79 (.func (.func 45) #[] #[])
  | .rm, f, c => f = 46 ∧ c = #[]
  | .ln, f, c => f = 91 ∧ ∃ k bf bc, c = #[bp k] ∧ Box B w k 81 (.func (.func bf) #[] bc) ∧ RepB B w (.ren 12) bf bc
  | .mv, f, c => f = 91 ∧ ∃ k bf bc, c = #[bp k] ∧ Box B w k 81 (.func (.func bf) #[] bc) ∧ RepB B w (.ren 13) bf bc
  | .cp, f, c => f = 91 ∧ ∃ k bf bc, c = #[bp k] ∧ Box B w k 81 (.func (.func bf) #[] bc) ∧ RepB B w .cop bf bc
  | .chmod, f, c => f = 50 ∧ c = #[]
  | .chown, f, c => f = 51 ∧ c = #[]
  | .ls, f, c => f = 52 ∧ c = #[]

def RepF (B : Bd) (w : World) : Fn → FuncId → Array Value → Prop
  | .exit0, f, c => f = 23 ∧ c = #[]
  | .start d ws, f, c => f = 21 ∧ ∃ k1 k2 df dc, c = #[bp k1, bp k2] ∧ Box B w k1 55 (.func (.func df) #[] dc) ∧ RepD B w d df dc ∧ StrsBox B w k2 ws
  | .none, f, c => f = 73 ∧ c = #[]
  | .exit1, f, c => f = 134 ∧ c = #[]
  | .each l e, f, c => f = 127 ∧ ∃ k1 k2 ef ec, c = #[bp k1, bp k2] ∧ StrsBox B w k1 l ∧ Box B w k2 117 (.func (.func ef) #[] ec) ∧ RepE B w e ef ec
  | .pours s d t, f, c => f = 129 ∧ ∃ k1 k2 k3 tf tc, c = #[bp k1, bp k2, bp k3] ∧ IntBox B w k1 s ∧ IntBox B w k2 d ∧ Box B w k3 67 (.func (.func tf) #[] tc) ∧ RepF B w t tf tc
  | .closes fds, f, c => f = 131 ∧ ∃ k, c = #[bp k] ∧ IntsBox B w k fds
  | .goneD p, f, c => f = 141 ∧ ∃ k, c = #[bp k] ∧ StrBox B w k p
  | .entries d names has, f, c => f = 115 ∧ ∃ k1 k2 k3 r, c = #[bp k1, bp k2, bp k3] ∧ StrBox B w k1 d ∧ ResBox B w k2 r ∧ r.names = names ∧ StrBox B w k3 has

def RepR (B : Bd) (w : World) : Rn → FuncId → Array Value → Prop
  | .say fd text t, f, c => f = 125 ∧ ∃ k1 k2 k3 tf tc, c = #[bp k1, bp k2, bp k3] ∧ StrBox B w k1 text ∧ Box B w k2 67 (.func (.func tf) #[] tc) ∧ RepF B w t tf tc ∧ IntBox B w k3 fd
  | .tries p t, f, c => f = 130 ∧ ∃ k1 k2 tf tc, c = #[bp k1, bp k2] ∧ StrBox B w k1 p ∧ Box B w k2 64 (.func (.func tf) #[] tc) ∧ RepR B w t tf tc
  | .id, f, c => f = 70 ∧ c = #[]
  | .who, f, c => f = 74 ∧ c = #[]
  | .pours s d t, f, c => f = 128 ∧ ∃ k1 k2 k3 tf tc, c = #[bp k1, bp k2, bp k3] ∧ Box B w k1 67 (.func (.func tf) #[] tc) ∧ RepF B w t tf tc ∧ IntBox B w k2 d ∧ IntBox B w k3 s
  | .closes fds, f, c => f = 132 ∧ ∃ k, c = #[bp k] ∧ IntsBox B w k fds
  | .cat, f, c => f = 81 ∧ c = #[]
  | .noop g, f, c => f = g ∧ (g = 86 ∨ g = 97 ∨ g = 105 ∨ g = 110 ∨ g = 142) ∧ c = #[]
  | .gone p has deep, f, c => f = 139 ∧ ∃ k1 k2 k3, c = #[bp k1, bp k2, bp k3] ∧ StrBox B w k1 has ∧ StrBox B w k2 p ∧ IntBox B w k3 deep
  | .goneL p has deep, f, c => f = 140 ∧ ∃ k1 k2 k3, c = #[bp k1, bp k2, bp k3] ∧ StrBox B w k1 p ∧ StrBox B w k2 has ∧ IntBox B w k3 deep
  | .places l last pl br, f, c => f = 92 ∧ ∃ k1 k2 k3 k4 bf bc, c = #[bp k1, bp k2, bp k3, bp k4] ∧ IntBox B w k1 last ∧ StrsBox B w k2 l ∧ StrBox B w k3 pl ∧ Box B w k4 81 (.func (.func bf) #[] bc) ∧ RepB B w br bf bc
  | .copies1 src dst, f, c => f = 98 ∧ ∃ k1 k2, c = #[bp k1, bp k2] ∧ StrBox B w k1 src ∧ StrBox B w k2 dst
  | .copies2 dst mode, f, c => f = 100 ∧ ∃ k1 k2, c = #[bp k1, bp k2] ∧ StrBox B w k1 dst ∧ w.heap[k2]? = some (.cells (plainR [.int .i64 2, .bool true, .bool false, .bool true, .bool false, .int .i64 mode]) 37 (0, 0)) ∧ k2 ∉ B.x
  | .copies3 dst r, f, c => f = 101 ∧ ∃ k1 k2, c = #[bp k1, bp k2] ∧ ResBox B w k1 r ∧ StrBox B w k2 dst
  | .chmod l v, f, c => f = 103 ∧ ∃ k1 k2, c = #[bp k1, bp k2] ∧ StrsBox B w k1 l ∧ StrBox B w k2 v
  | .chown g both o v, f, c => f = 109 ∧ ∃ k1 k2 k3 k4, c = #[bp k1, bp k2, bp k3, bp k4] ∧ IntBox B w k1 g ∧ BoolBox B w k2 both ∧ StrBox B w k3 v ∧ IntBox B w k4 o
  | .ls1 v long l has, f, c => f = 112 ∧ ∃ k1 k2 k3 k4, c = #[bp k1, bp k2, bp k3, bp k4] ∧ StrBox B w k1 v ∧ BoolBox B w k2 long ∧ StrsBox B w k3 l ∧ StrBox B w k4 has
  | .ls2 l v has, f, c => f = 114 ∧ ∃ k1 k2 k3, c = #[bp k1, bp k2, bp k3] ∧ StrsBox B w k1 l ∧ StrBox B w k2 v ∧ StrBox B w k3 has
  | .entry n, f, c => f = 156 ∧ ∃ k, c = #[bp k] ∧ StrBox B w k n

theorem RepB.keep {B : Bd} {w w' : World} (hw : Keep B w w') {x : Bring} {f : FuncId} {c : Array Value} (h : RepB B w x f c) : RepB B w' x f c := by
  cases x with
  | ren op => obtain ⟨h1, k, h2, h3⟩ := h; exact ⟨h1, k, h2, h3.keep hw⟩
  | cop => exact h

theorem RepE.keep {B : Bd} {w w' : World} (hw : Keep B w w') {x : Ef} {f : FuncId} {c : Array Value} (h : RepE B w x f c) : RepE B w' x f c := by
  cases x with
  | cat => exact h
  | mk => obtain ⟨h1, k, h2, h3⟩ := h; exact ⟨h1, k, h2, h3.keep hw⟩
  | rmd => obtain ⟨h1, k, h2, h3⟩ := h; exact ⟨h1, k, h2, h3.keep hw⟩
  | rm has => obtain ⟨h1, k, h2, h3⟩ := h; exact ⟨h1, k, h2, Box.keep h3 hw⟩
  | gone p has deep => obtain ⟨h1, k1, k2, k3, h2, h3, h4, h5⟩ := h; exact ⟨h1, k1, k2, k3, h2, Box.keep h3 hw, Box.keep h4 hw, Box.keep h5 hw⟩
  | place pl dir br => obtain ⟨h1, k1, k2, k3, bf, bc, h2, h3, h4, h5, h6⟩ := h; exact ⟨h1, k1, k2, k3, bf, bc, h2, Box.keep h3 hw, Box.keep h4 hw, Box.keep h5 hw, h6.keep hw⟩
  | chmod l => obtain ⟨h1, k, h2, h3⟩ := h; exact ⟨h1, k, h2, h3.keep hw⟩
  | chown g both o => obtain ⟨h1, k1, k2, k3, h2, h3, h4, h5⟩ := h; exact ⟨h1, k1, k2, k3, h2, Box.keep h3 hw, Box.keep h4 hw, Box.keep h5 hw⟩
  | ls long l has => obtain ⟨h1, k1, k2, k3, h2, h3, h4, h5⟩ := h; exact ⟨h1, k1, k2, k3, h2, Box.keep h3 hw, h4.keep hw, Box.keep h5 hw⟩
  | entry all long dir => obtain ⟨h1, k1, k2, k3, h2, h3, h4, h5⟩ := h; exact ⟨h1, k1, k2, k3, h2, Box.keep h3 hw, Box.keep h4 hw, Box.keep h5 hw⟩

theorem RepD.keep {B : Bd} {w w' : World} (hw : Keep B w w') {x : Dp} {f : FuncId} {c : Array Value} (h : RepD B w x f c) : RepD B w' x f c := by
  cases x <;> first
    | exact h
    | (obtain ⟨h1, k, h2, h3⟩ := h; exact ⟨h1, k, h2, Box.keep h3 hw⟩)
    | (obtain ⟨h1, k, bf, bc, h2, h3, h4⟩ := h; exact ⟨h1, k, bf, bc, h2, Box.keep h3 hw, RepB.keep hw h4⟩)

theorem RepF.keep {B : Bd} {w w' : World} (hw : Keep B w w') {x : Fn} : ∀ {f : FuncId} {c : Array Value}, RepF B w x f c → RepF B w' x f c := by
  induction x with
  | exit0 => exact fun h => h
  | start d ws => intro f c h; obtain ⟨h1, k1, k2, df, dc, h2, h3, h4, h5⟩ := h; exact ⟨h1, k1, k2, df, dc, h2, Box.keep h3 hw, RepD.keep hw h4, h5.keep hw⟩
  | none => exact fun h => h
  | exit1 => exact fun h => h
  | each l e => intro f c h; obtain ⟨h1, k1, k2, ef, ec, h2, h3, h4, h5⟩ := h; exact ⟨h1, k1, k2, ef, ec, h2, h3.keep hw, Box.keep h4 hw, RepE.keep hw h5⟩
  | pours s d t ih => intro f c h; obtain ⟨h1, k1, k2, k3, tf, tc, h2, h3, h4, h5, h6⟩ := h; exact ⟨h1, k1, k2, k3, tf, tc, h2, Box.keep h3 hw, Box.keep h4 hw, Box.keep h5 hw, ih h6⟩
  | closes fds => intro f c h; obtain ⟨h1, k, h2, h3⟩ := h; exact ⟨h1, k, h2, h3.keep hw⟩
  | goneD p => intro f c h; obtain ⟨h1, k, h2, h3⟩ := h; exact ⟨h1, k, h2, Box.keep h3 hw⟩
  | entries d names has => intro f c h; obtain ⟨h1, k1, k2, k3, r, h2, h3, h4, h5, h6⟩ := h; exact ⟨h1, k1, k2, k3, r, h2, Box.keep h3 hw, h4.keep hw, h5, Box.keep h6 hw⟩

theorem RepR.keep {B : Bd} {w w' : World} (hw : Keep B w w') {x : Rn} : ∀ {f : FuncId} {c : Array Value}, RepR B w x f c → RepR B w' x f c := by
  induction x with
  | say fd text t => intro f c h; obtain ⟨h1, k1, k2, k3, tf, tc, h2, h3, h4, h5, h6⟩ := h; exact ⟨h1, k1, k2, k3, tf, tc, h2, Box.keep h3 hw, Box.keep h4 hw, h5.keep hw, Box.keep h6 hw⟩
  | tries p t ih => intro f c h; obtain ⟨h1, k1, k2, tf, tc, h2, h3, h4, h5⟩ := h; exact ⟨h1, k1, k2, tf, tc, h2, Box.keep h3 hw, Box.keep h4 hw, ih h5⟩
  | id => exact fun h => h
  | who => exact fun h => h
  | pours s d t => intro f c h; obtain ⟨h1, k1, k2, k3, tf, tc, h2, h3, h4, h5, h6⟩ := h; exact ⟨h1, k1, k2, k3, tf, tc, h2, Box.keep h3 hw, h4.keep hw, Box.keep h5 hw, Box.keep h6 hw⟩
  | closes fds => intro f c h; obtain ⟨h1, k, h2, h3⟩ := h; exact ⟨h1, k, h2, h3.keep hw⟩
  | cat => exact fun h => h
  | noop g => exact fun h => h
  | gone p has deep => intro f c h; obtain ⟨h1, k1, k2, k3, h2, h3, h4, h5⟩ := h; exact ⟨h1, k1, k2, k3, h2, Box.keep h3 hw, Box.keep h4 hw, Box.keep h5 hw⟩
  | goneL p has deep => intro f c h; obtain ⟨h1, k1, k2, k3, h2, h3, h4, h5⟩ := h; exact ⟨h1, k1, k2, k3, h2, Box.keep h3 hw, Box.keep h4 hw, Box.keep h5 hw⟩
  | places l last pl br => intro f c h; obtain ⟨h1, k1, k2, k3, k4, bf, bc, h2, h3, h4, h5, h6, h7⟩ := h; exact ⟨h1, k1, k2, k3, k4, bf, bc, h2, Box.keep h3 hw, h4.keep hw, Box.keep h5 hw, Box.keep h6 hw, h7.keep hw⟩
  | copies1 src dst => intro f c h; obtain ⟨h1, k1, k2, h2, h3, h4⟩ := h; exact ⟨h1, k1, k2, h2, Box.keep h3 hw, Box.keep h4 hw⟩
  | copies2 dst mode => intro f c h; obtain ⟨h1, k1, k2, h2, h3, h4⟩ := h; exact ⟨h1, k1, k2, h2, Box.keep h3 hw, hw.cells h4.1 (by decide) (by decide) (by decide) h4.2, h4.2⟩
  | copies3 dst r => intro f c h; obtain ⟨h1, k1, k2, h2, h3, h4⟩ := h; exact ⟨h1, k1, k2, h2, h3.keep hw, Box.keep h4 hw⟩
  | chmod l v => intro f c h; obtain ⟨h1, k1, k2, h2, h3, h4⟩ := h; exact ⟨h1, k1, k2, h2, h3.keep hw, Box.keep h4 hw⟩
  | chown g both o v => intro f c h; obtain ⟨h1, k1, k2, k3, k4, h2, h3, h4, h5, h6⟩ := h; exact ⟨h1, k1, k2, k3, k4, h2, Box.keep h3 hw, Box.keep h4 hw, Box.keep h5 hw, Box.keep h6 hw⟩
  | ls1 v long l has => intro f c h; obtain ⟨h1, k1, k2, k3, k4, h2, h3, h4, h5, h6⟩ := h; exact ⟨h1, k1, k2, k3, k4, h2, Box.keep h3 hw, Box.keep h4 hw, h5.keep hw, Box.keep h6 hw⟩
  | ls2 l v has => intro f c h; obtain ⟨h1, k1, k2, k3, h2, h3, h4, h5⟩ := h; exact ⟨h1, k1, k2, k3, h2, h3.keep hw, Box.keep h4 hw, Box.keep h5 hw⟩
  | entry n => intro f c h; obtain ⟨h1, k, h2, h3⟩ := h; exact ⟨h1, k, h2, Box.keep h3 hw⟩

/- THE MACHINE -/

def mcells (prog : ByteArray) (status : Int) (a : Option Addr) (n c : Nat) (th : C) (call : CallD) (over : Bool) : List C :=
  [.str prog, .int .i64 status, .int .i64 0, .sl a n c, th] ++ call.cs ++ [.bool over]

def thnC : Option (FuncId × Array Value) → C
  | none => .nilf
  | some (f, c) => .fv f c

def ThnOk (B : Bd) (w : World) : Option Rn → Option (FuncId × Array Value) → Prop
  | none, none => True
  | some t, some (f, c) => RepR B w t f c
  | _, _ => False

/-- The cells of a row of steps. -/
def stepV (x : FuncId × Array Value) : List Value := [.func (.func x.1) #[] x.2, .bool false]

inductive All2 {α β : Type} (R : α → β → Prop) : List α → List β → Prop where
  | nil : All2 R [] []
  | cons {x : α} {y : β} {l : List α} {r : List β} : R x y → All2 R l r → All2 R (x :: l) (y :: r)

theorem All2.mono {α β : Type} {R S : α → β → Prop} (h : ∀ x y, R x y → S x y) {l : List α} {r : List β} (k : All2 R l r) : All2 S l r := by
  induction k with
  | nil => exact .nil
  | cons h1 _ ih => exact .cons (h _ _ h1) ih

theorem All2.length {α β : Type} {R : α → β → Prop} {l : List α} {r : List β} (k : All2 R l r) : l.length = r.length := by
  induction k with
  | nil => rfl
  | cons _ _ ih => simp [ih]

theorem All2.append {α β : Type} {R : α → β → Prop} {l l' : List α} {r r' : List β} (k : All2 R l r) (k' : All2 R l' r') : All2 R (l ++ l') (r ++ r') := by
  induction k with
  | nil => exact k'
  | cons h _ ih => exact .cons h ih

/-- Taken apart at the end. -/
theorem All2.snoc {α β : Type} {R : α → β → Prop} {l : List α} {x : α} : ∀ {r : List β}, All2 R (l ++ [x]) r → ∃ r' y, r = r' ++ [y] ∧ All2 R l r' ∧ R x y := by
  induction l with
  | nil =>
    intro r h
    cases h with
    | cons h1 h2 => cases h2; exact ⟨[], _, rfl, .nil, h1⟩
  | cons a l ih =>
    intro r h
    cases h with
    | cons h1 h2 =>
      obtain ⟨r', y, rfl, h3, h4⟩ := ih h2
      exact ⟨_ :: r', y, rfl, .cons h1 h3, h4⟩

/-- What the library's variables hold at the beginning. -/
def Base (W0 : World) : Prop := Lib.TabIs Tryz.prog W0 "internal/strconv.uint64pow10" .u64 Lib.pow10Tab

/-- Below B the memory is as at the beginning. -/
structure GlobOk (B : Bd) (w : World) : Prop where
  le : B ≤ w.heap.size
  xs : ∀ k ∈ B.x, k < w.heap.size
  base : ∃ W0 : World, W0.heap.size = B ∧ (∀ k : Nat, k < B → w.heap[k]? = W0.heap[k]?) ∧ Base W0

theorem GlobOk.keep {B : Bd} {w w' : World} (h : GlobOk B w) (hk : Keep B w w') : GlobOk B w' := by
  obtain ⟨W0, h1, h2, h3⟩ := h.base
  exact ⟨Nat.le_trans h.le hk.size, fun k hx => Nat.lt_of_lt_of_le (h.xs k hx) hk.size, W0, h1, fun k hlt => (hk.block k (Nat.lt_of_lt_of_le hlt h.le) (.inl hlt)).trans (h2 k hlt), h3⟩

theorem GlobOk.notx {B : Bd} {w : World} (h : GlobOk B w) {k : Nat} (hk : w.heap.size ≤ k) : k ∉ B.x := fun hx => by
  have := h.xs k hx
  omega

theorem GlobOk.start {w : World} (h : Base w) : GlobOk ⟨w.heap.size, []⟩ w := ⟨Nat.le_refl _, fun _ hx => (by cases hx), w, rfl, fun _ _ => rfl, h⟩

theorem GlobOk.pow10 {B : Bd} {w : World} (h : GlobOk B w) : Lib.TabIs Tryz.prog w "internal/strconv.uint64pow10" .u64 Lib.pow10Tab := by
  obtain ⟨W0, h1, h2, h3⟩ := h.base
  unfold Base Lib.TabIs World.var? at h3
  unfold Lib.TabIs World.var?
  cases hg : Tryz.prog.globalNamed "internal/strconv.uint64pow10" with
  | none => rw [hg] at h3; cases h3
  | some g =>
    rw [hg] at h3
    simp only [Option.bind_some] at h3 ⊢
    have hlt : g < B := by
      rw [← h1]
      rcases Nat.lt_or_ge g W0.heap.size with h4 | h4
      · exact h4
      · rw [Array.getElem?_eq_none h4] at h3; cases h3
    rw [h2 g hlt]
    exact h3

/-- The machine m at block b: its cells, its row. -/
structure MAt (B : Bd) (w : World) (b : Nat) (m : M) (a : Option Addr) (n c : Nat) (th : Option (FuncId × Array Value)) (row : List (FuncId × Array Value)) : Prop where
  base : B ≤ b
  cells : w.heap[b]? = some (.cells (plainR (mcells m.prog m.status a n c (thnC th) m.call m.over)) 66 (0, 0))
  owns : w.ownsRow B 84 2 (.slice a n c) n (row.flatMap stepV)
  todo : All2 (fun k x => RepF B w k x.1 x.2) m.todo row
  len : n = row.length
  thn : ThnOk B w m.thn th
  glob : GlobOk B w

def MOk (B : Bd) (w : World) (b : Nat) (m : M) : Prop := ∃ a n c th row, MAt B w b m a n c th row

/-- What somebody else writes was there. -/
def XsOk (B : Bd) (w : World) : Prop := ∀ k ∈ B.x, k < w.heap.size

theorem MOk.xs {B : Bd} {w : World} {b : Nat} {m : M} (h : MOk B w b m) : XsOk B w := by
  obtain ⟨_, _, _, _, _, hM⟩ := h
  exact hM.glob.xs

theorem XsOk.notx {B : Bd} {w : World} (h : XsOk B w) {k : Nat} (hk : w.heap.size ≤ k) : k ∉ B.x := fun hx => by
  have := h k hx
  omega

theorem XsOk.keep {B : Bd} {w w' : World} (h : XsOk B w) (hk : Keep B w w') : XsOk B w' := fun k hx => Nat.lt_of_lt_of_le (h k hx) hk.size

/-- A new block is no answer of somebody else's. -/
theorem MOk.notx {B : Bd} {w : World} {b : Nat} {m : M} (h : MOk B w b m) {k : Nat} (hk : w.heap.size ≤ k) : k ∉ B.x := by
  obtain ⟨_, _, _, _, _, hM⟩ := h
  intro hx
  have := hM.glob.xs k hx
  omega

/-- The blocks that the machine at b may write. -/
def Own (w : World) (b k : Nat) : Prop := k = b ∨ ∃ n c, w.cell? ⟨b, 3, none⟩ = some (.slice (some ⟨k, 0, none⟩) n c)

/-- What a machine's own work may do to the memory. -/
structure Evo (w : World) (b : Nat) (w' : World) : Prop where
  os : w'.os = w.os
  tape : w'.tape = w.tape
  output : w'.output = w.output
  size : w.heap.size ≤ w'.heap.size
  block : ∀ k, k < w.heap.size → ¬ Own w b k → w'.heap[k]? = w.heap[k]?
  fresh : ∀ k, Own w' b k → Own w b k ∨ w.heap.size ≤ k

theorem Evo.refl (w : World) (b : Nat) : Evo w b w := ⟨rfl, rfl, rfl, Nat.le_refl _, fun _ _ _ => rfl, fun _ h => .inl h⟩

theorem Evo.trans {w w1 w2 : World} {b : Nat} (h : Evo w b w1) (k : Evo w1 b w2) : Evo w b w2 :=
  ⟨k.os.trans h.os, k.tape.trans h.tape, k.output.trans h.output, Nat.le_trans h.size k.size,
    fun i hi hn => (k.block i (Nat.lt_of_lt_of_le hi h.size) (fun ho => (h.fresh i ho).elim hn (fun hge => by omega))).trans (h.block i hi hn),
    fun i ho => (k.fresh i ho).elim (fun ho1 => h.fresh i ho1) (fun hge => .inr (by have := h.size; omega))⟩

theorem MAt.own {B : Bd} {w : World} {b : Nat} {m : M} {a : Option Addr} {n c : Nat} {th : Option (FuncId × Array Value)} {row : List (FuncId × Array Value)} (h : MAt B w b m a n c th row) (k : Nat) :
    Own w b k ↔ k = b ∨ a = some ⟨k, 0, none⟩ := by
  have hc : w.cell? ⟨b, 3, none⟩ = some (.slice a n c) := by simp [World.cell?, h.cells, plainR, mcells, C.real]
  unfold Own
  rw [hc]
  constructor
  · rintro (h1 | ⟨n', c', h1⟩)
    · exact .inl h1
    · simp only [Option.some.injEq, Value.slice.injEq] at h1; exact .inr h1.1
  · rintro (h1 | h1)
    · exact .inl h1
    · exact .inr ⟨n, c, by rw [h1]⟩

/-- What the machine owns is no safe block. -/
theorem MAt.unsafe_ {B : Bd} {w : World} {b : Nat} {m : M} {a : Option Addr} {n c : Nat} {th : Option (FuncId × Array Value)} {row : List (FuncId × Array Value)} (h : MAt B w b m a n c th row) {k : Nat} (ho : Own w b k) : ¬ Safe B w k := by
  rcases (h.own k).1 ho with rfl | rfl
  · rintro (h1 | ⟨c', T, fr, h1, h2, _⟩)
    · have := h.base; omega
    · rw [h.cells] at h1; simp only [Option.some.injEq, Obj.cells.injEq] at h1; exact h2 h1.2.1.symm
  · obtain ⟨_, h2⟩ := h.owns
    rcases h2 with ⟨h3, _⟩ | ⟨g, cap, cur, h3, h4, h5, _⟩
    · cases h3
    · simp only [Value.slice.injEq, Option.some.injEq, Addr.mk.injEq] at h3
      obtain ⟨⟨rfl, _⟩, _, _⟩ := h3
      rintro (h1 | ⟨c', T, fr, h1, _, h2, _⟩)
      · omega
      · rw [h5] at h1; simp only [Option.some.injEq, Obj.cells.injEq] at h1; exact h2 h1.2.1.symm

theorem Evo.keep {B : Bd} {w w' : World} {b : Nat} {m : M} (h : Evo w b w') (hm : MOk B w b m) : Keep B w w' := by
  obtain ⟨a, n, c, th, row, hm⟩ := hm
  exact ⟨h.os, h.tape, h.output, h.size, fun k hk hs => h.block k hk (fun ho => hm.unsafe_ ho hs)⟩

end Go.Proofs.YtoihipolfdhhnaaGreatDoor

namespace Go.Proofs.YtoihipolfdhhnaaGreatDoor

def code (f : Func) : List Item := [.code (f.body.getD .skip)]

def tlOf : Nat → List SV → List (Nat × SV)
  | _, [] => []
  | n, v :: l => (n, v) :: tlOf (n + 1) l

theorem lk_tlOf : ∀ (l : List SV) (n d : Nat), lk d (tlOf n l) = if n ≤ d then l[d - n]? else none
  | [], n, d => by simp [tlOf, lk]
  | v :: l, n, d => by
    simp only [tlOf, lk, lk_tlOf l (n + 1) d]
    by_cases h : n = d
    · subst h; simp
    · rw [if_neg h]
      by_cases h2 : n ≤ d
      · rw [if_pos (by omega), if_pos h2, show d - n = (d - (n + 1)) + 1 from by omega]; rfl
      · rw [if_neg (by omega), if_neg h2]

/-- The names of old blocks. -/
def env (w : World) (olds : List Nat) (ro : Addr → Option Value) : Env := ⟨fun i => if i < olds.length then olds.getD i 0 else w.heap.size + (i - olds.length), olds.length, w, ro⟩

def noRo : Addr → Option Value := fun _ => none

theorem rel_start {w : World} {olds : List Nat} {ro : Addr → Option Value} {bs : List NB} (hlen : bs.length = olds.length) (hnd : ∀ i j k : Nat, olds[i]? = some k → olds[j]? = some k → i = j)
    (hc : ∀ (i : Nat) (b : NB) (k : Nat), bs[i]? = some b → olds[i]? = some k → w.heap[k]? = some (Obj.cells (b.cs.map (C.real (env w olds ro).ρ)).toArray b.ty (0, 0)))
    (hro : ∀ a v, ro a = some v → w.cell? a = some v ∧ a.block ∉ olds) : Rel (env w olds ro) bs w := by
  have hρ : ∀ i, i < olds.length → ∃ k, olds[i]? = some k ∧ (env w olds ro).ρ i = k := fun i hi => by
    refine ⟨olds[i], List.getElem?_eq_getElem hi, ?_⟩
    simp [env, hi, List.getD]
  have hcell : ∀ i b, bs[i]? = some b → w.heap[(env w olds ro).ρ i]? = some (.cells (b.cs.map (C.real (env w olds ro).ρ)).toArray b.ty (0, 0)) := by
    intro i b hb
    have hi : i < olds.length := by rw [← hlen]; exact (List.getElem?_eq_some_iff.1 hb).1
    obtain ⟨k, h1, h2⟩ := hρ i hi
    rw [h2]; exact hc i b k hb h1
  refine ⟨hcell, ?_, by simp [env, hlen], by simp [env, hlen], fun i hi => ?_, fun i hi => ?_, fun k _ _ => rfl, fun a v hv => ?_, rfl, rfl, rfl⟩
  · intro i j hi hj e
    rw [hlen] at hi hj
    obtain ⟨k, h1, h2⟩ := hρ i hi
    obtain ⟨k', h3, h4⟩ := hρ j hj
    rw [h2, h4] at e
    subst e
    exact hnd i j k h1 h3
  · simp only [env] at hi ⊢
    rw [if_neg (by omega)]
  · have hb := hcell i (bs[i]'(by simp only [env] at hi; omega)) (List.getElem?_eq_getElem _)
    exact lt_of_block hb
  · obtain ⟨h1, h2⟩ := hro a v hv
    refine ⟨h1, fun i hi e => ?_⟩
    rw [hlen] at hi
    obtain ⟨k, h3, h4⟩ := hρ i hi
    rw [h4] at e
    exact h2 (e ▸ List.mem_of_getElem? h3)

theorem calls_exec {P : Program} {f : FuncId} {fn : Func} {vals : Array Value} {w : World} {R : Ending → World → Prop} (args : List SV) (olds : List Nat) (bs : List NB) (ro : Addr → Option Value)
    (hf : P.funcs[f]? = some fn) (hb : fn.body.isSome = true) (hle : Nat.ble args.length fn.ntmps = true) (hvals : vals = (args.map (SV.real (env w olds ro).ρ)).toArray) (hrel : Rel (env w olds ro) bs w)
    (h : ∀ a, CRel (env w olds ro) fn.ntmps { tl := tlOf 0 args, bs := bs } a w → Gets P f (code fn) a w R) : Calls P f vals w R := by
  obtain ⟨c, hc⟩ := Option.isSome_iff_exists.1 hb
  have hle' := Nat.le_of_ble_eq_true hle
  refine calls_of_gets hf hc ?_
  have hcode : code fn = [.code c] := by simp [code, hc]
  rw [← hcode]
  refine h _ ⟨?_, ?_, rfl, hrel⟩
  · intro d v hd
    rw [lk_tlOf] at hd
    simp only [Nat.zero_le, if_true, Nat.sub_zero] at hd
    have hdl : d < args.length := (List.getElem?_eq_some_iff.1 hd).1
    have hsz : vals.size = args.length := by rw [hvals]; simp
    simp only
    rw [Array.getElem?_append_left (by omega), hvals]
    simp [hd]
  · simp only [Array.size_append, Array.size_replicate, hvals, List.size_toArray, List.length_map]
    omega

/-- An operation whose run is known. -/
theorem gets_op {P : Program} {f : FuncId} {ops : Array Oper} {i : Nat} {rest : List Nat} {k : List Item} {a : Act} {w w' : World} {R : Ending → World → Prop} {o : Oper} {v : Value}
    (ho : ops[i]? = some o) (hw : Region.wanted o (yielded ops a.tmps) = true) (hr : (execOp a.eval o).run P w = .ok (.value v) w')
    (h : Gets P f (.inRegion ops rest :: k) (a.put o.dst v) w' R) : Gets P f (.inRegion ops (i :: rest) :: k) a w R :=
  Gets.of_steps (fun _ => Steps.one (step_op_ok (r := some v) ho hw hr)) h

/-- The operation that stands next, if nothing guards it. -/
def opX : List Item → Option (Option Nat × Op × TypeId)
  | .inRegion ops (i :: _) :: _ => match ops[i]? with
    | some ⟨dst, op, ty, _, _, none⟩ => some (dst, op, ty)
    | _ => none
  | _ => none

theorem gets_opX {P : Program} {f : FuncId} {k : List Item} {a : Act} {w w' : World} {R : Ending → World → Prop} {dst : Option Nat} {op : Op} {ty : TypeId} {v : Value}
    (ho : opX k = some (dst, op, ty)) (hr : ∀ pos after, (execOp a.eval ⟨dst, op, ty, pos, after, none⟩).run P w = .ok (.value v) w') (h : Gets P f (popX k) (a.put dst v) w' R) : Gets P f k a w R := by
  unfold opX at ho
  split at ho
  · split at ho
    · rename_i hop
      simp only [Option.some.injEq, Prod.mk.injEq] at ho
      obtain ⟨rfl, rfl, rfl⟩ := ho
      exact gets_op hop rfl (hr _ _) h
    · cases ho
  · cases ho

/-- Fewer slots, the blocks written out. -/
theorem CRel.pick {ε : Env} {nt : Nat} {σ : St} {a : Act} {w : World} (hc : CRel ε nt σ a w) (tl : List (Nat × SV)) (bs : List NB)
    (h1 : tl.map (fun x => lk x.1 σ.tl) = tl.map (fun x => some x.2)) (h2 : σ.bs = bs) : CRel ε nt { tl := tl, bs := bs } a w := by
  refine ⟨fun d v hd => ?_, hc.size, hc.defers, h2 ▸ hc.mem⟩
  refine hc.tl d v ?_
  clear h2
  induction tl with
  | nil => cases hd
  | cons x l ih =>
    obtain ⟨x1, x2⟩ := x
    simp only [List.map_cons, List.cons.injEq] at h1
    simp only [lk] at hd
    split at hd
    · rename_i e; cases hd; subst e; exact h1.1
    · exact ih h1.2 hd

/-- A value laid into a slot behind a call. -/
theorem TRel.lay {ρ : Nat → Nat} {tl : List (Nat × SV)} {a : Act} (h : TRel ρ tl a.tmps) {nt : Nat} (hs : a.tmps.size = nt) (d : Nat) (hd : Nat.blt d nt = true) (v : SV) {u : Value} (hu : u = v.real ρ) :
    TRel ρ ((d, v) :: tl) (a.put (some d) u).tmps := by
  subst hu
  exact TRel.put h d (by rw [hs]; exact Nat.le_of_ble_eq_true hd) v

def AllP : List (Env → Prop) → Env → Prop
  | [], _ => True
  | p :: l, ε => p ε ∧ AllP l ε

theorem holds_of {σ : St} {ε : Env} {obs : List (Env → Prop)} (h : σ.ob = obs) (h2 : AllP obs ε) : σ.holds ε := by
  intro p hp
  rw [h] at hp
  clear h
  induction obs with
  | nil => cases hp
  | cons q l ih =>
    rcases List.mem_cons.1 hp with rfl | hp
    · exact h2.1
    · exact ih h2.2 hp

/-- Items that neither read nor write. -/
def ctl1 : List Item → Option (List Item)
  | .code .skip :: k => some k
  | .code (.label _) :: k => some k
  | .inBlock _ :: k => some k
  | .inScope _ :: k => some k
  | .inRegion _ [] :: k => some k
  | .code (.seq x y) :: k => some (.code x :: .code y :: k)
  | .code (.block id c) :: k => some (.code c :: .inBlock id :: k)
  | .code (.exit id) :: k => exitTo id k
  | _ => none

def ctl : Nat → List Item → List Item
  | 0, k => k
  | n + 1, k => match ctl1 k with
    | some k' => ctl n k'
    | none => k

theorem gets_ctl {P : Program} {f : FuncId} {a : Act} {w : World} {R : Ending → World → Prop} : ∀ (n : Nat) (k : List Item), Gets P f (ctl n k) a w R → Gets P f k a w R
  | 0, _, h => h
  | n + 1, k, h => by
    simp only [ctl] at h
    cases hs : ctl1 k with
    | none => rw [hs] at h; exact h
    | some k' =>
      rw [hs] at h
      have ih := gets_ctl n k' h
      unfold ctl1 at hs
      split at hs
      · cases hs; exact Gets.of_steps (fun _ => .one step_skip) ih
      · cases hs; exact Gets.of_steps (fun _ => .one step_label) ih
      · cases hs; exact Gets.of_steps (fun _ => .one step_inBlock) ih
      · cases hs; exact Gets.of_steps (fun _ => .one step_inScope) ih
      · cases hs; exact Gets.of_steps (fun _ => .one step_region_end) ih
      · cases hs; exact Gets.of_steps (fun _ => .one step_seq) ih
      · cases hs; exact Gets.of_steps (fun _ => .one step_block) ih
      · exact Gets.of_steps (fun _ => .one (step_exit hs)) ih
      · cases hs

theorem gets_end0 {P : Program} {f : FuncId} {fn : Func} {k : List Item} {a : Act} {w : World} {R : Ending → World → Prop} (hd : a.defers = []) (hf : P.funcs[f]? = some fn) (hr : fn.results = #[])
    (hk : isFin (ctl 30 k) = true) (hR : R (.returned (.tuple #[])) w) : Gets P f k a w R := by
  refine gets_ctl 30 k (fun cs => ?_)
  have hres : (results fn a.tmps).run P w = .ok (.tuple #[]) w := by simp [results, hr]
  unfold isFin at hk
  split at hk
  · rename_i hk'; rw [hk']; exact ⟨_, w, _, hR, Steps.one step_end, rfl, rfl, hd, rfl, fn, hf, hres⟩
  · rename_i hk'; rw [hk']; exact ⟨_, w, _, hR, Steps.one step_ret, rfl, rfl, hd, rfl, fn, hf, hres⟩
  · cases hk

def loopX : List Item → Option (List Item)
  | .code (.loop c) :: k => some (.code c :: .inLoop c :: k)
  | .inLoop c :: k => some (.code c :: .inLoop c :: k)
  | _ => none

theorem gets_loop {P : Program} {f : FuncId} {k k' : List Item} {a : Act} {w : World} {R : Ending → World → Prop} (h : loopX k = some k') (hg : Gets P f k' a w R) : Gets P f k a w R := by
  unfold loopX at h
  split at h
  · cases h; exact Gets.of_steps (fun _ => .one step_loop) hg
  · cases h; exact Gets.of_steps (fun _ => .one step_inLoop) hg
  · cases h

theorem Act.put_defers' (a : Act) (d : Option Nat) (v : Value) : (a.put d v).defers = a.defers := by cases d <;> rfl

theorem Act.put_size (a : Act) (d : Option Nat) (v : Value) : (a.put d v).tmps.size = a.tmps.size := by cases d <;> simp [Act.put]

/-- A call that is the last thing that a function without results does. -/
theorem gets_tail {P : Program} {ε : Env} {nt : Nat} {f : FuncId} {fn : Func} {k : List Item} {σ : St} {a : Act} {w : World} {R : Ending → World → Prop} {c : CallX} (S : World → Prop)
    (hc : CRel ε nt σ a w) (hx : callX k σ = some c) (he : enters P c.fn = true) (hcall : Calls P c.fn (c.real ε.ρ) w fun e w' => e = .returned (.tuple #[]) ∧ S w')
    (hf : P.funcs[f]? = some fn) (hr : fn.results = #[]) (hk : isFin (ctl 30 (popX k)) = true) (h : ∀ w', S w' → R (.returned (.tuple #[])) w') : Gets P f k a w R := by
  refine gets_call hc hx he hcall (fun e w' ⟨h1, h2⟩ => ⟨_, h1, ?_⟩)
  exact gets_end0 (by rw [Act.put_defers']; exact hc.defers) hf hr hk (h w' h2)

/-- The plain end of what a function does to the machine at b. -/
def Does (B : Bd) (b : Nat) (w : World) (m' : M) (e : Ending) (w' : World) : Prop := e = .returned (.tuple #[]) ∧ MOk B w' b m' ∧ Evo w b w'

theorem real_plain {x : C} (ρ : Nat → Nat) (h : x.below 0 = true) : x.real ρ = x.real fun _ => 0 :=
  (C.real_below (ρ := ρ) (ρ' := fun _ => 0) (n := 0) (fun i hi => by cases hi) h).symm

theorem map_plain {l : List C} (ρ : Nat → Nat) (h : l.all (C.below 0) = true) : (l.map (C.real ρ)).toArray = plainR l := by
  unfold plainR
  congr 1
  apply List.map_congr_left
  intro x hx
  exact real_plain ρ (List.all_eq_true.1 h x hx)

theorem mcells_below (prog : ByteArray) (status : Int) (a : Option Addr) (n c : Nat) (th : Option (FuncId × Array Value)) (call : CallD) (over : Bool) :
    (mcells prog status a n c (thnC th) call over).all (C.below 0) = true := by
  cases th <;> rfl

end Go.Proofs.YtoihipolfdhhnaaGreatDoor

namespace Go.Proofs.YtoihipolfdhhnaaGreatDoor

theorem MAt.rel {B : Bd} {w : World} {b : Nat} {m : M} {a : Option Addr} {n c : Nat} {th : Option (FuncId × Array Value)} {row : List (FuncId × Array Value)} (h : MAt B w b m a n c th row)
    (ro : Addr → Option Value) (hro : ∀ ad v, ro ad = some v → w.cell? ad = some v ∧ ad.block ≠ b) : Rel (env w [b] ro) [⟨66, mcells m.prog m.status a n c (thnC th) m.call m.over⟩] w := by
  refine rel_start rfl ?_ ?_ (fun ad v hv => by obtain ⟨h1, h2⟩ := hro ad v hv; exact ⟨h1, by simpa using h2⟩)
  · intro i j k hi hj
    cases i with
    | zero => cases j with
      | zero => rfl
      | succ j => simp at hj
    | succ i => simp at hi
  · intro i nb k hi hk
    cases i with
    | zero =>
      simp only [List.getElem?_cons_zero, Option.some.injEq] at hi hk
      subst hi; subst hk
      rw [map_plain _ (mcells_below _ _ _ _ _ _ _ _)]
      exact h.cells
    | succ i => simp at hi

theorem evo_of_rel {B : Bd} {w w' : World} {b : Nat} {m m' : M} {a : Option Addr} {n c : Nat} {th th' : Option (FuncId × Array Value)} {row : List (FuncId × Array Value)} {bs : List NB} {ro : Addr → Option Value}
    (h : MAt B w b m a n c th row) (hrel : Rel (env w [b] ro) bs w') (hb : bs[0]? = some ⟨66, mcells m'.prog m'.status a n c (thnC th') m'.call m'.over⟩) : Evo w b w' := by
  have hw' : w'.heap[b]? = some (.cells (plainR (mcells m'.prog m'.status a n c (thnC th') m'.call m'.over)) 66 (0, 0)) := by
    have := hrel.cells 0 _ hb
    rw [map_plain _ (mcells_below _ _ _ _ _ _ _ _)] at this
    exact this
  have hcell : w'.cell? ⟨b, 3, none⟩ = some (.slice a n c) := by simp [World.cell?, hw', plainR, mcells, C.real]
  refine ⟨hrel.os, hrel.tape, hrel.output, ?_, ?_, ?_⟩
  · rw [hrel.size]; exact Nat.le_add_right _ _
  · intro k hk ho
    refine hrel.keep k hk (fun i hi e => ho ?_)
    have : i = 0 := by simp only [env, List.length_cons, List.length_nil] at hi; omega
    subst this
    exact .inl e.symm
  · intro k ho
    rcases ho with ho | ⟨n', c', ho⟩
    · exact .inl (.inl ho)
    · rw [hcell] at ho
      simp only [Option.some.injEq, Value.slice.injEq] at ho
      exact .inl ((h.own k).2 (.inr ho.1))

theorem MAt.after {B : Bd} {w w' : World} {b : Nat} {m m' : M} {a : Option Addr} {n c : Nat} {th th' : Option (FuncId × Array Value)} {row : List (FuncId × Array Value)} {bs : List NB} {ro : Addr → Option Value}
    (h : MAt B w b m a n c th row) (hrel : Rel (env w [b] ro) bs w') (hb : bs[0]? = some ⟨66, mcells m'.prog m'.status a n c (thnC th') m'.call m'.over⟩) (ht : m'.todo = m.todo)
    (hth : ThnOk B w' m'.thn th') : MOk B w' b m' ∧ Evo w b w' := by
  have hevo := evo_of_rel h hrel hb
  have hkeep := hevo.keep ⟨a, n, c, th, row, h⟩
  have hw' : w'.heap[b]? = some (.cells (plainR (mcells m'.prog m'.status a n c (thnC th') m'.call m'.over)) 66 (0, 0)) := by
    have := hrel.cells 0 _ hb
    rw [map_plain _ (mcells_below _ _ _ _ _ _ _ _)] at this
    exact this
  refine ⟨⟨a, n, c, th', row, h.base, hw', ?_, ?_, h.len, hth, h.glob.keep hkeep⟩, hevo⟩
  · obtain ⟨h1, h2⟩ := h.owns
    refine ⟨h1, ?_⟩
    rcases h2 with h2 | ⟨g, cap, cur, h3, h4, h5, h6⟩
    · exact .inl h2
    · refine .inr ⟨g, cap, cur, h3, h4, ?_, h6⟩
      have hgb : g ≠ b := by
        rintro rfl
        rw [h.cells] at h5
        simp only [Option.some.injEq, Obj.cells.injEq] at h5
        exact absurd h5.2.1 (by decide)
      rw [hrel.keep g (lt_of_block h5) (fun i hi e => by
        have : i = 0 := by simp only [env, List.length_cons, List.length_nil] at hi; omega
        subst this
        exact hgb e.symm)]
      exact h5
  · rw [ht]; exact h.todo.mono (fun x y hx => hx.keep hkeep)

/-- Sys: the call, and what follows. -/
theorem sys_calls {B : Bd} {w : World} {b : Nat} {m : M} (hm : MOk B w b m) (cd : CallD) (t : Rn) (f : FuncId) (c : Array Value) (ht : RepR B w t f c) :
    Calls Tryz.prog 69 #[bp b, .agg (plainR cd.cs), .func (.func f) #[] c] w (Does B b w (m.sys cd t)) := by
  obtain ⟨a, n, cp, th, row, hm⟩ := hm
  refine calls_exec [.e (.c (.p 0 0)), .e (.a cd.cs), .e (.c (.fv f c))] [b] [⟨66, mcells m.prog m.status a n cp (thnC th) m.call m.over⟩] noRo Tryz.func69 rfl rfl rfl (hm.rel noRo (fun _ _ h => by cases h)) ?_
  intro a0 hc
  refine gets_run tab_ok 40 hc (holds_of (obs := []) (by kernel_rfl) trivial) (fun a' w' hc' => ?_)
  refine gets_fin tab_ok (l := []) hc' Tryz.func69 (by kernel_rfl) (by kernel_rfl) ?_
  have hk := (evo_of_rel (m' := { m with call := cd, thn := some t }) (th' := some (f, c)) hm hc'.mem (by kernel_rfl)).keep ⟨a, n, cp, th, row, hm⟩
  obtain ⟨h1, h2⟩ := hm.after (m' := { m with call := cd, thn := some t }) (th' := some (f, c)) hc'.mem (by kernel_rfl) rfl (ht.keep hk)
  exact ⟨rfl, h1, h2⟩

/-- Exit. -/
theorem exit_calls {B : Bd} {w : World} {b : Nat} {m : M} (hm : MOk B w b m) (k : Int) : Calls Tryz.prog 24 #[bp b, .int .i64 k] w (Does B b w (m.exit k)) := by
  obtain ⟨a, n, cp, th, row, hm⟩ := hm
  refine calls_exec [.e (.c (.p 0 0)), .e (.c (.int .i64 k))] [b] [⟨66, mcells m.prog m.status a n cp (thnC th) m.call m.over⟩] noRo Tryz.func24 rfl rfl rfl (hm.rel noRo (fun _ _ h => by cases h)) ?_
  intro a0 hc
  refine gets_run tab_ok 40 hc (holds_of (obs := []) (by kernel_rfl) trivial) (fun a' w' hc' => ?_)
  refine gets_fin tab_ok (l := []) hc' Tryz.func24 (by kernel_rfl) (by kernel_rfl) ?_
  have hk := (evo_of_rel (m' := m.exit k) (th' := th) hm hc'.mem (by kernel_rfl)).keep ⟨a, n, cp, th, row, hm⟩
  have hth : ThnOk B w' (m.exit k).thn th := by
    have := hm.thn
    show ThnOk B w' m.thn th
    cases hm1 : m.thn <;> cases th <;> simp only [hm1, ThnOk] at this ⊢
    exact this.keep hk
  obtain ⟨h1, h2⟩ := hm.after (m' := m.exit k) (th' := th) hc'.mem (by kernel_rfl) rfl hth
  exact ⟨rfl, h1, h2⟩

theorem info84 : (Tryz.prog.info? 84).map (fun i => (i.zero.map fun z => z.cells, i.size, i.bytes)) = some (some #[.nilFunc, .bool false], 2, 16) := by kernel_rfl

theorem thn_keep {B : Bd} {w w' : World} {t : Option Rn} {th : Option (FuncId × Array Value)} (h : ThnOk B w t th) (hk : Keep B w w') : ThnOk B w' t th := by
  cases t <;> cases th <;> simp only [ThnOk] at h ⊢
  exact h.keep hk

/-- Push. -/
theorem push_calls {B : Bd} {w : World} {b : Nat} {m : M} (hm : MOk B w b m) (hl : m.todo.length ≤ 1000000) (hB : B ≤ w.heap.size) (k : Fn) (f : FuncId) (c : Array Value) (hk : RepF B w k f c) :
    Calls Tryz.prog 22 #[bp b, .func (.func f) #[] c] w (Does B b w (m.push k)) := by
  have hm0 := hm
  obtain ⟨a, n, cp, th, row, hm⟩ := hm
  refine calls_exec [.e (.c (.p 0 0)), .e (.c (.fv f c))] [b] [⟨66, mcells m.prog m.status a n cp (thnC th) m.call m.over⟩] noRo Tryz.func22 rfl rfl rfl (hm.rel noRo (fun _ _ h => by cases h)) ?_
  intro a0 hc
  refine gets_run tab_ok 40 hc (holds_of (obs := []) (by kernel_rfl) trivial) (fun a1 w1 hc1 => ?_)
  -- the row in the world behind the literal
  replace hc1 := hc1.pick [(8, .e (.c (.sl a n cp))), (11, .e (.c (.nsl 1 0 1 1))), (4, .e (.c (.p 0 0)))] [⟨66, mcells m.prog m.status a n cp (thnC th) m.call m.over⟩, ⟨84, [.fv f c, .bool false]⟩] (by kernel_rfl) (by kernel_rfl)
  have hrel1 := hc1.mem
  have hown1 : w1.ownsRow B 84 2 (.slice a n cp) n (row.flatMap stepV) := by
    obtain ⟨h1, h2⟩ := hm.owns
    refine ⟨h1, ?_⟩
    rcases h2 with h2 | ⟨g, cap, cur, h3, h4, h5, h6⟩
    · exact .inl h2
    · refine .inr ⟨g, cap, cur, h3, h4, ?_, h6⟩
      rw [hrel1.keep g (lt_of_block h5) (fun i hi e => by
        have : i = 0 := by simp only [env, List.length_cons, List.length_nil] at hi; omega
        subst this
        have e' : b = g := e
        subst e'
        rw [hm.cells] at h5
        simp only [Option.some.injEq, Obj.cells.injEq] at h5
        exact absurd h5.2.1 (by decide))]
      exact h5
  have hnb : (env w [b] noRo).ρ 1 = w.heap.size := by simp [env]
  have hcell1 : w1.heap[w.heap.size]? = some (.cells #[.func (.func f) #[] c, .bool false] 84 (0, 0)) := by
    have := hrel1.cells 1 _ rfl
    rw [hnb] at this
    exact this
  have hcellb : w1.heap[b]? = some (.cells (plainR (mcells m.prog m.status a n cp (thnC th) m.call m.over)) 66 (0, 0)) := by
    have := hrel1.cells 0 _ rfl
    rw [map_plain _ (mcells_below _ _ _ _ _ _ _ _)] at this
    exact this
  have hsize1 : w1.heap.size = w.heap.size + 1 := by rw [hrel1.size]; rfl
  obtain ⟨i84, hi84, hz84⟩ : ∃ i, Tryz.prog.info? 84 = some i ∧ i.zero.map (fun z => z.cells) = some #[.nilFunc, .bool false] ∧ i.size = 2 ∧ i.bytes = 16 := by
    have := info84
    cases hi : Tryz.prog.info? 84 with
    | none => rw [hi] at this; cases this
    | some i => rw [hi] at this; simp only [Option.map_some, Option.some.injEq, Prod.mk.injEq] at this; exact ⟨i, rfl, this.1, this.2⟩
  obtain ⟨hz, hs84, hb84⟩ := hz84
  obtain ⟨z, hz1, hz2⟩ : ∃ z, i84.zero = some z ∧ z.cells = #[.nilFunc, .bool false] := by
    cases h : i84.zero with
    | none => rw [h] at hz; cases hz
    | some z => rw [h] at hz; simp only [Option.map_some, Option.some.injEq] at hz; exact ⟨z, rfl, hz⟩
  have hrl : row.length = m.todo.length := hm.todo.length.symm
  obtain ⟨v', w2, hrun, hown2, hgrow, _, hat⟩ := run_append_own_at (P := Tryz.prog) w1 B 63 63 84 i84 z 2 16 Tryz.underlying63 hi84 hz1 hs84 hb84 (by rw [hz2]; rfl) (by decide)
    (.slice a n cp) n _ hown1 ⟨w.heap.size, 0, none⟩ 1 1 (stepV (f, c)) rfl
    (fun j u hj => by
      have : (⟨w.heap.size, 0, none⟩ : Addr).add j = ⟨w.heap.size, j, none⟩ := by rw [addr_add]; simp
      rw [this]
      simp only [World.cell?, hcell1, Option.isSome_none, Bool.false_eq_true, if_false]
      match j, hj with
      | 0, hj => simpa [stepV] using hj
      | 1, hj => simpa [stepV] using hj
      | j + 2, hj => simp [stepV] at hj)
    (fun u hu => by simp only [stepV, List.mem_cons, List.mem_nil_iff, or_false] at hu; rcases hu with rfl | rfl <;> rfl)
    (by have := hm.len; simp only [maxLen]; omega) (by have := hm.len; omega) (by omega)
  -- the new slice
  obtain ⟨a', cp', rfl⟩ : ∃ a' cp', v' = .slice a' (n + 1) cp' := by
    rcases hown2.2 with ⟨h1, h2⟩ | ⟨g, cap, cur, h1, _⟩
    · omega
    · exact ⟨_, _, h1⟩
  have hblock : ∀ j, j < w1.heap.size → a ≠ some ⟨j, 0, none⟩ → w2.heap[j]? = w1.heap[j]? := by
    intro j hj hne
    refine hgrow.block j hj (fun e => hne ?_)
    obtain ⟨_, h2⟩ := hm.owns
    rcases h2 with ⟨h3, _⟩ | ⟨g, cap, cur, h3, _⟩
    · simp only [Value.slice.injEq] at h3; rw [h3.1] at e; simp [Value.ownBlock] at e
    · simp only [Value.slice.injEq] at h3
      obtain ⟨h3, _, _⟩ := h3
      subst h3
      simp only [Value.ownBlock, Option.some.injEq] at e
      rw [e]
  have hab : a ≠ some ⟨b, 0, none⟩ := by
    rintro rfl
    obtain ⟨_, h2⟩ := hm.owns
    rcases h2 with ⟨h3, _⟩ | ⟨g, cap, cur, h3, h4, h5, _⟩
    · cases h3
    · simp only [Value.slice.injEq, Option.some.injEq, Addr.mk.injEq] at h3
      obtain ⟨⟨rfl, _⟩, _⟩ := h3
      rw [hm.cells] at h5
      simp only [Option.some.injEq, Obj.cells.injEq] at h5
      exact absurd h5.2.1 (by decide)
  have han : a ≠ some ⟨w.heap.size, 0, none⟩ := by
    rintro rfl
    obtain ⟨_, h2⟩ := hm.owns
    rcases h2 with ⟨h3, _⟩ | ⟨g, cap, cur, h3, h4, h5, _⟩
    · cases h3
    · simp only [Value.slice.injEq, Option.some.injEq, Addr.mk.injEq] at h3
      obtain ⟨⟨rfl, _⟩, _⟩ := h3
      have := lt_of_block h5
      omega
  have hbl := lt_of_block hm.cells
  have hcellb2 : w2.heap[b]? = some (.cells (plainR (mcells m.prog m.status a n cp (thnC th) m.call m.over)) 66 (0, 0)) := by
    rw [hblock b (by omega) hab]; exact hcellb
  have hcell2 : w2.heap[w.heap.size]? = some (.cells #[.func (.func f) #[] c, .bool false] 84 (0, 0)) := by
    rw [hblock _ (by omega) han]; exact hcell1
  -- the append
  have hev8 : a1.eval (.tmp 8) = .slice a n cp := ev_ok (σ := { tl := _, bs := [] }) (v := .e (.c (.sl a n cp))) hc1.tl rfl
  have hev11 : a1.eval (.tmp 11) = .slice (some ⟨w.heap.size, 0, none⟩) 1 1 := by
    have := ev_ok (σ := { tl := _, bs := [] }) (v := .e (.c (.nsl 1 0 1 1))) (x := .tmp 11) hc1.tl rfl
    rw [this]
    simp only [SV.real, E.real, C.real, hnb]
  refine gets_opX (dst := some 12) (op := .call ⟨.builtin .append, #[.tmp 8, .tmp 11], #[63, 63]⟩) (ty := 63) (by kernel_rfl) (v := .slice a' (n + 1) cp') (w' := w2) ?_ ?_
  · intro pos after
    simp [execOp, resolve, invoke, builtin, hev8, hev11, hrun]
  have hc2 : CRel ((env w [b] noRo).next 2 w2 noRo) Tryz.f22.ntmps { tl := [(12, .e (.c (.sl a' (n + 1) cp'))), (8, .e (.c (.sl a n cp))), (11, .e (.c (.nsl 1 0 1 1))), (4, .e (.c (.p 0 0)))], bs := [⟨66, mcells m.prog m.status a n cp (thnC th) m.call m.over⟩, ⟨84, [.fv f c, .bool false]⟩] }
      (a1.put (some 12) (.slice a' (n + 1) cp')) w2 := by
    refine CRel.next 2 noRo (hc1.tl.lay hc1.size 12 (by kernel_rfl) (.e (.c (.sl a' (n + 1) cp'))) rfl) (by simp [Act.put, hc1.size]) hc1.defers rfl ?_ ?_ (fun _ _ h => by cases h) rfl ?_
    · exact fun i j hi hj e => hrel1.inj i j hi hj e
    · intro i nb hi
      match i, hi with
      | 0, hi => cases hi; rw [map_plain _ (mcells_below _ _ _ _ _ _ _ _)]; exact hcellb2
      | 1, hi => cases hi; rw [hnb]; exact hcell2
    · show ((mcells m.prog m.status a n cp (thnC th) m.call m.over).all (C.below 2) && _) = true
      cases th <;> rfl
  refine gets_run tab_ok 20 hc2 (holds_of (obs := []) (by kernel_rfl) trivial) (fun a2 w3 hc3 => ?_)
  refine gets_fin tab_ok (l := []) hc3 Tryz.func22 (by kernel_rfl) (by kernel_rfl) ?_
  replace hc3 := hc3.pick [] [⟨66, mcells m.prog m.status a' (n + 1) cp' (thnC th) m.call m.over⟩, ⟨84, [.fv f c, .bool false]⟩] rfl (by kernel_rfl)
  have hrel3 := hc3.mem
  have hρ0 : ((env w [b] noRo).next 2 w2 noRo).ρ 0 = b := rfl
  have hcellb3 : w3.heap[b]? = some (.cells (plainR (mcells m.prog m.status a' (n + 1) cp' (thnC th) m.call m.over)) 66 (0, 0)) := by
    have := hrel3.cells 0 _ rfl
    rw [map_plain _ (mcells_below _ _ _ _ _ _ _ _)] at this
    exact this
  have hcell3 : w3.cell? ⟨b, 3, none⟩ = some (.slice a' (n + 1) cp') := by simp [World.cell?, hcellb3, plainR, mcells, C.real]
  have hsz3 : w3.heap.size = w2.heap.size := by rw [hrel3.size]; rfl
  -- blocks other than b and the row
  have hall : ∀ j, j < w.heap.size → j ≠ b → a ≠ some ⟨j, 0, none⟩ → w3.heap[j]? = w.heap[j]? := by
    intro j hj h1 h2
    have e3 : w3.heap[j]? = w2.heap[j]? := hrel3.keep j (by have := hgrow.size; show j < w2.heap.size; omega) (fun i hi => by
      have hi2 : i < 2 := hi
      match i, hi2 with
      | 0, _ => exact fun e => h1 e.symm
      | 1, _ => show (env w [b] noRo).ρ 1 ≠ j; rw [hnb]; omega)
    rw [e3, hblock j (by omega) h2]
    exact hrel1.keep j hj (fun i hi e => by
      have : i = 0 := by simp only [env, List.length_cons, List.length_nil] at hi; omega
      subst this
      exact h1 e.symm)
  have hevo : Evo w b w3 := by
    refine ⟨?_, ?_, ?_, by have := hgrow.size; omega, ?_, ?_⟩
    · exact hrel3.os.trans (hgrow.os.trans hrel1.os)
    · exact hrel3.tape.trans (hgrow.tape.trans hrel1.tape)
    · exact hrel3.output.trans (hgrow.output.trans hrel1.output)
    · intro j hj ho
      exact hall j hj (fun e => ho (.inl e)) (fun e => ho ((hm.own j).2 (.inr e)))
    · intro j ho
      rcases ho with rfl | ⟨n', c', ho⟩
      · exact .inl (.inl rfl)
      · rw [hcell3] at ho
        simp only [Option.some.injEq, Value.slice.injEq] at ho
        obtain ⟨rfl, _, _⟩ := ho
        rcases hat with hat | hat
        · simp only [Value.ownBlock] at hat
          cases a with
          | none => cases hat
          | some ad =>
            simp only [Option.some.injEq] at hat
            obtain ⟨_, h2⟩ := hm.owns
            rcases h2 with ⟨h3, _⟩ | ⟨g, cap, cur, h3, _⟩
            · cases h3
            · simp only [Value.slice.injEq, Option.some.injEq] at h3
              obtain ⟨rfl, _, _⟩ := h3
              simp only at hat
              subst hat
              exact .inl ((hm.own _).2 (.inr rfl))
        · simp only [Value.ownBlock, Option.some.injEq] at hat
          exact .inr (by omega)
  have hkeep := hevo.keep hm0
  refine ⟨rfl, ⟨a', n + 1, cp', th, row ++ [(f, c)], hm.base, hcellb3, ?_, ?_, by simp [hm.len], thn_keep hm.thn hkeep, hm.glob.keep hkeep⟩, hevo⟩
  · have hx : row.flatMap stepV ++ stepV (f, c) = (row ++ [(f, c)]).flatMap stepV := by simp
    rw [hx] at hown2
    obtain ⟨h1, h2⟩ := hown2
    refine ⟨h1, ?_⟩
    rcases h2 with ⟨h3, h4⟩ | ⟨g, cap, cur, h3, h4, h5, h6⟩
    · omega
    · refine .inr ⟨g, cap, cur, h3, h4, ?_, h6⟩
      simp only [Value.slice.injEq] at h3
      obtain ⟨h3, _, _⟩ := h3
      rw [hrel3.keep g (lt_of_block h5) (fun i hi => ?_)]
      · exact h5
      · have hi2 : i < 2 := hi
        match i, hi2 with
        | 0, _ =>
          show b ≠ g
          rintro rfl
          rw [hcellb2] at h5
          simp only [Option.some.injEq, Obj.cells.injEq] at h5
          exact absurd h5.2.1 (by decide)
        | 1, _ =>
          show (env w [b] noRo).ρ 1 ≠ g
          rw [hnb]
          rintro rfl
          -- the row is either the old one or newer than the literal
          rcases hat with hat | hat
          · rw [h3] at hat
            simp only [Value.ownBlock] at hat
            cases a with
            | none => cases hat
            | some ad =>
              obtain ⟨_, h2⟩ := hm.owns
              rcases h2 with ⟨h7, _⟩ | ⟨g', cap', cur', h7, _⟩
              · cases h7
              · simp only [Value.slice.injEq, Option.some.injEq] at h7
                obtain ⟨rfl, _, _⟩ := h7
                simp only [Option.some.injEq] at hat
                subst hat
                exact han rfl
          · rw [h3] at hat
            simp only [Value.ownBlock, Option.some.injEq] at hat
            omega
  · exact (hm.todo.mono (fun x y hx => hx.keep hkeep)).append (.cons (hk.keep hkeep) .nil)

end Go.Proofs.YtoihipolfdhhnaaGreatDoor

namespace Go.Proofs.YtoihipolfdhhnaaGreatDoor

/-- The machine stays where only new blocks have come. -/
theorem MOk.new {B : Bd} {w w' : World} {b : Nat} {m : M} {bs : List NB} {ro : Addr → Option Value} (hm : MOk B w b m) (hrel : Rel (env w [] ro) bs w') : MOk B w' b m ∧ Evo w b w' := by
  have hall : ∀ k, k < w.heap.size → w'.heap[k]? = w.heap[k]? := fun k hk => hrel.keep k hk (fun i hi => by simp [env] at hi)
  have hm0 := hm
  obtain ⟨a, n, c, th, row, hm⟩ := hm
  have hcell : w'.cell? ⟨b, 3, none⟩ = w.cell? ⟨b, 3, none⟩ := World.cell?_of_block (hall b (lt_of_block hm.cells))
  have hevo : Evo w b w' := by
    refine ⟨hrel.os, hrel.tape, hrel.output, by rw [hrel.size]; exact Nat.le_add_right _ _, fun k hk _ => hall k hk, fun k ho => ?_⟩
    rcases ho with ho | ⟨n', c', ho⟩
    · exact .inl (.inl ho)
    · exact .inl (.inr ⟨n', c', by rw [← hcell]; exact ho⟩)
  have hkeep := hevo.keep hm0
  refine ⟨⟨a, n, c, th, row, hm.base, ?_, ?_, hm.todo.mono (fun x y hx => hx.keep hkeep), hm.len, thn_keep hm.thn hkeep, hm.glob.keep hkeep⟩, hevo⟩
  · rw [hall b (lt_of_block hm.cells)]; exact hm.cells
  · obtain ⟨h1, h2⟩ := hm.owns
    refine ⟨h1, ?_⟩
    rcases h2 with h2 | ⟨g, cap, cur, h3, h4, h5, h6⟩
    · exact .inl h2
    · exact .inr ⟨g, cap, cur, h3, h4, by rw [hall g (lt_of_block h5)]; exact h5, h6⟩

/-- A new box. -/
theorem box_of {B : Bd} {w0 : World} {ro : Addr → Option Value} {bs : List NB} {w : World} (hx : XsOk B w0) (h : Rel (env w0 [] ro) bs w) {i k : Nat} {T : TypeId} {x : C} {v : Value} (hi : bs[i]? = some ⟨T, [x]⟩) (hk : (env w0 [] ro).ρ i = k) (hv : x.real (env w0 [] ro).ρ = v) : Box B w k T v := by
  have := h.cells i _ hi
  rw [hk] at this
  simp only [List.map_cons, List.map_nil, hv] at this
  refine ⟨this, hx.notx ?_⟩
  rw [← hk]
  exact Nat.le_add_right _ _

theorem rel_nil (w : World) (ro : Addr → Option Value) (hro : ∀ a v, ro a = some v → w.cell? a = some v) : Rel (env w [] ro) [] w :=
  rel_start rfl (fun i j k hi => by simp at hi) (fun i nb k hi => by simp at hi) (fun a v h => ⟨hro a v h, by simp⟩)

theorem Does.evo {B : Bd} {b : Nat} {w w1 : World} {m : M} {e : Ending} {w' : World} (h : Evo w b w1) (hd : Does B b w1 m e w') : Does B b w m e w' := ⟨hd.1, hd.2.1, h.trans hd.2.2⟩

/-- Say, of a text that is not empty. -/
theorem say_calls {B : Bd} {w : World} {b : Nat} {m : M} (hm : MOk B w b m) (fd : Int) (text : ByteArray) (ht : (text.toList == []) = false) (t : Fn) (f : FuncId) (c : Array Value) (hk : RepF B w t f c) :
    Calls Tryz.prog 72 #[bp b, .int .i64 fd, .string text, .func (.func f) #[] c] w (Does B b w (m.say fd text t)) := by
  refine calls_exec [.e (.c (.rp ⟨b, 0, none⟩)), .e (.c (.int .i64 fd)), .e (.c (.str text)), .e (.c (.fv f c))] [] [] noRo Tryz.func72 rfl rfl rfl (rel_nil w noRo (fun _ _ h => by cases h)) ?_
  intro a0 hc
  replace hc : CRel (env w [] noRo) Tryz.f72.ntmps { tl := tlOf 0 [.e (.c (.rp ⟨b, 0, none⟩)), .e (.c (.int .i64 fd)), .e (.c (.str text)), .e (.c (.fv f c))], bs := [], orc := [false] } a0 w := ⟨hc.tl, hc.size, hc.defers, hc.mem⟩
  refine gets_run tab_ok 40 hc (holds_of (obs := [fun _ => (text.toList == []) = false]) (by kernel_rfl) ⟨ht, trivial⟩) (fun a1 w1 hc1 => ?_)
  replace hc1 := hc1.pick [(13, .e (.c (.rp ⟨b, 0, none⟩))), (16, .e (.a ({ op := 5, fd := fd, text := text } : CallD).cs)), (17, .e (.c (.f 125 [.n 1 0, .n 2 0, .n 0 0])))] [⟨3, [.int .i64 fd]⟩, ⟨9, [.str text]⟩, ⟨67, [.fv f c]⟩] (by kernel_rfl) (by kernel_rfl)
  obtain ⟨hm1, he1⟩ := hm.new hc1.mem
  refine gets_tail (fun w' => MOk B w' b (m.say fd text t) ∧ Evo w1 b w') (c := ⟨69, [.c (.rp ⟨b, 0, none⟩), .a ({ op := 5, fd := fd, text := text } : CallD).cs, .c (.f 125 [.n 1 0, .n 2 0, .n 0 0])], [], #[]⟩) hc1 (by kernel_rfl) (by kernel_rfl) ?_ Tryz.func72 rfl (by kernel_rfl) (fun w' h => ⟨rfl, h.1, he1.trans h.2⟩)
  exact sys_calls hm1 _ (.say fd text t) 125 _ ⟨rfl, w.heap.size + 1, w.heap.size + 2, w.heap.size, f, c, rfl, box_of hm.xs hc1.mem (i := 1) rfl rfl rfl, box_of hm.xs hc1.mem (i := 2) rfl rfl rfl, hk.keep (he1.keep hm), box_of hm.xs hc1.mem (i := 0) rfl rfl rfl⟩

end Go.Proofs.YtoihipolfdhhnaaGreatDoor

namespace Go.Proofs.YtoihipolfdhhnaaGreatDoor

open Classical in
/-- What the machine never writes. -/
noncomputable def sro (B : Bd) (w : World) : Addr → Option Value := fun a => if Safe B w a.block then w.cell? a else none

theorem sro_le {B : Bd} {w : World} {a : Addr} {v : Value} (h : sro B w a = some v) : Safe B w a.block ∧ w.cell? a = some v := by
  unfold sro at h
  split at h
  · rename_i hs; exact ⟨hs, h⟩
  · cases h

theorem sro_of {B : Bd} {w : World} {a : Addr} {v : Value} (hs : Safe B w a.block) (h : w.cell? a = some v) : sro B w a = some v := by
  unfold sro; rw [if_pos hs]; exact h

theorem sro_keep {B : Bd} {w w' : World} (hk : Keep B w w') {a : Addr} {v : Value} (h : sro B w a = some v) : w'.cell? a = some v := by
  obtain ⟨h1, h2⟩ := sro_le h
  rw [World.cell?_of_block (hk.block _ (World.block_lt_of_cell? w a h2) h1)]; exact h2

/-- A box, read. -/
theorem Box.sro {B : Bd} {w : World} {k : Nat} {T : TypeId} {v : Value} (h : Box B w k T v) (h1 : T ≠ 66 := by decide) (h2 : T ≠ 84 := by decide) (h3 : T ≠ 39 := by decide) : sro B w ⟨k, 0, none⟩ = some v :=
  sro_of (.inr ⟨_, _, _, h.1, h1, h2, h3, h.2⟩) (by simp [World.cell?, h.1])

/-- No old block is named; all that the machine never writes may be read. -/
noncomputable abbrev env0 (B : Bd) (w : World) : Env := env w [] (sro B w)

def ini (args : List SV) (orc : List Bool) (ext : List SV) : St := { tl := tlOf 0 args, bs := [], orc := orc, ext := ext }

theorem enter {B : Bd} {P : Program} {T : TypeId → Option TI} (hT : Tabs P T) {f : FuncId} {fn : Func} {vals : Array Value} {w : World} {R : Ending → World → Prop} (args : List SV) (orc : List Bool) (ext : List SV) (n : Nat)
    (hf : P.funcs[f]? = some fn) (hb : fn.body.isSome = true) (hle : Nat.ble args.length fn.ntmps = true) (hvals : vals = (args.map (SV.real (env0 B w).ρ)).toArray) {obs : List (Env → Prop)}
    (ho : (run T fn.ntmps n (code fn) (ini args orc ext)).2.ob = obs) (hobs : AllP obs (env0 B w))
    (h : ∀ a' w', CRel (env0 B w) fn.ntmps (run T fn.ntmps n (code fn) (ini args orc ext)).2 a' w' → Gets P f (run T fn.ntmps n (code fn) (ini args orc ext)).1 a' w' R) : Calls P f vals w R := by
  refine calls_exec args [] [] (sro B w) hf hb hle hvals (rel_nil w _ (fun _ _ h => (sro_le h).2)) (fun a hc => ?_)
  have hc' : CRel (env0 B w) fn.ntmps (ini args orc ext) a w := ⟨hc.tl, hc.size, hc.defers, hc.mem⟩
  exact gets_run hT n hc' (holds_of ho hobs) h

theorem MOk.old {B : Bd} {w w' : World} {b : Nat} {m : M} {bs : List NB} (hm : MOk B w b m) (hrel : Rel (env0 B w) bs w') : MOk B w' b m ∧ Evo w b w' := hm.new hrel

/-- Own work, then one call. -/
theorem does_tail {B : Bd} {b : Nat} {w : World} {m m' : M} {f : FuncId} {fn : Func} {vals : Array Value} (args : List SV) (orc : List Bool) (ext : List SV) (n : Nat) (bs : List NB) (c : CallX) {obs : List (Env → Prop)}
    (hm : MOk B w b m) (hf : Tryz.prog.funcs[f]? = some fn) (hb : fn.body.isSome = true) (hle : Nat.ble args.length fn.ntmps = true) (hvals : vals = (args.map (SV.real (env0 B w).ρ)).toArray)
    (ho : (run Tab fn.ntmps n (code fn) (ini args orc ext)).2.ob = obs) (hbs : (run Tab fn.ntmps n (code fn) (ini args orc ext)).2.bs = bs)
    (hx : callX (run Tab fn.ntmps n (code fn) (ini args orc ext)).1 (run Tab fn.ntmps n (code fn) (ini args orc ext)).2 = some c)
    (hk : isFin (ctl 30 (popX (run Tab fn.ntmps n (code fn) (ini args orc ext)).1)) = true) (hr : fn.results = #[]) (he : enters Tryz.prog c.fn = true)
    (hobs : AllP obs (env0 B w)) (hcall : ∀ w1, Rel (env0 B w) bs w1 → MOk B w1 b m → Keep B w w1 → Calls Tryz.prog c.fn (c.real (env0 B w).ρ) w1 (Does B b w1 m')) : Calls Tryz.prog f vals w (Does B b w m') := by
  refine enter tab_ok args orc ext n hf hb hle hvals ho hobs (fun a1 w1 hc1 => ?_)
  have hmem := hc1.mem
  rw [hbs] at hmem
  obtain ⟨hm1, he1⟩ := hm.old hmem
  exact gets_tail (fun w' => MOk B w' b m' ∧ Evo w1 b w') hc1 hx he (hcall w1 hmem hm1 (he1.keep hm)) hf hr hk (fun w' h => ⟨rfl, h.1, he1.trans h.2⟩)

/-- Own work, then the end. -/
theorem does_end {B : Bd} {b : Nat} {w : World} {m : M} {f : FuncId} {fn : Func} {vals : Array Value} (args : List SV) (orc : List Bool) (ext : List SV) (n : Nat) (bs : List NB) {obs : List (Env → Prop)}
    (hm : MOk B w b m) (hf : Tryz.prog.funcs[f]? = some fn) (hb : fn.body.isSome = true) (hle : Nat.ble args.length fn.ntmps = true) (hvals : vals = (args.map (SV.real (env0 B w).ρ)).toArray)
    (ho : (run Tab fn.ntmps n (code fn) (ini args orc ext)).2.ob = obs) (hbs : (run Tab fn.ntmps n (code fn) (ini args orc ext)).2.bs = bs)
    (hk : isFin (ctl 30 (run Tab fn.ntmps n (code fn) (ini args orc ext)).1) = true) (hr : fn.results = #[])
    (hobs : AllP obs (env0 B w)) : Calls Tryz.prog f vals w (Does B b w m) := by
  refine enter tab_ok args orc ext n hf hb hle hvals ho hobs (fun a1 w1 hc1 => ?_)
  have hmem := hc1.mem
  rw [hbs] at hmem
  obtain ⟨hm1, he1⟩ := hm.old hmem
  exact gets_end0 hc1.defers hf hr hk ⟨rfl, hm1, he1⟩

def drawOps : List Item → Array Oper
  | .code (.region _ ops true) :: _ => ops
  | _ => #[]
def drawTail : List Item → List Item
  | .code (.region _ _ true) :: k => k
  | k => k
def isDraw : List Item → Bool
  | .code (.region _ ops true) :: _ => Region.noSelect ops
  | _ => false

def allBut (n : Nat) : Array Bool := (Array.replicate (n + 1) true).setIfInBounds n false

/-- What stands behind the reads of a drawn region. -/
def drw (fn : Func) (args : List SV) (orc : List Bool) (ext : List SV) (n q : Nat) : Option (Array Bool × St) :=
  dtake Tab fn.ntmps (drawOps (run Tab fn.ntmps n (code fn) (ini args orc ext)).1) (List.range q) (Array.replicate (q + 1) false) (run Tab fn.ntmps n (code fn) (ini args orc ext)).2

/-- Own work, then a region that reads in a drawn order and calls at its end. -/
theorem does_draw {B : Bd} {b : Nat} {w : World} {m m' : M} {f : FuncId} {fn : Func} {vals : Array Value} (args : List SV) (orc : List Bool) (ext : List SV) (n q : Nat) (bs : List NB) (c : CallX) {obs : List (Env → Prop)}
    (hm : MOk B w b m) (hf : Tryz.prog.funcs[f]? = some fn) (hb : fn.body.isSome = true) (hle : Nat.ble args.length fn.ntmps = true) (hvals : vals = (args.map (SV.real (env0 B w).ρ)).toArray)
    (hd : isDraw (run Tab fn.ntmps n (code fn) (ini args orc ext)).1 = true) (hq : (drawOps (run Tab fn.ntmps n (code fn) (ini args orc ext)).1).size = q + 1)
    (hdt : (drw fn args orc ext n q).map (fun x => (x.1, x.2.ob)) = some (allBut q, obs)) (hrd : Region.ready .any (drawOps (run Tab fn.ntmps n (code fn) (ini args orc ext)).1) (allBut q) = [q])
    (hrd2 : Region.ready .any (drawOps (run Tab fn.ntmps n (code fn) (ini args orc ext)).1) ((allBut q).setIfInBounds q true) = [])
    (hbs : (run Tab fn.ntmps n (code fn) (ini args orc ext)).2.bs = bs) (hts : (bs.all fun b => b.ty != 66 && b.ty != 84 && b.ty != 39) = true)
    (hx : (drw fn args orc ext n q).bind (fun x => callX [.inRegion (drawOps (run Tab fn.ntmps n (code fn) (ini args orc ext)).1) [q]] x.2) = some c)
    (hk : isFin (ctl 30 (drawTail (run Tab fn.ntmps n (code fn) (ini args orc ext)).1)) = true) (hr : fn.results = #[]) (he : enters Tryz.prog c.fn = true)
    (hobs : AllP obs (env0 B w)) (hcall : ∀ w1, Rel (env0 B w) bs w1 → MOk B w1 b m → Keep B w w1 → Calls Tryz.prog c.fn (c.real (env0 B w).ρ) w1 (Does B b w1 m')) : Calls Tryz.prog f vals w (Does B b w m') := by
  obtain ⟨l, σ2, hdt', ho⟩ : ∃ l σ2, drw fn args orc ext n q = some (l, σ2) ∧ l = allBut q ∧ σ2.ob = obs := by
    cases h : drw fn args orc ext n q with
    | none => rw [h] at hdt; cases hdt
    | some x =>
      rw [h] at hdt
      simp only [Option.map_some, Option.some.injEq, Prod.mk.injEq] at hdt
      exact ⟨x.1, x.2, rfl, hdt⟩
  obtain ⟨rfl, ho⟩ := ho
  rw [hdt'] at hx
  simp only [Option.bind_some] at hx
  clear hdt
  unfold drw at hdt'
  generalize hrun : run Tab fn.ntmps n (code fn) (ini args orc ext) = kσ at *
  obtain ⟨k, σ1⟩ := kσ
  simp only at hd hq hdt' hrd hrd2 hbs hx hk
  have hob2 : σ2.holds (env0 B w) := holds_of ho hobs
  have hob1 : σ1.holds (env0 B w) := fun p hp => hob2 p (dtake_ob _ _ _ _ _ hdt' p hp)
  refine calls_exec args [] [] (sro B w) hf hb hle hvals (rel_nil w _ (fun _ _ h => (sro_le h).2)) (fun a hc => ?_)
  have hc' : CRel (env0 B w) fn.ntmps (ini args orc ext) a w := ⟨hc.tl, hc.size, hc.defers, hc.mem⟩
  refine gets_run tab_ok n hc' (by rw [hrun]; exact hob1) (fun a1 w1 hc1 => ?_)
  rw [hrun] at hc1 ⊢
  simp only at hc1 ⊢
  unfold isDraw at hd
  split at hd
  · rename_i id ops k'
    simp only [drawOps, drawTail] at hq hdt' hrd hrd2 hx hk
    have hmem : Rel (env0 B w) bs { w1 with drawn := w1.drawn + 1 } := by have := hc1.mem.drew (w1.drawn + 1); rwa [hbs] at this
    obtain ⟨hm1, he1⟩ := hm.old hmem
    refine gets_draw (S := Sees (env0 B w) bs) (by kernel_rfl) ?_
    have hsz : ops.size = 1 + (List.range q).length := by rw [hq]; simp [Nat.add_comm]
    rw [hsz]
    have hrep : 1 + (List.range q).length = q + 1 := by simp [Nat.add_comm]
    have hrep2 : Array.replicate (1 + (List.range q).length) false = Array.replicate (q + 1) false := congrArg (fun n => Array.replicate n false) hrep
    rw [hrep2]
    refine dgets_take tab_ok hd hmem.sees _ _ _ _ _ _ hdt' hbs hc1.tl hc1.size hob2 (fun a2 h2 h3 h4 => ?_)
    refine dgets_call h2 hrd hx he (hcall _ hmem hm1 (he1.keep hm)) (fun e w' hS => ⟨.tuple #[], hS.1, ?_, ?_⟩)
    · have hk2 := (he1.trans hS.2.2)
      refine ⟨fun i nb hi => ?_, fun ad v hv => sro_keep (hk2.keep hm) hv⟩
      have hb1 := hmem.cells i nb hi
      have hty := List.all_eq_true.1 hts nb (List.mem_of_getElem? hi)
      simp only [Bool.and_eq_true, bne_iff_ne] at hty
      exact (hS.2.2.keep hm1).cells hb1 hty.1.1 hty.1.2 hty.2 (hm.notx (Nat.le_add_right _ _))
    · refine dgets_done 0 hrd2 ?_
      refine gets_end0 (by rw [Act.put_defers', h4]; exact hc1.defers) hf hr hk ⟨rfl, hS.2.1, he1.trans hS.2.2⟩
  · cases hd

end Go.Proofs.YtoihipolfdhhnaaGreatDoor

namespace Go.Proofs.YtoihipolfdhhnaaGreatDoor

/-- What a step's closure does. -/
abbrev KCalls (B : Bd) (b : Nat) (w : World) (f : FuncId) (c : Array Value) (m m' : M) : Prop :=
  ∀ w', Keep B w w' → MOk B w' b m → Calls Tryz.prog f (#[bp b] ++ c) w' (Does B b w' m')

theorem RepF.enters {B : Bd} {w : World} {k : Fn} {f : FuncId} {c : Array Value} (h : RepF B w k f c) : enters Tryz.prog f = true := by
  cases k <;> (obtain ⟨rfl, _⟩ := h; kernel_rfl)
theorem RepR.enters {B : Bd} {w : World} {k : Rn} {f : FuncId} {c : Array Value} (h : RepR B w k f c) : enters Tryz.prog f = true := by
  cases k with
  | noop g => obtain ⟨rfl, h, _⟩ := h; rcases h with rfl | rfl | rfl | rfl | rfl <;> kernel_rfl
  | _ => obtain ⟨rfl, _⟩ := h; kernel_rfl
theorem RepE.enters {B : Bd} {w : World} {k : Ef} {f : FuncId} {c : Array Value} (h : RepE B w k f c) : enters Tryz.prog f = true := by
  cases k <;> (obtain ⟨rfl, _⟩ := h; kernel_rfl)
theorem RepD.enters {B : Bd} {w : World} {k : Dp} {f : FuncId} {c : Array Value} (h : RepD B w k f c) : enters Tryz.prog f = true := by
  cases k <;> (obtain ⟨rfl, _⟩ := h; kernel_rfl)
theorem RepB.enters {B : Bd} {w : World} {k : Bring} {f : FuncId} {c : Array Value} (h : RepB B w k f c) : enters Tryz.prog f = true := by
  cases k <;> (obtain ⟨rfl, _⟩ := h; kernel_rfl)

theorem MOk.le {B : Bd} {w : World} {b : Nat} {m : M} (h : MOk B w b m) : B ≤ w.heap.size := by
  obtain ⟨a, n, c, th, row, h⟩ := h
  have := h.base
  have := lt_of_block h.cells
  omega

/-- Say, of an empty text. -/
theorem say_empty {B : Bd} {w : World} {b : Nat} {m m' : M} (hm : MOk B w b m) (fd : Int) (f : FuncId) (c : Array Value) (he : enters Tryz.prog f = true) (ht : KCalls B b w f c m m') :
    Calls Tryz.prog 72 #[bp b, .int .i64 fd, .string ⟨#[]⟩, .func (.func f) #[] c] w (Does B b w m') := by
  refine does_tail [.e (.c (.rp ⟨b, 0, none⟩)), .e (.c (.int .i64 fd)), .e (.c (.str ⟨#[]⟩)), .e (.c (.fv f c))] [true] [] 40 [⟨3, [.int .i64 fd]⟩, ⟨9, [.str ⟨#[]⟩]⟩, ⟨67, [.fv f c]⟩]
    ⟨f, [.c (.rp ⟨b, 0, none⟩)], [], c⟩ (obs := [fun _ => ((⟨#[]⟩ : ByteArray).toList == []) = true]) hm Tryz.func72 rfl rfl rfl (by kernel_rfl) (by kernel_rfl) (by kernel_rfl) (by kernel_rfl) rfl he ⟨by rw [ByteArray.toList_eq]; rfl, trivial⟩ (fun w1 _ hm1 hk1 => ?_)
  have := ht w1 hk1 hm1
  simpa [CallX.real, E.real, C.real] using this

/-- Complain. -/
theorem complain_calls {B : Bd} {w : World} {b : Nat} {m : M} (hm : MOk B w b m) (text : ByteArray) (hs : m.prog.size + text.size + 3 ≤ 9223372036854775807) (t : Fn) (f : FuncId) (c : Array Value) (hk : RepF B w t f c) :
    Calls Tryz.prog 133 #[bp b, .string text, .func (.func f) #[] c] w (Does B b w (m.complain text t)) := by
  have hm0 := hm
  obtain ⟨a, n, cp, th, row, hm⟩ := hm
  refine calls_exec [.e (.c (.p 0 0)), .e (.c (.str text)), .e (.c (.fv f c))] [b] [⟨66, mcells m.prog m.status a n cp (thnC th) m.call m.over⟩] noRo Tryz.func133 rfl rfl rfl (hm.rel noRo (fun _ _ h => by cases h)) ?_
  intro a0 hc
  refine gets_run tab_ok 40 hc (holds_of (obs := [fun _ => ((m.prog.size + (⟨#[58, 32]⟩ : ByteArray).size : Nat) : Int) ≤ 9223372036854775807, fun _ => (((m.prog ++ ⟨#[58, 32]⟩).size + text.size : Nat) : Int) ≤ 9223372036854775807, fun _ => (((m.prog ++ ⟨#[58, 32]⟩ ++ text).size + (⟨#[10]⟩ : ByteArray).size : Nat) : Int) ≤ 9223372036854775807]) (by kernel_rfl) ?_) (fun a1 w1 hc1 => ?_)
  · have h1 : (⟨#[58, 32]⟩ : ByteArray).size = 2 := rfl
    have h2 : (⟨#[10]⟩ : ByteArray).size = 1 := rfl
    simp only [AllP, ByteArray.size_append, h1, h2, and_true]
    omega
  have hbs : (run Tab Tryz.f133.ntmps 40 (code Tryz.f133) { tl := tlOf 0 [.e (.c (.p 0 0)), .e (.c (.str text)), .e (.c (.fv f c))], bs := [⟨66, mcells m.prog m.status a n cp (thnC th) m.call m.over⟩] }).2.bs = [⟨66, mcells m.prog m.status a n cp (thnC th) m.call m.over⟩] := by kernel_rfl
  have hmem := hc1.mem
  rw [hbs] at hmem
  obtain ⟨hm1, he1⟩ := hm.after hmem rfl rfl (thn_keep hm.thn ((evo_of_rel hm hmem rfl).keep hm0))
  refine gets_tail (fun w' => MOk B w' b (m.complain text t) ∧ Evo w1 b w') (c := ⟨72, [.c (.p 0 0), .c (.int .i64 2), .c (.str (m.prog ++ ⟨#[58, 32]⟩ ++ text ++ ⟨#[10]⟩)), .c (.fv f c)], [], #[]⟩) hc1 (by kernel_rfl) (by kernel_rfl) ?_ Tryz.func133 rfl (by kernel_rfl) (fun w' h => ⟨rfl, h.1, he1.trans h.2⟩)
  refine say_calls hm1 2 _ ?_ t f c (hk.keep (he1.keep hm0))
  rw [ByteArray.toList_eq]
  simp

/-- Bad's end: a program that is called wrong. -/
theorem exit1_calls {B : Bd} {w : World} {b : Nat} {m : M} (hm : MOk B w b m) : Calls Tryz.prog 134 #[bp b] w (Does B b w (m.exit 1)) := by
  refine does_tail [.e (.c (.rp ⟨b, 0, none⟩))] [] [] 40 [] ⟨24, [.c (.rp ⟨b, 0, none⟩), .c (.int .i64 1)], [], #[]⟩ (obs := []) hm Tryz.func134 rfl rfl rfl (by kernel_rfl) (by kernel_rfl) (by kernel_rfl) (by kernel_rfl) rfl (by kernel_rfl) trivial (fun w1 _ hm1 _ => ?_)
  exact exit_calls hm1 1

theorem wrong_calls {B : Bd} {w : World} {b : Nat} {m : M} (hm : MOk B w b m) (hs : m.prog.size ≤ 1152921504606846976) : Calls Tryz.prog 84 #[bp b] w (Does B b w m.wrong) := by
  refine does_tail [.e (.c (.rp ⟨b, 0, none⟩))] [] [] 40 [] ⟨133, [.c (.rp ⟨b, 0, none⟩), .c (.str ⟨#[119, 114, 111, 110, 103]⟩), .c (.f 134 [])], [], #[]⟩ (obs := []) hm Tryz.func84 rfl rfl rfl (by kernel_rfl) (by kernel_rfl) (by kernel_rfl) (by kernel_rfl) rfl (by kernel_rfl) trivial (fun w1 _ hm1 _ => ?_)
  exact complain_calls hm1 _ (by have : (⟨#[119, 114, 111, 110, 103]⟩ : ByteArray).size = 5 := rfl; omega) .exit1 134 #[] ⟨rfl, rfl⟩

/-- Tries. -/
theorem tries_calls {B : Bd} {w : World} {b : Nat} {m : M} (hm : MOk B w b m) (cd : CallD) (p : ByteArray) (t : Rn) (f : FuncId) (c : Array Value) (hk : RepR B w t f c) :
    Calls Tryz.prog 80 #[bp b, .agg (plainR cd.cs), .string p, .func (.func f) #[] c] w (Does B b w (m.tries cd p t)) := by
  refine does_tail [.e (.c (.rp ⟨b, 0, none⟩)), .e (.a cd.cs), .e (.c (.str p)), .e (.c (.fv f c))] [] [] 40 [⟨39, cd.cs⟩, ⟨9, [.str p]⟩, ⟨64, [.fv f c]⟩]
    ⟨69, [.c (.rp ⟨b, 0, none⟩), .a cd.cs, .c (.f 130 [.n 1 0, .n 2 0])], [], #[]⟩ (obs := []) hm Tryz.func80 rfl rfl rfl (by kernel_rfl) (by kernel_rfl) (by kernel_rfl) (by kernel_rfl) rfl (by kernel_rfl) trivial (fun w1 hr1 hm1 hk1 => ?_)
  exact sys_calls hm1 cd (.tries p t) 130 _ ⟨rfl, w.heap.size + 1, w.heap.size + 2, f, c, rfl, box_of hm.xs hr1 (i := 1) rfl rfl rfl, box_of hm.xs hr1 (i := 2) rfl rfl rfl, hk.keep hk1⟩

/-- Pours. -/
theorem pours_calls {B : Bd} {w : World} {b : Nat} {m : M} (hm : MOk B w b m) (s d : Int) (t : Fn) (f : FuncId) (c : Array Value) (hk : RepF B w t f c) :
    Calls Tryz.prog 79 #[bp b, .int .i64 s, .int .i64 d, .func (.func f) #[] c] w (Does B b w (m.pours s d t)) := by
  refine does_tail [.e (.c (.rp ⟨b, 0, none⟩)), .e (.c (.int .i64 s)), .e (.c (.int .i64 d)), .e (.c (.fv f c))] [] [] 40 [⟨3, [.int .i64 s]⟩, ⟨3, [.int .i64 d]⟩, ⟨67, [.fv f c]⟩]
    ⟨69, [.c (.rp ⟨b, 0, none⟩), .a ({ op := 4, fd := s, n := 256 } : CallD).cs, .c (.f 128 [.n 2 0, .n 1 0, .n 0 0])], [], #[]⟩ (obs := []) hm Tryz.func79 rfl rfl rfl (by kernel_rfl) (by kernel_rfl) (by kernel_rfl) (by kernel_rfl) rfl (by kernel_rfl) trivial (fun w1 hr1 hm1 hk1 => ?_)
  exact sys_calls hm1 { op := 4, fd := s, n := 256 } (.pours s d t) 128 _ ⟨rfl, w.heap.size + 2, w.heap.size + 1, w.heap.size, f, c, rfl, box_of hm.xs hr1 (i := 2) rfl rfl rfl, hk.keep hk1, box_of hm.xs hr1 (i := 1) rfl rfl rfl, box_of hm.xs hr1 (i := 0) rfl rfl rfl⟩

theorem pours11_calls {B : Bd} {w : World} {b : Nat} {m : M} (hm : MOk B w b m) (s d : Int) (t : Fn) (f : FuncId) (c : Array Value) (hk : RepF B w (.pours s d t) f c) :
    Calls Tryz.prog f (#[bp b] ++ c) w (Does B b w (m.pours s d t)) := by
  obtain ⟨rfl, k1, k2, k3, tf, tc, rfl, h1, h2, h3, h4⟩ := hk
  refine does_tail [.e (.c (.rp ⟨b, 0, none⟩)), .e (.c (.rp ⟨k1, 0, none⟩)), .e (.c (.rp ⟨k2, 0, none⟩)), .e (.c (.rp ⟨k3, 0, none⟩))] [] [.e (.c (.int .i64 s)), .e (.c (.int .i64 d)), .e (.c (.fv tf tc))] 40 []
    ⟨79, [.c (.rp ⟨b, 0, none⟩), .c (.int .i64 s), .c (.int .i64 d), .c (.fv tf tc)], [], #[]⟩ (obs := [fun ε => ε.ro ⟨k1, 0, none⟩ = some (.int .i64 s), fun ε => ε.ro ⟨k2, 0, none⟩ = some (.int .i64 d), fun ε => ε.ro ⟨k3, 0, none⟩ = some (.func (.func tf) #[] tc)])
    hm Tryz.func129 rfl rfl rfl (by kernel_rfl) (by kernel_rfl) (by kernel_rfl) (by kernel_rfl) rfl (by kernel_rfl) ⟨Box.sro h1, Box.sro h2, Box.sro h3, trivial⟩ (fun w1 hr1 hm1 hk1 => ?_)
  exact pours_calls hm1 s d t tf tc (h4.keep hk1)

end Go.Proofs.YtoihipolfdhhnaaGreatDoor

namespace Go.Proofs.YtoihipolfdhhnaaGreatDoor

abbrev resV (r : Res) (a : Option Addr) (n c : Nat) : Value := .agg (plainR (r.cs a n c))
abbrev rsX (r : Res) (a : Option Addr) (n c : Nat) : SV := .e (.a (r.cs a n c))

/-- The text behind what is written. -/
def rest (s : ByteArray) (n : Int) : ByteArray := s.extract n.toNat s.size

def M.said (m : M) (fd : Int) (text : ByteArray) (t : Fn) (r : Res) (done : M) : M :=
  if r.err ≠ 0 ∨ r.n < 1 ∨ r.n ≥ text.size then done else m.say fd (rest text r.n) t

theorem said_calls {B : Bd} {w : World} {b : Nat} {m m' : M} (hm : MOk B w b m) (fd : Int) (text : ByteArray) (t : Fn) (f : FuncId) (c : Array Value) (hk : RepR B w (.say fd text t) f c)
    (r : Res) (a : Option Addr) (n cp : Nat) (ht : ∀ tf tc, RepF B w t tf tc → KCalls B b w tf tc m m') :
    Calls Tryz.prog f (#[bp b, resV r a n cp] ++ c) w (Does B b w (m.said fd text t r m')) := by
  obtain ⟨rfl, k1, k2, k3, tf, tc, rfl, h1, h2, h3, h4⟩ := hk
  have hdone : ∀ (orc : List Bool) (ext : List SV) (obs : List (Env → Prop)),
      (run Tab Tryz.f125.ntmps 60 (code Tryz.f125) (ini [.e (.c (.rp ⟨b, 0, none⟩)), rsX r a n cp, .e (.c (.rp ⟨k1, 0, none⟩)), .e (.c (.rp ⟨k2, 0, none⟩)), .e (.c (.rp ⟨k3, 0, none⟩))] orc ext)).2.ob = obs →
      (run Tab Tryz.f125.ntmps 60 (code Tryz.f125) (ini [.e (.c (.rp ⟨b, 0, none⟩)), rsX r a n cp, .e (.c (.rp ⟨k1, 0, none⟩)), .e (.c (.rp ⟨k2, 0, none⟩)), .e (.c (.rp ⟨k3, 0, none⟩))] orc ext)).2.bs = [⟨35, r.cs a n cp⟩] →
      callX (run Tab Tryz.f125.ntmps 60 (code Tryz.f125) (ini [.e (.c (.rp ⟨b, 0, none⟩)), rsX r a n cp, .e (.c (.rp ⟨k1, 0, none⟩)), .e (.c (.rp ⟨k2, 0, none⟩)), .e (.c (.rp ⟨k3, 0, none⟩))] orc ext)).1 (run Tab Tryz.f125.ntmps 60 (code Tryz.f125) (ini [.e (.c (.rp ⟨b, 0, none⟩)), rsX r a n cp, .e (.c (.rp ⟨k1, 0, none⟩)), .e (.c (.rp ⟨k2, 0, none⟩)), .e (.c (.rp ⟨k3, 0, none⟩))] orc ext)).2 = some ⟨tf, [.c (.rp ⟨b, 0, none⟩)], [], tc⟩ →
      isFin (ctl 30 (popX (run Tab Tryz.f125.ntmps 60 (code Tryz.f125) (ini [.e (.c (.rp ⟨b, 0, none⟩)), rsX r a n cp, .e (.c (.rp ⟨k1, 0, none⟩)), .e (.c (.rp ⟨k2, 0, none⟩)), .e (.c (.rp ⟨k3, 0, none⟩))] orc ext)).1)) = true →
      AllP obs (env0 B w) → Calls Tryz.prog 125 (#[bp b, resV r a n cp] ++ #[bp k1, bp k2, bp k3]) w (Does B b w m') := by
    intro orc ext obs e1 e2 e3 e4 e5
    refine does_tail _ orc ext 60 _ _ hm Tryz.func125 rfl rfl rfl e1 e2 e3 e4 rfl h3.enters e5 (fun w1 _ hm1 hk1 => ?_)
    have := ht tf tc h3 w1 hk1 hm1
    simpa [CallX.real, E.real, C.real] using this
  unfold M.said
  by_cases he : r.err = 0
  · by_cases hn : r.n < 1
    · rw [if_pos (by simp [hn])]
      refine hdone [false, true] [.e (.c (.fv tf tc))] [fun _ => (r.err != 0) = false, fun _ => decide (r.n < 1) = true, fun ε => ε.ro ⟨k2, 0, none⟩ = some (.func (.func tf) #[] tc)] (by kernel_rfl) (by kernel_rfl) (by kernel_rfl) (by kernel_rfl) ⟨by simp [he], by simp [hn], Box.sro h2, trivial⟩
    · by_cases hl : r.n ≥ text.size
      · rw [if_pos (by simp [hl])]
        refine hdone [false, false, true] [.e (.c (.str text)), .e (.c (.fv tf tc))] [fun _ => (r.err != 0) = false, fun _ => decide (r.n < 1) = false, fun ε => ε.ro ⟨k1, 0, none⟩ = some (.string text), fun _ => decide (r.n ≥ text.size) = true, fun ε => ε.ro ⟨k2, 0, none⟩ = some (.func (.func tf) #[] tc)] (by kernel_rfl) (by kernel_rfl) (by kernel_rfl) (by kernel_rfl) ⟨by simp [he], by simp [hn], Box.sro h1, by simp [hl], Box.sro h2, trivial⟩
      · rw [if_neg (by simp [he, hn, hl])]
        have hn1 : 1 ≤ r.n := by omega
        have hl1 : r.n < text.size := by omega
        refine does_draw [.e (.c (.rp ⟨b, 0, none⟩)), rsX r a n cp, .e (.c (.rp ⟨k1, 0, none⟩)), .e (.c (.rp ⟨k2, 0, none⟩)), .e (.c (.rp ⟨k3, 0, none⟩))] [false, false, false] [.e (.c (.str text)), .e (.c (.int .i64 fd)), .e (.c (.str text)), .e (.c (.fv tf tc))] 60 7 [⟨35, r.cs a n cp⟩]
          ⟨72, [.c (.rp ⟨b, 0, none⟩), .c (.int .i64 fd), .c (.str (rest text r.n)), .c (.fv tf tc)], [], #[]⟩
          (obs := [fun _ => (r.err != 0) = false, fun _ => decide (r.n < 1) = false, fun ε => ε.ro ⟨k1, 0, none⟩ = some (.string text), fun _ => decide (r.n ≥ text.size) = false, fun ε => ε.ro ⟨k3, 0, none⟩ = some (.int .i64 fd), fun ε => ε.ro ⟨k1, 0, none⟩ = some (.string text), fun _ => True ∧ 0 ≤ r.n ∧ r.n ≤ (text.size : Int), fun ε => ε.ro ⟨k2, 0, none⟩ = some (.func (.func tf) #[] tc)])
          hm Tryz.func125 rfl rfl rfl (by kernel_rfl) (by kernel_rfl) (by kernel_rfl) (by kernel_rfl) (by kernel_rfl) (by kernel_rfl) rfl (by kernel_rfl) (by kernel_rfl) rfl (by kernel_rfl) ⟨by simp [he], by simp [hn], Box.sro h1, by simp [hl], Box.sro h4, Box.sro h1, ⟨trivial, by omega, by omega⟩, Box.sro h2, trivial⟩ (fun w1 hr1 hm1 hk1 => ?_)
        refine say_calls hm1 fd _ ?_ t tf tc (h3.keep hk1)
        rw [ByteArray.toList_eq]
        have hs : (rest text r.n).size = text.size - r.n.toNat := by simp [rest, ByteArray.size_extract]
        cases hx : (rest text r.n).data.toList with
        | nil =>
          have : (rest text r.n).size = 0 := by rw [← ByteArray.size_data, ← Array.length_toList, hx]; rfl
          omega
        | cons _ _ => rfl
  · rw [if_pos (by simp [he])]
    exact hdone [true] [.e (.c (.fv tf tc))] [fun _ => (r.err != 0) = true, fun ε => ε.ro ⟨k2, 0, none⟩ = some (.func (.func tf) #[] tc)] (by kernel_rfl) (by kernel_rfl) (by kernel_rfl) (by kernel_rfl) ⟨by simp [he], Box.sro h2, trivial⟩

end Go.Proofs.YtoihipolfdhhnaaGreatDoor
