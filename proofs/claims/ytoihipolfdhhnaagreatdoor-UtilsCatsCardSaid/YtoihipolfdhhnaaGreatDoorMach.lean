/-
  How the machine of the model's data lies in the memory: closures, calls, answers, the row of what is to be done; and that this stays where nothing safe is touched.
-/
import Derived.Test.YtoihipolfdhhnaaGreatDoorModel
import Derived.Test.YtoihipolfdhhnaaGreatDoorSxDraw
import Derived.Test.YtoihipolfdhhnaaGreatDoorTab
import Derived.Laws.AppendOwn
import Derived.Maps.AppendAt
import Derived.Lib.LaidTab
import Derived.Lib.ItoaNum
namespace Go.Proofs.YtoihipolfdhhnaaGreatDoor

def CallD.cs (c : CallD) : List C := [.int .i64 c.op, .str c.path, .str c.as_, .str c.text, .int .i64 c.fd, .int .i64 c.to_, .int .i64 c.n, .int .i64 c.mode, .int .i64 c.owner, .int .i64 c.group, .int .i64 c.want, .bool c.make, .bool c.alone, .bool c.empty, .bool c.atEnd, .int .i64 c.hmode, .bool c.line, .bool c.dir, .sl none 0 0, .sl none 0 0]

def InfoD.cs (c : InfoD) : List C := [.int .i64 c.ino, .int .i64 c.kind, .int .i64 c.mode, .int .i64 c.owner, .int .i64 c.group, .int .i64 c.links, .int .i64 c.size, .int .i64 c.tty]
def CredD.cs (c : CredD) : List C := [.int .i64 c.real_, .int .i64 c.eff, .int .i64 c.saved, .int .i64 c.group, .int .i64 c.effGroup]

/-- An answer's cells; its names are the slice a n c. -/
def Res.cs (r : Res) (a : Option Addr) (n c : Nat) : List C :=
  [.int .i64 r.err, .int .i64 r.n, .int .i64 r.m, .str r.text, .sl a n c, .int .i64 r.info.ino, .int .i64 r.info.kind, .int .i64 r.info.mode, .int .i64 r.info.owner, .int .i64 r.info.group, .int .i64 r.info.links, .int .i64 r.info.size, .int .i64 r.info.tty, .int .i64 r.may, .int .i64 r.cred.real_, .int .i64 r.cred.eff, .int .i64 r.cred.saved, .int .i64 r.cred.group, .int .i64 r.cred.effGroup]

/-- The real cells of a list without names. -/
def plainR (l : List C) : Array Value := (l.map (C.real fun _ => 0)).toArray

/-- The real blocks of boxes: number k holds one cell. -/
def Box (w : World) (k : Nat) (T : TypeId) (v : Value) : Prop := w.heap[k]? = some (.cells #[v] T (0, 0))

/-- A bound, and blocks of answers that somebody else writes. -/
structure Bd where
  n : Nat
  x : List Nat

instance : Coe Bd Nat := ⟨Bd.n⟩

/-- A block that the machine never writes: older than B, or neither a machine nor a row of steps nor a call nor an answer of somebody else's. -/
def Safe (B : Bd) (w : World) (k : Nat) : Prop := k < B ∨ ∃ c T fr, w.heap[k]? = some (.cells c T fr) ∧ T ≠ 66 ∧ T ≠ 84 ∧ T ≠ 39 ∧ (T = 35 → k ∉ B.x)

structure Keep (B : Bd) (w w' : World) : Prop where
  os : w'.os = w.os
  tape : w'.tape = w.tape
  output : w'.output = w.output
  size : w.heap.size ≤ w'.heap.size
  block : ∀ k, k < w.heap.size → Safe B w k → w'.heap[k]? = w.heap[k]?

theorem Keep.refl (B : Bd) (w : World) : Keep B w w := ⟨rfl, rfl, rfl, Nat.le_refl _, fun _ _ _ => rfl⟩

theorem Safe.keep {B : Bd} {w w' : World} {k : Nat} (h : Safe B w k) (hk : k < w.heap.size) (hw : Keep B w w') : Safe B w' k := by
  rcases h with h | ⟨c, T, fr, h1, h2⟩
  · exact .inl h
  · exact .inr ⟨c, T, fr, by rw [hw.block k hk (.inr ⟨c, T, fr, h1, h2⟩)]; exact h1, h2⟩

theorem Keep.trans {B : Bd} {a b c : World} (h : Keep B a b) (k : Keep B b c) : Keep B a c :=
  ⟨k.os.trans h.os, k.tape.trans h.tape, k.output.trans h.output, Nat.le_trans h.size k.size, fun i hi hs =>
    (k.block i (Nat.lt_of_lt_of_le hi h.size) (hs.keep hi h)).trans (h.block i hi hs)⟩

theorem lt_of_block {w : World} {k : Nat} {o : Obj} (h : w.heap[k]? = some o) : k < w.heap.size := (Array.getElem?_eq_some_iff.1 h).1

theorem Keep.cells {B : Bd} {w w' : World} (h : Keep B w w') {k : Nat} {c : Array Value} {T : TypeId} {fr : Nat × Nat} (hk : w.heap[k]? = some (.cells c T fr)) (h1 : T ≠ 66) (h2 : T ≠ 84) (h3 : T ≠ 39) (h4 : T = 35 → k ∉ B.x) :
    w'.heap[k]? = some (.cells c T fr) := by
  rw [h.block k (lt_of_block hk) (.inr ⟨c, T, fr, hk, h1, h2, h3, h4⟩)]; exact hk

theorem Box.keep {B : Bd} {w w' : World} {k : Nat} {T : TypeId} {v : Value} (h : Box w k T v) (hw : Keep B w w') (h1 : T ≠ 66 := by decide) (h2 : T ≠ 84 := by decide) (h3 : T ≠ 39 := by decide) (h4 : T ≠ 35 := by decide) : Box w' k T v := hw.cells h h1 h2 h3 (fun e => absurd e h4)

/-- A slice of texts. -/
structure StrsAt (B : Bd) (w : World) (a : Option Addr) (n c : Nat) (l : List ByteArray) : Prop where
  len : n = l.length
  cap : n ≤ c
  at_ : ∀ j s, l[j]? = some s → ∃ ad, a = some ad ∧ w.cell? (ad.add j) = some (.string s) ∧ Safe B w ad.block

theorem addr_add_block (a : Addr) (n : Nat) : (a.add n).block = a.block := by unfold Addr.add; split <;> rfl

theorem addr_add_add (a : Addr) (m n : Nat) (h : m ≠ 0 ∨ n = 0) : (a.add m).add n = a.add (m + n) := by
  unfold Addr.add
  by_cases hm : m = 0 <;> by_cases hn : n = 0 <;> simp_all [Nat.add_assoc]

theorem StrsAt.keep {B : Bd} {w w' : World} {a : Option Addr} {n c : Nat} {l : List ByteArray} (h : StrsAt B w a n c l) (hw : Keep B w w') : StrsAt B w' a n c l :=
  ⟨h.len, h.cap, fun j s hj => by
    obtain ⟨ad, h1, h2, h3⟩ := h.at_ j s hj
    have hlt := World.block_lt_of_cell? w _ h2
    rw [addr_add_block] at hlt
    refine ⟨ad, h1, ?_, h3.keep hlt hw⟩
    have := hw.block ad.block hlt h3
    have e : w'.cell? (ad.add j) = w.cell? (ad.add j) := World.cell?_of_block (by rw [addr_add_block]; exact this)
    rw [e]; exact h2⟩

/-- A slice of numbers. -/
structure IntsAt (B : Bd) (w : World) (a : Option Addr) (n c : Nat) (l : List Int) : Prop where
  len : n = l.length
  cap : n ≤ c
  at_ : ∀ j s, l[j]? = some s → ∃ ad, a = some ad ∧ w.cell? (ad.add j) = some (.int .i64 s) ∧ Safe B w ad.block

theorem IntsAt.keep {B : Bd} {w w' : World} {a : Option Addr} {n c : Nat} {l : List Int} (h : IntsAt B w a n c l) (hw : Keep B w w') : IntsAt B w' a n c l :=
  ⟨h.len, h.cap, fun j s hj => by
    obtain ⟨ad, h1, h2, h3⟩ := h.at_ j s hj
    have hlt := World.block_lt_of_cell? w _ h2
    rw [addr_add_block] at hlt
    refine ⟨ad, h1, ?_, h3.keep hlt hw⟩
    have := hw.block ad.block hlt h3
    have e : w'.cell? (ad.add j) = w.cell? (ad.add j) := World.cell?_of_block (by rw [addr_add_block]; exact this)
    rw [e]; exact h2⟩

/-- A pointer to a box. -/
abbrev bp (k : Nat) : Value := .pointer (some ⟨k, 0, none⟩)

def StrBox (w : World) (k : Nat) (s : ByteArray) : Prop := Box w k 9 (.string s)
def IntBox (w : World) (k : Nat) (n : Int) : Prop := Box w k 3 (.int .i64 n)
def BoolBox (w : World) (k : Nat) (b : Bool) : Prop := Box w k 4 (.bool b)
def StrsBox (B : Bd) (w : World) (k : Nat) (l : List ByteArray) : Prop := ∃ a n c, Box w k 22 (.slice a n c) ∧ StrsAt B w a n c l
def IntsBox (B : Bd) (w : World) (k : Nat) (l : List Int) : Prop := ∃ a n c, Box w k 47 (.slice a n c) ∧ IntsAt B w a n c l
/-- A block that holds an answer. -/
def ResBox (B : Bd) (w : World) (k : Nat) (r : Res) : Prop := ∃ a n c, w.heap[k]? = some (.cells (plainR (r.cs a n c)) 35 (0, 0)) ∧ StrsAt B w a n c r.names ∧ k ∉ B.x

theorem StrsBox.keep {B : Bd} {w w' : World} {k : Nat} {l : List ByteArray} (h : StrsBox B w k l) (hw : Keep B w w') : StrsBox B w' k l :=
  let ⟨a, n, c, h1, h2⟩ := h; ⟨a, n, c, h1.keep hw, h2.keep hw⟩
theorem IntsBox.keep {B : Bd} {w w' : World} {k : Nat} {l : List Int} (h : IntsBox B w k l) (hw : Keep B w w') : IntsBox B w' k l :=
  let ⟨a, n, c, h1, h2⟩ := h; ⟨a, n, c, h1.keep hw, h2.keep hw⟩
theorem ResBox.keep {B : Bd} {w w' : World} {k : Nat} {r : Res} (h : ResBox B w k r) (hw : Keep B w w') : ResBox B w' k r :=
  let ⟨a, n, c, h1, h2, h3⟩ := h; ⟨a, n, c, hw.cells h1 (by decide) (by decide) (by decide) (fun _ => h3), h2.keep hw, h3⟩

/- CLOSURES -/

def RepB (w : World) : Bring → FuncId → Array Value → Prop
  | .ren op, f, c => f = 96 ∧ ∃ k, c = #[bp k] ∧ IntBox w k op
  | .cop, f, c => f = 49 ∧ c = #[]

def RepE (B : Bd) (w : World) : Ef → FuncId → Array Value → Prop
  | .cat, f, c => f = 78 ∧ c = #[]
  | .mk, f, c => f = 85 ∧ ∃ k, c = #[bp k] ∧ Box w k 79 (.func (.func 44) #[] #[])
  | .rmd, f, c => f = 85 ∧ ∃ k, c = #[bp k] ∧ Box w k 79 (.func (.func 45) #[] #[])
  | .rm has, f, c => f = 89 ∧ ∃ k, c = #[bp k] ∧ StrBox w k has
  | .gone p has deep, f, c => f = 143 ∧ ∃ k1 k2 k3, c = #[bp k1, bp k2, bp k3] ∧ StrBox w k1 p ∧ StrBox w k2 has ∧ IntBox w k3 deep
  | .place pl dir br, f, c => f = 93 ∧ ∃ k1 k2 k3 bf bc, c = #[bp k1, bp k2, bp k3] ∧ StrBox w k1 pl ∧ BoolBox w k2 dir ∧ Box w k3 81 (.func (.func bf) #[] bc) ∧ RepB w br bf bc
  | .chmod l, f, c => f = 102 ∧ ∃ k, c = #[bp k] ∧ StrsBox B w k l
  | .chown g both o, f, c => f = 108 ∧ ∃ k1 k2 k3, c = #[bp k1, bp k2, bp k3] ∧ IntBox w k1 g ∧ BoolBox w k2 both ∧ IntBox w k3 o
  | .ls long l has, f, c => f = 111 ∧ ∃ k1 k2 k3, c = #[bp k1, bp k2, bp k3] ∧ BoolBox w k1 long ∧ StrsBox B w k2 l ∧ StrBox w k3 has
  | .entry all long dir, f, c => f = 155 ∧ ∃ k1 k2 k3, c = #[bp k1, bp k2, bp k3] ∧ BoolBox w k1 all ∧ BoolBox w k2 long ∧ StrBox w k3 dir

def RepD (w : World) : Dp → FuncId → Array Value → Prop
  | .tru, f, c => f = 38 ∧ c = #[]
  | .fls, f, c => f = 39 ∧ c = #[]
  | .id, f, c => f = 40 ∧ c = #[]
  | .who, f, c => f = 41 ∧ c = #[]
  | .cat, f, c => f = 42 ∧ c = #[]
  | .mkdir, f, c => f = 83 ∧ ∃ k, c = #[bp k] ∧ Box w k 79 (.func (.func 44) #[] #[])
  | .rmdir, f, c => f = 83 ∧ ∃ k, c = #[bp k] ∧ Box w k 79 (.func (.func 45) #[] #[])
  | .rm, f, c => f = 46 ∧ c = #[]
  | .ln, f, c => f = 91 ∧ ∃ k bf bc, c = #[bp k] ∧ Box w k 81 (.func (.func bf) #[] bc) ∧ RepB w (.ren 12) bf bc
  | .mv, f, c => f = 91 ∧ ∃ k bf bc, c = #[bp k] ∧ Box w k 81 (.func (.func bf) #[] bc) ∧ RepB w (.ren 13) bf bc
  | .cp, f, c => f = 91 ∧ ∃ k bf bc, c = #[bp k] ∧ Box w k 81 (.func (.func bf) #[] bc) ∧ RepB w .cop bf bc
  | .chmod, f, c => f = 50 ∧ c = #[]
  | .chown, f, c => f = 51 ∧ c = #[]
  | .ls, f, c => f = 52 ∧ c = #[]

def RepF (B : Bd) (w : World) : Fn → FuncId → Array Value → Prop
  | .exit0, f, c => f = 23 ∧ c = #[]
  | .start d ws, f, c => f = 21 ∧ ∃ k1 k2 df dc, c = #[bp k1, bp k2] ∧ Box w k1 55 (.func (.func df) #[] dc) ∧ RepD w d df dc ∧ StrsBox B w k2 ws
  | .none, f, c => f = 73 ∧ c = #[]
  | .exit1, f, c => f = 134 ∧ c = #[]
  | .each l e, f, c => f = 127 ∧ ∃ k1 k2 ef ec, c = #[bp k1, bp k2] ∧ StrsBox B w k1 l ∧ Box w k2 117 (.func (.func ef) #[] ec) ∧ RepE B w e ef ec
  | .pours s d t, f, c => f = 129 ∧ ∃ k1 k2 k3 tf tc, c = #[bp k1, bp k2, bp k3] ∧ IntBox w k1 s ∧ IntBox w k2 d ∧ Box w k3 67 (.func (.func tf) #[] tc) ∧ RepF B w t tf tc
  | .closes fds, f, c => f = 131 ∧ ∃ k, c = #[bp k] ∧ IntsBox B w k fds
  | .goneD p, f, c => f = 141 ∧ ∃ k, c = #[bp k] ∧ StrBox w k p
  | .entries d names has, f, c => f = 115 ∧ ∃ k1 k2 k3 r, c = #[bp k1, bp k2, bp k3] ∧ StrBox w k1 d ∧ ResBox B w k2 r ∧ r.names = names ∧ StrBox w k3 has

def RepR (B : Bd) (w : World) : Rn → FuncId → Array Value → Prop
  | .say fd text t, f, c => f = 125 ∧ ∃ k1 k2 k3 tf tc, c = #[bp k1, bp k2, bp k3] ∧ StrBox w k1 text ∧ Box w k2 67 (.func (.func tf) #[] tc) ∧ RepF B w t tf tc ∧ IntBox w k3 fd
  | .tries p t, f, c => f = 130 ∧ ∃ k1 k2 tf tc, c = #[bp k1, bp k2] ∧ StrBox w k1 p ∧ Box w k2 64 (.func (.func tf) #[] tc) ∧ RepR B w t tf tc
  | .id, f, c => f = 70 ∧ c = #[]
  | .who, f, c => f = 74 ∧ c = #[]
  | .pours s d t, f, c => f = 128 ∧ ∃ k1 k2 k3 tf tc, c = #[bp k1, bp k2, bp k3] ∧ Box w k1 67 (.func (.func tf) #[] tc) ∧ RepF B w t tf tc ∧ IntBox w k2 d ∧ IntBox w k3 s
  | .closes fds, f, c => f = 132 ∧ ∃ k, c = #[bp k] ∧ IntsBox B w k fds
  | .cat, f, c => f = 81 ∧ c = #[]
  | .noop g, f, c => f = g ∧ (g = 86 ∨ g = 97 ∨ g = 105 ∨ g = 110 ∨ g = 142) ∧ c = #[]
  | .gone p has deep, f, c => f = 139 ∧ ∃ k1 k2 k3, c = #[bp k1, bp k2, bp k3] ∧ StrBox w k1 has ∧ StrBox w k2 p ∧ IntBox w k3 deep
  | .goneL p has deep, f, c => f = 140 ∧ ∃ k1 k2 k3, c = #[bp k1, bp k2, bp k3] ∧ StrBox w k1 p ∧ StrBox w k2 has ∧ IntBox w k3 deep
  | .places l last pl br, f, c => f = 92 ∧ ∃ k1 k2 k3 k4 bf bc, c = #[bp k1, bp k2, bp k3, bp k4] ∧ IntBox w k1 last ∧ StrsBox B w k2 l ∧ StrBox w k3 pl ∧ Box w k4 81 (.func (.func bf) #[] bc) ∧ RepB w br bf bc
  | .copies1 src dst, f, c => f = 98 ∧ ∃ k1 k2, c = #[bp k1, bp k2] ∧ StrBox w k1 src ∧ StrBox w k2 dst
  | .copies2 dst mode, f, c => f = 100 ∧ ∃ k1 k2, c = #[bp k1, bp k2] ∧ StrBox w k1 dst ∧ w.heap[k2]? = some (.cells (plainR [.int .i64 2, .bool true, .bool false, .bool true, .bool false, .int .i64 mode]) 37 (0, 0))
  | .copies3 dst r, f, c => f = 101 ∧ ∃ k1 k2, c = #[bp k1, bp k2] ∧ ResBox B w k1 r ∧ StrBox w k2 dst
  | .chmod l v, f, c => f = 103 ∧ ∃ k1 k2, c = #[bp k1, bp k2] ∧ StrsBox B w k1 l ∧ StrBox w k2 v
  | .chown g both o v, f, c => f = 109 ∧ ∃ k1 k2 k3 k4, c = #[bp k1, bp k2, bp k3, bp k4] ∧ IntBox w k1 g ∧ BoolBox w k2 both ∧ StrBox w k3 v ∧ IntBox w k4 o
  | .ls1 v long l has, f, c => f = 112 ∧ ∃ k1 k2 k3 k4, c = #[bp k1, bp k2, bp k3, bp k4] ∧ StrBox w k1 v ∧ BoolBox w k2 long ∧ StrsBox B w k3 l ∧ StrBox w k4 has
  | .ls2 l v has, f, c => f = 114 ∧ ∃ k1 k2 k3, c = #[bp k1, bp k2, bp k3] ∧ StrsBox B w k1 l ∧ StrBox w k2 v ∧ StrBox w k3 has
  | .entry n, f, c => f = 156 ∧ ∃ k, c = #[bp k] ∧ StrBox w k n

theorem RepB.keep {B : Bd} {w w' : World} (hw : Keep B w w') {x : Bring} {f : FuncId} {c : Array Value} (h : RepB w x f c) : RepB w' x f c := by
  cases x with
  | ren op => obtain ⟨h1, k, h2, h3⟩ := h; exact ⟨h1, k, h2, h3.keep hw⟩
  | cop => exact h

theorem RepE.keep {B : Bd} {w w' : World} (hw : Keep B w w') {x : Ef} {f : FuncId} {c : Array Value} (h : RepE B w x f c) : RepE B w' x f c := by
  cases x with
  | cat => exact h
  | mk => obtain ⟨h1, k, h2, h3⟩ := h; exact ⟨h1, k, h2, h3.keep hw⟩
  | rmd => obtain ⟨h1, k, h2, h3⟩ := h; exact ⟨h1, k, h2, h3.keep hw⟩
  | rm has => obtain ⟨h1, k, h2, h3⟩ := h; exact ⟨h1, k, h2, Box.keep h3 hw⟩
  | gone p has deep => obtain ⟨h1, k1, k2, k3, h2, h3, h4, h5⟩ := h; exact ⟨h1, k1, k2, k3, h2, Box.keep h3 hw, Box.keep h4 hw, Box.keep h5 hw⟩
  | place pl dir br => obtain ⟨h1, k1, k2, k3, bf, bc, h2, h3, h4, h5, h6⟩ := h; exact ⟨h1, k1, k2, k3, bf, bc, h2, Box.keep h3 hw, Box.keep h4 hw, Box.keep h5 hw, h6.keep hw⟩
  | chmod l => obtain ⟨h1, k, h2, h3⟩ := h; exact ⟨h1, k, h2, h3.keep hw⟩
  | chown g both o => obtain ⟨h1, k1, k2, k3, h2, h3, h4, h5⟩ := h; exact ⟨h1, k1, k2, k3, h2, Box.keep h3 hw, Box.keep h4 hw, Box.keep h5 hw⟩
  | ls long l has => obtain ⟨h1, k1, k2, k3, h2, h3, h4, h5⟩ := h; exact ⟨h1, k1, k2, k3, h2, Box.keep h3 hw, h4.keep hw, Box.keep h5 hw⟩
  | entry all long dir => obtain ⟨h1, k1, k2, k3, h2, h3, h4, h5⟩ := h; exact ⟨h1, k1, k2, k3, h2, Box.keep h3 hw, Box.keep h4 hw, Box.keep h5 hw⟩

theorem RepD.keep {B : Bd} {w w' : World} (hw : Keep B w w') {x : Dp} {f : FuncId} {c : Array Value} (h : RepD w x f c) : RepD w' x f c := by
  cases x <;> first
    | exact h
    | (obtain ⟨h1, k, h2, h3⟩ := h; exact ⟨h1, k, h2, Box.keep h3 hw⟩)
    | (obtain ⟨h1, k, bf, bc, h2, h3, h4⟩ := h; exact ⟨h1, k, bf, bc, h2, Box.keep h3 hw, RepB.keep hw h4⟩)

theorem RepF.keep {B : Bd} {w w' : World} (hw : Keep B w w') {x : Fn} : ∀ {f : FuncId} {c : Array Value}, RepF B w x f c → RepF B w' x f c := by
  induction x with
  | exit0 => exact fun h => h
  | start d ws => intro f c h; obtain ⟨h1, k1, k2, df, dc, h2, h3, h4, h5⟩ := h; exact ⟨h1, k1, k2, df, dc, h2, Box.keep h3 hw, RepD.keep hw h4, h5.keep hw⟩
  | none => exact fun h => h
  | exit1 => exact fun h => h
  | each l e => intro f c h; obtain ⟨h1, k1, k2, ef, ec, h2, h3, h4, h5⟩ := h; exact ⟨h1, k1, k2, ef, ec, h2, h3.keep hw, Box.keep h4 hw, RepE.keep hw h5⟩
  | pours s d t ih => intro f c h; obtain ⟨h1, k1, k2, k3, tf, tc, h2, h3, h4, h5, h6⟩ := h; exact ⟨h1, k1, k2, k3, tf, tc, h2, Box.keep h3 hw, Box.keep h4 hw, Box.keep h5 hw, ih h6⟩
  | closes fds => intro f c h; obtain ⟨h1, k, h2, h3⟩ := h; exact ⟨h1, k, h2, h3.keep hw⟩
  | goneD p => intro f c h; obtain ⟨h1, k, h2, h3⟩ := h; exact ⟨h1, k, h2, Box.keep h3 hw⟩
  | entries d names has => intro f c h; obtain ⟨h1, k1, k2, k3, r, h2, h3, h4, h5, h6⟩ := h; exact ⟨h1, k1, k2, k3, r, h2, Box.keep h3 hw, h4.keep hw, h5, Box.keep h6 hw⟩

theorem RepR.keep {B : Bd} {w w' : World} (hw : Keep B w w') {x : Rn} : ∀ {f : FuncId} {c : Array Value}, RepR B w x f c → RepR B w' x f c := by
  induction x with
  | say fd text t => intro f c h; obtain ⟨h1, k1, k2, k3, tf, tc, h2, h3, h4, h5, h6⟩ := h; exact ⟨h1, k1, k2, k3, tf, tc, h2, Box.keep h3 hw, Box.keep h4 hw, h5.keep hw, Box.keep h6 hw⟩
  | tries p t ih => intro f c h; obtain ⟨h1, k1, k2, tf, tc, h2, h3, h4, h5⟩ := h; exact ⟨h1, k1, k2, tf, tc, h2, Box.keep h3 hw, Box.keep h4 hw, ih h5⟩
  | id => exact fun h => h
  | who => exact fun h => h
  | pours s d t => intro f c h; obtain ⟨h1, k1, k2, k3, tf, tc, h2, h3, h4, h5, h6⟩ := h; exact ⟨h1, k1, k2, k3, tf, tc, h2, Box.keep h3 hw, h4.keep hw, Box.keep h5 hw, Box.keep h6 hw⟩
  | closes fds => intro f c h; obtain ⟨h1, k, h2, h3⟩ := h; exact ⟨h1, k, h2, h3.keep hw⟩
  | cat => exact fun h => h
  | noop g => exact fun h => h
  | gone p has deep => intro f c h; obtain ⟨h1, k1, k2, k3, h2, h3, h4, h5⟩ := h; exact ⟨h1, k1, k2, k3, h2, Box.keep h3 hw, Box.keep h4 hw, Box.keep h5 hw⟩
  | goneL p has deep => intro f c h; obtain ⟨h1, k1, k2, k3, h2, h3, h4, h5⟩ := h; exact ⟨h1, k1, k2, k3, h2, Box.keep h3 hw, Box.keep h4 hw, Box.keep h5 hw⟩
  | places l last pl br => intro f c h; obtain ⟨h1, k1, k2, k3, k4, bf, bc, h2, h3, h4, h5, h6, h7⟩ := h; exact ⟨h1, k1, k2, k3, k4, bf, bc, h2, Box.keep h3 hw, h4.keep hw, Box.keep h5 hw, Box.keep h6 hw, h7.keep hw⟩
  | copies1 src dst => intro f c h; obtain ⟨h1, k1, k2, h2, h3, h4⟩ := h; exact ⟨h1, k1, k2, h2, Box.keep h3 hw, Box.keep h4 hw⟩
  | copies2 dst mode => intro f c h; obtain ⟨h1, k1, k2, h2, h3, h4⟩ := h; exact ⟨h1, k1, k2, h2, Box.keep h3 hw, hw.cells h4 (by decide) (by decide) (by decide) (fun e => absurd e (by decide))⟩
  | copies3 dst r => intro f c h; obtain ⟨h1, k1, k2, h2, h3, h4⟩ := h; exact ⟨h1, k1, k2, h2, h3.keep hw, Box.keep h4 hw⟩
  | chmod l v => intro f c h; obtain ⟨h1, k1, k2, h2, h3, h4⟩ := h; exact ⟨h1, k1, k2, h2, h3.keep hw, Box.keep h4 hw⟩
  | chown g both o v => intro f c h; obtain ⟨h1, k1, k2, k3, k4, h2, h3, h4, h5, h6⟩ := h; exact ⟨h1, k1, k2, k3, k4, h2, Box.keep h3 hw, Box.keep h4 hw, Box.keep h5 hw, Box.keep h6 hw⟩
  | ls1 v long l has => intro f c h; obtain ⟨h1, k1, k2, k3, k4, h2, h3, h4, h5, h6⟩ := h; exact ⟨h1, k1, k2, k3, k4, h2, Box.keep h3 hw, Box.keep h4 hw, h5.keep hw, Box.keep h6 hw⟩
  | ls2 l v has => intro f c h; obtain ⟨h1, k1, k2, k3, h2, h3, h4, h5⟩ := h; exact ⟨h1, k1, k2, k3, h2, h3.keep hw, Box.keep h4 hw, Box.keep h5 hw⟩
  | entry n => intro f c h; obtain ⟨h1, k, h2, h3⟩ := h; exact ⟨h1, k, h2, Box.keep h3 hw⟩

/- THE MACHINE -/

def mcells (prog : ByteArray) (status : Int) (a : Option Addr) (n c : Nat) (th : C) (call : CallD) (over : Bool) : List C :=
  [.str prog, .int .i64 status, .int .i64 0, .sl a n c, th] ++ call.cs ++ [.bool over]

def thnC : Option (FuncId × Array Value) → C
  | none => .nilf
  | some (f, c) => .fv f c

def ThnOk (B : Bd) (w : World) : Option Rn → Option (FuncId × Array Value) → Prop
  | none, none => True
  | some t, some (f, c) => RepR B w t f c
  | _, _ => False

/-- The cells of a row of steps. -/
def stepV (x : FuncId × Array Value) : List Value := [.func (.func x.1) #[] x.2, .bool false]

inductive All2 {α β : Type} (R : α → β → Prop) : List α → List β → Prop where
  | nil : All2 R [] []
  | cons {x : α} {y : β} {l : List α} {r : List β} : R x y → All2 R l r → All2 R (x :: l) (y :: r)

theorem All2.mono {α β : Type} {R S : α → β → Prop} (h : ∀ x y, R x y → S x y) {l : List α} {r : List β} (k : All2 R l r) : All2 S l r := by
  induction k with
  | nil => exact .nil
  | cons h1 _ ih => exact .cons (h _ _ h1) ih

theorem All2.length {α β : Type} {R : α → β → Prop} {l : List α} {r : List β} (k : All2 R l r) : l.length = r.length := by
  induction k with
  | nil => rfl
  | cons _ _ ih => simp [ih]

theorem All2.append {α β : Type} {R : α → β → Prop} {l l' : List α} {r r' : List β} (k : All2 R l r) (k' : All2 R l' r') : All2 R (l ++ l') (r ++ r') := by
  induction k with
  | nil => exact k'
  | cons h _ ih => exact .cons h ih

/-- Taken apart at the end. -/
theorem All2.snoc {α β : Type} {R : α → β → Prop} {l : List α} {x : α} : ∀ {r : List β}, All2 R (l ++ [x]) r → ∃ r' y, r = r' ++ [y] ∧ All2 R l r' ∧ R x y := by
  induction l with
  | nil =>
    intro r h
    cases h with
    | cons h1 h2 => cases h2; exact ⟨[], _, rfl, .nil, h1⟩
  | cons a l ih =>
    intro r h
    cases h with
    | cons h1 h2 =>
      obtain ⟨r', y, rfl, h3, h4⟩ := ih h2
      exact ⟨_ :: r', y, rfl, .cons h1 h3, h4⟩

/-- What the library's variables hold at the beginning. -/
def Base (W0 : World) : Prop := Lib.TabIs Tryz.prog W0 "internal/strconv.uint64pow10" .u64 Lib.pow10Tab

/-- Below B the memory is as at the beginning. -/
structure GlobOk (B : Bd) (w : World) : Prop where
  le : B ≤ w.heap.size
  xs : ∀ k ∈ B.x, k < w.heap.size
  base : ∃ W0 : World, W0.heap.size = B ∧ (∀ k : Nat, k < B → w.heap[k]? = W0.heap[k]?) ∧ Base W0

theorem GlobOk.keep {B : Bd} {w w' : World} (h : GlobOk B w) (hk : Keep B w w') : GlobOk B w' := by
  obtain ⟨W0, h1, h2, h3⟩ := h.base
  exact ⟨Nat.le_trans h.le hk.size, fun k hx => Nat.lt_of_lt_of_le (h.xs k hx) hk.size, W0, h1, fun k hlt => (hk.block k (Nat.lt_of_lt_of_le hlt h.le) (.inl hlt)).trans (h2 k hlt), h3⟩

theorem GlobOk.start {w : World} (h : Base w) : GlobOk ⟨w.heap.size, []⟩ w := ⟨Nat.le_refl _, fun _ hx => (by cases hx), w, rfl, fun _ _ => rfl, h⟩

theorem GlobOk.pow10 {B : Bd} {w : World} (h : GlobOk B w) : Lib.TabIs Tryz.prog w "internal/strconv.uint64pow10" .u64 Lib.pow10Tab := by
  obtain ⟨W0, h1, h2, h3⟩ := h.base
  unfold Base Lib.TabIs World.var? at h3
  unfold Lib.TabIs World.var?
  cases hg : Tryz.prog.globalNamed "internal/strconv.uint64pow10" with
  | none => rw [hg] at h3; cases h3
  | some g =>
    rw [hg] at h3
    simp only [Option.bind_some] at h3 ⊢
    have hlt : g < B := by
      rw [← h1]
      rcases Nat.lt_or_ge g W0.heap.size with h4 | h4
      · exact h4
      · rw [Array.getElem?_eq_none h4] at h3; cases h3
    rw [h2 g hlt]
    exact h3

/-- The machine m at block b: its cells, its row. -/
structure MAt (B : Bd) (w : World) (b : Nat) (m : M) (a : Option Addr) (n c : Nat) (th : Option (FuncId × Array Value)) (row : List (FuncId × Array Value)) : Prop where
  base : B ≤ b
  cells : w.heap[b]? = some (.cells (plainR (mcells m.prog m.status a n c (thnC th) m.call m.over)) 66 (0, 0))
  owns : w.ownsRow B 84 2 (.slice a n c) n (row.flatMap stepV)
  todo : All2 (fun k x => RepF B w k x.1 x.2) m.todo row
  len : n = row.length
  thn : ThnOk B w m.thn th
  glob : GlobOk B w

def MOk (B : Bd) (w : World) (b : Nat) (m : M) : Prop := ∃ a n c th row, MAt B w b m a n c th row

/-- A new block is no answer of somebody else's. -/
theorem MOk.notx {B : Bd} {w : World} {b : Nat} {m : M} (h : MOk B w b m) {k : Nat} (hk : w.heap.size ≤ k) : k ∉ B.x := by
  obtain ⟨_, _, _, _, _, hM⟩ := h
  intro hx
  have := hM.glob.xs k hx
  omega

/-- The blocks that the machine at b may write. -/
def Own (w : World) (b k : Nat) : Prop := k = b ∨ ∃ n c, w.cell? ⟨b, 3, none⟩ = some (.slice (some ⟨k, 0, none⟩) n c)

/-- What a machine's own work may do to the memory. -/
structure Evo (w : World) (b : Nat) (w' : World) : Prop where
  os : w'.os = w.os
  tape : w'.tape = w.tape
  output : w'.output = w.output
  size : w.heap.size ≤ w'.heap.size
  block : ∀ k, k < w.heap.size → ¬ Own w b k → w'.heap[k]? = w.heap[k]?
  fresh : ∀ k, Own w' b k → Own w b k ∨ w.heap.size ≤ k

theorem Evo.refl (w : World) (b : Nat) : Evo w b w := ⟨rfl, rfl, rfl, Nat.le_refl _, fun _ _ _ => rfl, fun _ h => .inl h⟩

theorem Evo.trans {w w1 w2 : World} {b : Nat} (h : Evo w b w1) (k : Evo w1 b w2) : Evo w b w2 :=
  ⟨k.os.trans h.os, k.tape.trans h.tape, k.output.trans h.output, Nat.le_trans h.size k.size,
    fun i hi hn => (k.block i (Nat.lt_of_lt_of_le hi h.size) (fun ho => (h.fresh i ho).elim hn (fun hge => by omega))).trans (h.block i hi hn),
    fun i ho => (k.fresh i ho).elim (fun ho1 => h.fresh i ho1) (fun hge => .inr (by have := h.size; omega))⟩

theorem MAt.own {B : Bd} {w : World} {b : Nat} {m : M} {a : Option Addr} {n c : Nat} {th : Option (FuncId × Array Value)} {row : List (FuncId × Array Value)} (h : MAt B w b m a n c th row) (k : Nat) :
    Own w b k ↔ k = b ∨ a = some ⟨k, 0, none⟩ := by
  have hc : w.cell? ⟨b, 3, none⟩ = some (.slice a n c) := by simp [World.cell?, h.cells, plainR, mcells, C.real]
  unfold Own
  rw [hc]
  constructor
  · rintro (h1 | ⟨n', c', h1⟩)
    · exact .inl h1
    · simp only [Option.some.injEq, Value.slice.injEq] at h1; exact .inr h1.1
  · rintro (h1 | h1)
    · exact .inl h1
    · exact .inr ⟨n, c, by rw [h1]⟩

/-- What the machine owns is no safe block. -/
theorem MAt.unsafe_ {B : Bd} {w : World} {b : Nat} {m : M} {a : Option Addr} {n c : Nat} {th : Option (FuncId × Array Value)} {row : List (FuncId × Array Value)} (h : MAt B w b m a n c th row) {k : Nat} (ho : Own w b k) : ¬ Safe B w k := by
  rcases (h.own k).1 ho with rfl | rfl
  · rintro (h1 | ⟨c', T, fr, h1, h2, _⟩)
    · have := h.base; omega
    · rw [h.cells] at h1; simp only [Option.some.injEq, Obj.cells.injEq] at h1; exact h2 h1.2.1.symm
  · obtain ⟨_, h2⟩ := h.owns
    rcases h2 with ⟨h3, _⟩ | ⟨g, cap, cur, h3, h4, h5, _⟩
    · cases h3
    · simp only [Value.slice.injEq, Option.some.injEq, Addr.mk.injEq] at h3
      obtain ⟨⟨rfl, _⟩, _, _⟩ := h3
      rintro (h1 | ⟨c', T, fr, h1, _, h2, _⟩)
      · omega
      · rw [h5] at h1; simp only [Option.some.injEq, Obj.cells.injEq] at h1; exact h2 h1.2.1.symm

theorem Evo.keep {B : Bd} {w w' : World} {b : Nat} {m : M} (h : Evo w b w') (hm : MOk B w b m) : Keep B w w' := by
  obtain ⟨a, n, c, th, row, hm⟩ := hm
  exact ⟨h.os, h.tape, h.output, h.size, fun k hk hs => h.block k hk (fun ho => hm.unsafe_ ho hs)⟩

end Go.Proofs.YtoihipolfdhhnaaGreatDoor
