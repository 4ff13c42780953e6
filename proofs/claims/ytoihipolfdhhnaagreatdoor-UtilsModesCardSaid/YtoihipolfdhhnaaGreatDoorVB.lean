/-
  Vm, second part: its memory, a tree to the base 4; what it is in the model's world; reading, writing, new blocks.
-/
import Derived.Test.YtoihipolfdhhnaaGreatDoorVA
import Derived.Laws.Cells
namespace Go.Proofs.YtoihipolfdhhnaaGreatDoor.Vm

/- A TREE TO THE BASE 4 -/

inductive Tr (α : Type) where
  | nil
  | leaf (a : α)
  | node (c0 c1 c2 c3 : Tr α)

noncomputable def sel4 {β : Type} (x : Nat) (a0 a1 a2 a3 : β) : β :=
  Nat.rec (motive := fun _ => β) a0 (fun m _ => Nat.rec (motive := fun _ => β) a1 (fun m _ => Nat.rec (motive := fun _ => β) a2 (fun _ _ => a3) m) m) x

theorem sel4_0 {β : Type} (a0 a1 a2 a3 : β) : sel4 0 a0 a1 a2 a3 = a0 := rfl
theorem sel4_1 {β : Type} (a0 a1 a2 a3 : β) : sel4 1 a0 a1 a2 a3 = a1 := rfl
theorem sel4_2 {β : Type} (a0 a1 a2 a3 : β) : sel4 2 a0 a1 a2 a3 = a2 := rfl
theorem sel4_3 {β : Type} (a0 a1 a2 a3 : β) : sel4 3 a0 a1 a2 a3 = a3 := rfl

theorem mod4 (b : Nat) : b % 4 = 0 ∨ b % 4 = 1 ∨ b % 4 = 2 ∨ b % 4 = 3 := by omega

noncomputable def Tr.at {α : Type} (t : Tr α) : Nat → Option α :=
  Tr.rec (motive := fun _ => Nat → Option α) (fun _ => none) (fun a _ => some a)
    (fun _ _ _ _ i0 i1 i2 i3 b => sel4 (Nat.mod b 4) (i0 (Nat.div b 4)) (i1 (Nat.div b 4)) (i2 (Nat.div b 4)) (i3 (Nat.div b 4))) t

noncomputable def Tr.set {α : Type} (D : Nat) : Tr α → Nat → α → Tr α :=
  Nat.rec (motive := fun _ => Tr α → Nat → α → Tr α) (fun _ _ a => .leaf a)
    (fun _ ih t b a => Tr.rec (motive := fun _ => Tr α)
      (sel4 (Nat.mod b 4) (.node (ih .nil (Nat.div b 4) a) .nil .nil .nil) (.node .nil (ih .nil (Nat.div b 4) a) .nil .nil) (.node .nil .nil (ih .nil (Nat.div b 4) a) .nil) (.node .nil .nil .nil (ih .nil (Nat.div b 4) a)))
      (fun _ => .nil)
      (fun c0 c1 c2 c3 _ _ _ _ => sel4 (Nat.mod b 4) (.node (ih c0 (Nat.div b 4) a) c1 c2 c3) (.node c0 (ih c1 (Nat.div b 4) a) c2 c3) (.node c0 c1 (ih c2 (Nat.div b 4) a) c3) (.node c0 c1 c2 (ih c3 (Nat.div b 4) a))) t) D

def Sh {α : Type} : Nat → Tr α → Prop
  | _, .nil => True
  | 0, .leaf _ => True
  | 0, .node _ _ _ _ => False
  | _ + 1, .leaf _ => False
  | n + 1, .node a b c d => Sh n a ∧ Sh n b ∧ Sh n c ∧ Sh n d

section
variable {α : Type}

theorem at_nil (b : Nat) : (Tr.nil : Tr α).at b = none := rfl
theorem at_leaf (a : α) (b : Nat) : (Tr.leaf a).at b = some a := rfl
theorem at_node (c0 c1 c2 c3 : Tr α) (b : Nat) : (Tr.node c0 c1 c2 c3).at b = sel4 (b % 4) (c0.at (b / 4)) (c1.at (b / 4)) (c2.at (b / 4)) (c3.at (b / 4)) := rfl
theorem set_zero (t : Tr α) (b : Nat) (a : α) : t.set 0 b a = .leaf a := rfl
theorem set_nil (D : Nat) (b : Nat) (a : α) : (Tr.nil : Tr α).set (D + 1) b a = sel4 (b % 4) (.node (Tr.set D .nil (b / 4) a) .nil .nil .nil) (.node .nil (Tr.set D .nil (b / 4) a) .nil .nil) (.node .nil .nil (Tr.set D .nil (b / 4) a) .nil) (.node .nil .nil .nil (Tr.set D .nil (b / 4) a)) := rfl
theorem set_node (D : Nat) (c0 c1 c2 c3 : Tr α) (b : Nat) (a : α) : (Tr.node c0 c1 c2 c3).set (D + 1) b a = sel4 (b % 4) (.node (c0.set D (b / 4) a) c1 c2 c3) (.node c0 (c1.set D (b / 4) a) c2 c3) (.node c0 c1 (c2.set D (b / 4) a) c3) (.node c0 c1 c2 (c3.set D (b / 4) a)) := rfl

theorem Sh_nil (D : Nat) : Sh D (Tr.nil : Tr α) := by cases D <;> trivial

theorem Sh_set : ∀ (D : Nat) (t : Tr α) (b : Nat) (a : α), Sh D t → Sh D (t.set D b a)
  | 0, t, b, a, _ => trivial
  | D + 1, .nil, b, a, _ => by
    have h := Sh_set D .nil (b / 4) a (Sh_nil D)
    have hn := Sh_nil (α := α) D
    rw [set_nil]
    rcases mod4 b with e | e | e | e <;> rw [e] <;> simp only [sel4_0, sel4_1, sel4_2, sel4_3] <;> simp only [Sh] <;> exact ⟨by assumption, by assumption, by assumption, by assumption⟩
  | D + 1, .node c0 c1 c2 c3, b, a, h => by
    obtain ⟨h0, h1, h2, h3⟩ := h
    have k0 := Sh_set D c0 (b / 4) a h0
    have k1 := Sh_set D c1 (b / 4) a h1
    have k2 := Sh_set D c2 (b / 4) a h2
    have k3 := Sh_set D c3 (b / 4) a h3
    rw [set_node]
    rcases mod4 b with e | e | e | e <;> rw [e] <;> simp only [sel4_0, sel4_1, sel4_2, sel4_3] <;> simp only [Sh] <;> exact ⟨by assumption, by assumption, by assumption, by assumption⟩

theorem at_set : ∀ (D : Nat) (t : Tr α) (b : Nat) (a : α), Sh D t → (t.set D b a).at b = some a
  | 0, t, b, a, _ => rfl
  | D + 1, .nil, b, a, _ => by
    have h := at_set D .nil (b / 4) a (Sh_nil D)
    rw [set_nil]
    rcases mod4 b with e | e | e | e <;> rw [e] <;> simp only [sel4_0, sel4_1, sel4_2, sel4_3] <;> rw [at_node, e] <;> exact h
  | D + 1, .node c0 c1 c2 c3, b, a, h => by
    obtain ⟨h0, h1, h2, h3⟩ := h
    rw [set_node]
    rcases mod4 b with e | e | e | e <;> rw [e] <;> simp only [sel4_0, sel4_1, sel4_2, sel4_3] <;> rw [at_node, e]
    · exact at_set D c0 _ a h0
    · exact at_set D c1 _ a h1
    · exact at_set D c2 _ a h2
    · exact at_set D c3 _ a h3

theorem at_set_ne : ∀ (D : Nat) (t : Tr α) (b b' : Nat) (a : α), Sh D t → b < 4 ^ D → b' < 4 ^ D → b' ≠ b → (t.set D b a).at b' = t.at b'
  | 0, t, b, b', a, _, hb, hb', hne => by simp at hb hb'; omega
  | D + 1, .nil, b, b', a, _, hb, hb', hne => by
    rw [Nat.pow_succ] at hb hb'
    rw [set_nil, at_nil]
    have hr : b' % 4 = b % 4 → ∀ x : Tr α, x = Tr.nil → (x.set D (b / 4) a).at (b' / 4) = none := fun e x hx => by
      subst hx
      exact (at_set_ne D .nil (b / 4) (b' / 4) a (Sh_nil D) (by omega) (by omega) (by omega)).trans (at_nil _)
    rcases mod4 b with e | e | e | e <;> rw [e] <;> simp only [sel4_0, sel4_1, sel4_2, sel4_3] <;> rw [at_node] <;> rcases mod4 b' with e' | e' | e' | e' <;> rw [e'] <;> simp only [sel4_0, sel4_1, sel4_2, sel4_3] <;> first | rfl | exact hr (by omega) _ rfl
  | D + 1, .node c0 c1 c2 c3, b, b', a, h, hb, hb', hne => by
    obtain ⟨h0, h1, h2, h3⟩ := h
    rw [Nat.pow_succ] at hb hb'
    rw [set_node, at_node c0]
    rcases mod4 b with e | e | e | e <;> rw [e] <;> simp only [sel4_0, sel4_1, sel4_2, sel4_3] <;> rw [at_node] <;> rcases mod4 b' with e' | e' | e' | e' <;> rw [e'] <;> simp only [sel4_0, sel4_1, sel4_2, sel4_3] <;> first
      | rfl
      | exact at_set_ne D _ (b / 4) (b' / 4) a (by assumption) (by omega) (by omega) (by omega)

end

/- ROWS -/

noncomputable def nth {α : Type} (l : List α) : Nat → Option α :=
  List.rec (motive := fun _ => Nat → Option α) (fun _ => none) (fun c _ ih i => Nat.rec (motive := fun _ => Option α) (some c) (fun j _ => ih j) i) l

theorem nth_eq {α : Type} : ∀ (l : List α) (i : Nat), nth l i = l[i]?
  | [], i => by simp [nth]
  | c :: l, 0 => rfl
  | c :: l, i + 1 => (nth_eq l i).trans (by simp)

noncomputable def setNth {α : Type} (c : α) (l : List α) : Nat → List α :=
  List.rec (motive := fun _ => Nat → List α) (fun _ => []) (fun x t ih i => Nat.rec (motive := fun _ => List α) (c :: t) (fun j _ => x :: ih j) i) l

theorem setNth_eq {α : Type} (c : α) : ∀ (l : List α) (i : Nat), setNth c l i = l.set i c
  | [], i => by simp [setNth]
  | x :: l, 0 => rfl
  | x :: l, i + 1 => congrArg (x :: ·) (setNth_eq c l i)

/-- The cells from o on are others. -/
def splice (cs : List C) (o : Nat) (vs : List C) : List C := cs.take o ++ vs ++ cs.drop (o + vs.length)

/- THE MEMORY -/

inductive Blk where
  | cells (ty : TypeId) (n : Nat) (cs : List C) (fz : Nat) (wr : Bool)
  | map (es : List (C × C))
  | iter (n d pos : Nat)
  | dead

structure Dfr where
  f : FuncId
  caps : List C
  args : List C

structure Mem where
  t : Tr Blk
  nx : Nat
  df : List Dfr

/-- How deep the tree is. -/
def deep : Nat := 8

noncomputable def Mem.at (m : Mem) (b : Nat) : Option Blk := m.t.at b
noncomputable def Mem.put (m : Mem) (b : Nat) (x : Blk) : Mem := ⟨m.t.set deep b x, m.nx, m.df⟩
noncomputable def Mem.add (m : Mem) (x : Blk) : Mem := ⟨m.t.set deep m.nx x, Nat.succ m.nx, m.df⟩

def EntryRel (ε : Ev) (e : MapEntry) (x : C × C) : Prop := C.real ε x.1 = some e.key ∧ C.real ε x.2 = some e.val

/-- How a block lies in the world: x is its block, the place of its first cell, how many cells it has there. -/
def BRel (ε : Ev) (x : Pl) (w : World) : Blk → Prop
  | .cells ty n cs fz wr => ∃ arr lo hi vs, w.heap[x.blk]? = some (.cells arr ty (lo, hi)) ∧ n = cs.length ∧ cs.length ≤ x.len ∧ x.base + x.len ≤ arr.size ∧ cs.all C.cell = true ∧ C.reals ε cs = some vs ∧
      (∀ j, j < cs.length → arr[x.base + j]? = vs[j]?) ∧ (∀ j, fz ≤ j → j < x.len → ¬ (lo ≤ x.base + j ∧ x.base + j < hi))
  | .map es => ∃ ents clock, w.heap[x.blk]? = some (.map ents clock) ∧ ents.size = es.length ∧ (∀ (j : Nat) (e : MapEntry) (y : C × C), ents[j]? = some e → es[j]? = some y → EntryRel ε e y)
  | .iter n d pos => w.heap[x.blk]? = some (.stringIter (textOf ε.ν n d) pos) ∧ x.base = 0
  | .dead => True

def Blk.alive : Blk → Bool
  | .dead => false
  | _ => true

def Blk.writes : Blk → Bool
  | .cells _ _ _ _ wr => wr
  | _ => true

/-- How the memory lies in the world; wb: the world at the beginning. -/
structure MRel (wb : World) (ε : Ev) (m : Mem) (w : World) : Prop where
  sh : Sh deep m.t
  nx : m.nx ≤ 65536
  dom : ∀ b, m.nx ≤ b → ε.ad b = none
  lt : ∀ b x, ε.ad b = some x → x.blk < w.heap.size
  blk : ∀ b B, b < m.nx → m.t.at b = some B → B.alive = true → ∃ x, ε.ad b = some x ∧ BRel ε x w B ∧ (B.writes = true → wb.heap.size ≤ x.blk)
  inj : ∀ b b' B B' x x', b < m.nx → b' < m.nx → m.t.at b = some B → m.t.at b' = some B' → B.alive = true → B'.alive = true → ε.ad b = some x → ε.ad b' = some x' → x.blk = x'.blk → b = b'
  old : ∀ k, k < wb.heap.size → w.heap[k]? = wb.heap[k]?
  size : wb.heap.size ≤ w.heap.size
  os : w.os = wb.os
  tape : w.tape = wb.tape
  output : w.output = wb.output

theorem BRel.le {ε ε' : Ev} (h : ε.le ε') {x : Pl} {w w' : World} {B : Blk} (hw : w'.heap[x.blk]? = w.heap[x.blk]?) (hB : BRel ε x w B) : BRel ε' x w' B := by
  cases B with
  | cells ty n cs fz wr =>
    obtain ⟨arr, lo, hi, vs, h1, h2, h3, h4, h5, h6, h7, h8⟩ := hB
    exact ⟨arr, lo, hi, vs, by rw [hw]; exact h1, h2, h3, h4, h5, C.reals_le h h6, h7, h8⟩
  | map es =>
    obtain ⟨ents, clock, h1, h2, h3⟩ := hB
    exact ⟨ents, clock, by rw [hw]; exact h1, h2, fun j e y hj hy => ⟨C.real_le h (h3 j e y hj hy).1, C.real_le h (h3 j e y hj hy).2⟩⟩
  | iter n d pos => obtain ⟨h1, h2⟩ := hB; exact ⟨by rw [hw, h.ν]; exact h1, h2⟩
  | dead => exact hB

theorem MRel.lt_nx {wb : World} {ε : Ev} {m : Mem} {w : World} (h : MRel wb ε m w) {b : Nat} {x : Pl} (hx : ε.ad b = some x) : b < m.nx := by
  rcases Nat.lt_or_ge b m.nx with h1 | h1
  · exact h1
  · rw [h.dom b h1] at hx; cases hx

theorem MRel.drew {wb : World} {ε : Ev} {m : Mem} {w : World} (h : MRel wb ε m w) (d : Nat) : MRel wb ε m { w with drawn := d } :=
  ⟨h.sh, h.nx, h.dom, h.lt, fun b B hl hb ha => by
    obtain ⟨x, h2, h3, h4⟩ := h.blk b B hl hb ha
    exact ⟨x, h2, BRel.le (Ev.le.refl ε) (w := w) rfl h3, h4⟩, h.inj, h.old, h.size, h.os, h.tape, h.output⟩

/-- The defers are no part of it. -/
theorem MRel.dfr {wb : World} {ε : Ev} {m : Mem} {w : World} (h : MRel wb ε m w) (d : List Dfr) : MRel wb ε ⟨m.t, m.nx, d⟩ w :=
  ⟨h.sh, h.nx, h.dom, h.lt, h.blk, h.inj, h.old, h.size, h.os, h.tape, h.output⟩

theorem deep_pow : 4 ^ deep = 65536 := by decide

/-- One block is another, in the world too. -/
theorem MRel.put {wb : World} {ε : Ev} {m : Mem} {w : World} (h : MRel wb ε m w) {b : Nat} {B B' : Blk} {x : Pl} (hb : m.t.at b = some B) (ha : B.alive = true) (hx : ε.ad b = some x) (hw : B.writes = true)
    {o : Obj} (hB : BRel ε x { w with heap := w.heap.setIfInBounds x.blk o } B') : MRel wb ε (m.put b B') { w with heap := w.heap.setIfInBounds x.blk o } := by
  have hl := h.lt_nx hx
  obtain ⟨x', hx', _, hnew⟩ := h.blk b B hl hb ha
  rw [hx] at hx'
  cases hx'
  have hn := hnew hw
  have hnx := h.nx
  have hat : ∀ b' B1, b' < m.nx → (m.put b B').t.at b' = some B1 → (b' = b ∧ B1 = B') ∨ (b' ≠ b ∧ m.t.at b' = some B1) := by
    intro b' B1 h0 h1
    by_cases e : b' = b
    · subst e
      simp only [Mem.put, at_set deep m.t b' B' h.sh, Option.some.injEq] at h1
      exact .inl ⟨rfl, h1.symm⟩
    · simp only [Mem.put] at h1
      rw [at_set_ne deep m.t b b' B' h.sh (by rw [deep_pow]; omega) (by rw [deep_pow]; omega) e] at h1
      exact .inr ⟨e, h1⟩
  have hne : ∀ k, k ≠ x.blk → (w.heap.setIfInBounds x.blk o)[k]? = w.heap[k]? := fun k hk => Array.getElem?_setIfInBounds_ne (fun e => hk e.symm)
  refine ⟨Sh_set deep m.t b B' h.sh, h.nx, h.dom, fun b1 x1 h1 => by simpa using h.lt b1 x1 h1, ?_, ?_, fun k hk => (hne k (by omega)).trans (h.old k hk), by simpa using h.size, h.os, h.tape, h.output⟩
  · intro b1 B1 h0 h1 h2
    rcases hat b1 B1 h0 h1 with ⟨rfl, rfl⟩ | ⟨e, h3⟩
    · exact ⟨x, hx, hB, fun _ => hn⟩
    · obtain ⟨y, h4, h5, h6⟩ := h.blk b1 B1 h0 h3 h2
      exact ⟨y, h4, BRel.le (Ev.le.refl ε) (w := w) (hne y.blk (fun e' => e (h.inj b1 b B1 B y x h0 hl h3 hb h2 ha h4 hx e'))) h5, h6⟩
  · intro b1 b2 B1 B2 x1 x2 l1 l2 h1 h2 a1 a2 e1 e2 e
    rcases hat b1 B1 l1 h1 with ⟨rfl, rfl⟩ | ⟨n1, h3⟩
    · rcases hat b2 B2 l2 h2 with ⟨rfl, rfl⟩ | ⟨n2, h4⟩
      · rfl
      · exact h.inj _ _ B B2 x1 x2 l1 l2 hb h4 ha a2 e1 e2 e
    · rcases hat b2 B2 l2 h2 with ⟨rfl, rfl⟩ | ⟨n2, h4⟩
      · exact h.inj _ _ B1 B x1 x2 l1 l2 h3 hb a1 ha e1 e2 e
      · exact h.inj _ _ B1 B2 x1 x2 l1 l2 h3 h4 a1 a2 e1 e2 e

/-- The new name's place. -/
def Ev.with (ε : Ev) (b : Nat) (x : Pl) : Ev := ⟨fun i => if i = b then some x else ε.ad i, ε.ν⟩

theorem Ev.with_at (ε : Ev) (b : Nat) (x : Pl) : (ε.with b x).ad b = some x := by simp [Ev.with]

theorem MRel.with_le {wb : World} {ε : Ev} {m : Mem} {w : World} (h : MRel wb ε m w) (x : Pl) : ε.le (ε.with m.nx x) := by
  refine ⟨fun b y hy => ?_, rfl⟩
  have := h.lt_nx hy
  simp only [Ev.with]
  rw [if_neg (by omega)]; exact hy

/-- A new block. -/
theorem MRel.add {wb : World} {ε : Ev} {m : Mem} {w : World} (h : MRel wb ε m w) {B : Blk} (hnx : m.nx < 65536) {o : Obj} (base n : Nat)
    (hB : BRel (ε.with m.nx ⟨w.heap.size, base, n⟩) ⟨w.heap.size, base, n⟩ { w with heap := w.heap.push o } B) : MRel wb (ε.with m.nx ⟨w.heap.size, base, n⟩) (m.add B) { w with heap := w.heap.push o } := by
  have hat : ∀ b' B1, b' < m.nx + 1 → (m.add B).t.at b' = some B1 → (b' = m.nx ∧ B1 = B) ∨ (b' < m.nx ∧ m.t.at b' = some B1) := by
    intro b' B1 h0 h1
    by_cases e : b' = m.nx
    · subst e
      simp only [Mem.add, at_set deep m.t m.nx B h.sh, Option.some.injEq] at h1
      exact .inl ⟨rfl, h1.symm⟩
    · simp only [Mem.add] at h1
      rw [at_set_ne deep m.t m.nx b' B h.sh (by rw [deep_pow]; omega) (by rw [deep_pow]; omega) e] at h1
      exact .inr ⟨by omega, h1⟩
  have hpush : ∀ k, k < w.heap.size → (w.heap.push o)[k]? = w.heap[k]? := fun k hk => by rw [Array.getElem?_push, if_neg (by omega)]
  have hle := h.with_le ⟨w.heap.size, base, n⟩
  have had : ∀ b x, (ε.with m.nx ⟨w.heap.size, base, n⟩).ad b = some x → (b = m.nx ∧ x = ⟨w.heap.size, base, n⟩) ∨ (b ≠ m.nx ∧ ε.ad b = some x) := by
    intro b x hx
    simp only [Ev.with] at hx
    split at hx
    · rename_i e; cases hx; exact .inl ⟨e, rfl⟩
    · rename_i e; exact .inr ⟨e, hx⟩
  refine ⟨Sh_set deep m.t m.nx B h.sh, by simp only [Mem.add, Nat.succ_eq_add_one]; omega, ?_, ?_, ?_, ?_, fun k hk => (hpush k (Nat.lt_of_lt_of_le hk h.size)).trans (h.old k hk), by have := h.size; simp; omega, h.os, h.tape, h.output⟩
  · intro b hb
    simp only [Mem.add, Nat.succ_eq_add_one] at hb
    simp only [Ev.with]
    rw [if_neg (by omega)]; exact h.dom b (by omega)
  · intro b x hx
    rcases had b x hx with ⟨_, rfl⟩ | ⟨_, h1⟩
    · simp
    · have := h.lt b x h1; simp; omega
  · intro b1 B1 h0 h1 h2
    simp only [Mem.add, Nat.succ_eq_add_one] at h0
    rcases hat b1 B1 h0 h1 with ⟨rfl, rfl⟩ | ⟨e, h3⟩
    · exact ⟨_, Ev.with_at _ _ _, hB, fun _ => h.size⟩
    · obtain ⟨y, h4, h5, h6⟩ := h.blk b1 B1 e h3 h2
      exact ⟨y, hle.ad _ _ h4, BRel.le hle (w := w) (hpush _ (h.lt b1 y h4)) h5, h6⟩
  · intro b1 b2 B1 B2 x1 x2 l1 l2 h1 h2 a1 a2 e1 e2 e
    simp only [Mem.add, Nat.succ_eq_add_one] at l1 l2
    rcases hat b1 B1 l1 h1 with ⟨rfl, rfl⟩ | ⟨n1, h3⟩ <;> rcases hat b2 B2 l2 h2 with ⟨rfl, rfl⟩ | ⟨n2, h4⟩
    · rfl
    · rw [Ev.with_at] at e1
      cases e1
      rcases had _ _ e2 with ⟨h5, _⟩ | ⟨_, h5⟩
      · omega
      · have := h.lt _ _ h5; simp only at e; omega
    · rw [Ev.with_at] at e2
      cases e2
      rcases had _ _ e1 with ⟨h5, _⟩ | ⟨_, h5⟩
      · omega
      · have := h.lt _ _ h5; simp only at e; omega
    · rcases had _ _ e1 with ⟨h5, _⟩ | ⟨_, h5⟩
      · omega
      · rcases had _ _ e2 with ⟨h6, _⟩ | ⟨_, h6⟩
        · omega
        · exact h.inj _ _ B1 B2 x1 x2 n1 n2 h3 h4 a1 a2 h5 h6 e

/-- A name without cells. -/
theorem MRel.name {wb : World} {ε : Ev} {m : Mem} {w : World} (h : MRel wb ε m w) (hnx : m.nx < 65536) (x : Pl) (hx : x.blk < w.heap.size) : MRel wb (ε.with m.nx x) (m.add .dead) w := by
  have hat : ∀ b' B1, b' < m.nx + 1 → (m.add .dead).t.at b' = some B1 → B1.alive = true → b' < m.nx ∧ m.t.at b' = some B1 := by
    intro b' B1 h0 h1 h2
    by_cases e : b' = m.nx
    · subst e
      simp only [Mem.add, at_set deep m.t m.nx _ h.sh, Option.some.injEq] at h1
      subst h1; cases h2
    · simp only [Mem.add] at h1
      rw [at_set_ne deep m.t m.nx b' _ h.sh (by rw [deep_pow]; omega) (by rw [deep_pow]; omega) e] at h1
      exact ⟨by omega, h1⟩
  have hle := h.with_le x
  have had : ∀ b y, b < m.nx → (ε.with m.nx x).ad b = some y → ε.ad b = some y := by
    intro b y hb hy
    simp only [Ev.with] at hy
    rwa [if_neg (by omega)] at hy
  refine ⟨Sh_set deep m.t m.nx _ h.sh, by simp only [Mem.add, Nat.succ_eq_add_one]; omega, ?_, ?_, ?_, ?_, h.old, h.size, h.os, h.tape, h.output⟩
  · intro b hb
    simp only [Mem.add, Nat.succ_eq_add_one] at hb
    simp only [Ev.with]
    rw [if_neg (by omega)]; exact h.dom b (by omega)
  · intro b y hy
    simp only [Ev.with] at hy
    split at hy
    · cases hy; exact hx
    · exact h.lt b y hy
  · intro b1 B1 h0 h1 h2
    simp only [Mem.add, Nat.succ_eq_add_one] at h0
    obtain ⟨e, h3⟩ := hat b1 B1 h0 h1 h2
    obtain ⟨y, h4, h5, h6⟩ := h.blk b1 B1 e h3 h2
    exact ⟨y, hle.ad _ _ h4, BRel.le hle (w := w) rfl h5, h6⟩
  · intro b1 b2 B1 B2 x1 x2 l1 l2 h1 h2 a1 a2 e1 e2 e
    simp only [Mem.add, Nat.succ_eq_add_one] at l1 l2
    obtain ⟨n1, h3⟩ := hat b1 B1 l1 h1 a1
    obtain ⟨n2, h4⟩ := hat b2 B2 l2 h2 a2
    exact h.inj _ _ B1 B2 x1 x2 n1 n2 h3 h4 a1 a2 (had _ _ n1 e1) (had _ _ n2 e2) e

/-- A name that is forgotten. -/
theorem MRel.kill {wb : World} {ε : Ev} {m : Mem} {w : World} (h : MRel wb ε m w) {b : Nat} {B : Blk} {x : Pl} (_hb : m.t.at b = some B) (_ha : B.alive = true) (hx : ε.ad b = some x) : MRel wb ε (m.put b .dead) w := by
  have hl := h.lt_nx hx
  have hnx := h.nx
  have hat : ∀ b' B1, b' < m.nx → (m.put b .dead).t.at b' = some B1 → B1.alive = true → m.t.at b' = some B1 := by
    intro b' B1 h0 h1 h2
    by_cases e : b' = b
    · subst e
      simp only [Mem.put, at_set deep m.t b' _ h.sh, Option.some.injEq] at h1
      subst h1; cases h2
    · simp only [Mem.put] at h1
      rwa [at_set_ne deep m.t b b' _ h.sh (by rw [deep_pow]; omega) (by rw [deep_pow]; omega) e] at h1
  exact ⟨Sh_set deep m.t b _ h.sh, h.nx, h.dom, h.lt, fun b1 B1 l1 h1 a1 => h.blk b1 B1 l1 (hat b1 B1 l1 h1 a1) a1,
    fun b1 b2 B1 B2 x1 x2 l1 l2 h1 h2 a1 a2 => h.inj b1 b2 B1 B2 x1 x2 l1 l2 (hat b1 B1 l1 h1 a1) (hat b2 B2 l2 h2 a2) a1 a2, h.old, h.size, h.os, h.tape, h.output⟩

/-- A name for a block that no other name has. -/
theorem MRel.own {wb : World} {ε : Ev} {m : Mem} {w : World} (h : MRel wb ε m w) (hnx : m.nx < 65536) (y : Pl) (hlt : y.blk < w.heap.size) (hbase : wb.heap.size ≤ y.blk) {B : Blk}
    (hfree : ∀ b B1 x, b < m.nx → m.t.at b = some B1 → B1.alive = true → ε.ad b = some x → x.blk ≠ y.blk) (hB : BRel (ε.with m.nx y) y w B) : MRel wb (ε.with m.nx y) (m.add B) w := by
  have hat : ∀ b' B1, b' < m.nx + 1 → (m.add B).t.at b' = some B1 → (b' = m.nx ∧ B1 = B) ∨ (b' < m.nx ∧ m.t.at b' = some B1) := by
    intro b' B1 h0 h1
    by_cases e : b' = m.nx
    · subst e
      simp only [Mem.add, at_set deep m.t m.nx B h.sh, Option.some.injEq] at h1
      exact .inl ⟨rfl, h1.symm⟩
    · simp only [Mem.add] at h1
      rw [at_set_ne deep m.t m.nx b' B h.sh (by rw [deep_pow]; omega) (by rw [deep_pow]; omega) e] at h1
      exact .inr ⟨by omega, h1⟩
  have hle := h.with_le y
  have had : ∀ b x, b < m.nx → (ε.with m.nx y).ad b = some x → ε.ad b = some x := by
    intro b x hb hy
    simp only [Ev.with] at hy
    rwa [if_neg (by omega)] at hy
  refine ⟨Sh_set deep m.t m.nx B h.sh, by simp only [Mem.add, Nat.succ_eq_add_one]; omega, ?_, ?_, ?_, ?_, h.old, h.size, h.os, h.tape, h.output⟩
  · intro b hb
    simp only [Mem.add, Nat.succ_eq_add_one] at hb
    simp only [Ev.with]
    rw [if_neg (by omega)]; exact h.dom b (by omega)
  · intro b x hx
    simp only [Ev.with] at hx
    split at hx
    · cases hx; exact hlt
    · exact h.lt b x hx
  · intro b1 B1 h0 h1 h2
    simp only [Mem.add, Nat.succ_eq_add_one] at h0
    rcases hat b1 B1 h0 h1 with ⟨rfl, rfl⟩ | ⟨e, h3⟩
    · exact ⟨_, Ev.with_at _ _ _, hB, fun _ => hbase⟩
    · obtain ⟨x, h4, h5, h6⟩ := h.blk b1 B1 e h3 h2
      exact ⟨x, hle.ad _ _ h4, BRel.le hle (w := w) rfl h5, h6⟩
  · intro b1 b2 B1 B2 x1 x2 l1 l2 h1 h2 a1 a2 e1 e2 e
    simp only [Mem.add, Nat.succ_eq_add_one] at l1 l2
    rcases hat b1 B1 l1 h1 with ⟨rfl, rfl⟩ | ⟨n1, h3⟩ <;> rcases hat b2 B2 l2 h2 with ⟨rfl, rfl⟩ | ⟨n2, h4⟩
    · rfl
    · rw [Ev.with_at] at e1
      cases e1
      exact absurd e.symm (hfree _ _ _ n2 h4 a2 (had _ _ n2 e2))
    · rw [Ev.with_at] at e2
      cases e2
      exact absurd e (hfree _ _ _ n1 h3 a1 (had _ _ n1 e1))
    · exact h.inj _ _ B1 B2 x1 x2 n1 n2 h3 h4 a1 a2 (had _ _ n1 e1) (had _ _ n2 e2) e

/-- A block that goes over to a new name. -/
theorem MRel.take {wb : World} {ε : Ev} {m : Mem} {w : World} (h : MRel wb ε m w) (hnx : m.nx < 65536) {b : Nat} {B B' : Blk} {x y : Pl} (hb : m.t.at b = some B) (ha : B.alive = true) (hx : ε.ad b = some x) (hw : B.writes = true) (hy : y.blk = x.blk)
    {o : Obj} (hB : BRel (ε.with m.nx y) y { w with heap := w.heap.setIfInBounds x.blk o } B') : MRel wb (ε.with m.nx y) ((m.put b .dead).add B') { w with heap := w.heap.setIfInBounds x.blk o } := by
  have h1 := h.put (B' := .dead) hb ha hx hw (o := o) trivial
  have hl := h.lt_nx hx
  obtain ⟨x', hx', _, hnew⟩ := h.blk b B hl hb ha
  rw [hx] at hx'
  cases hx'
  refine h1.own hnx y (by have := h1.lt b x hx; omega) (by have := hnew hw; omega) ?_ hB
  intro b1 B1 x1 l1 h2 a1 e1 e
  by_cases hbb : b1 = b
  · subst hbb
    simp only [Mem.put, at_set deep m.t b1 _ h.sh, Option.some.injEq] at h2
    subst h2; cases a1
  · have hnx' := h.nx
    have l1' : b1 < m.nx := l1
    simp only [Mem.put] at h2
    rw [at_set_ne deep m.t b b1 _ h.sh (by rw [deep_pow]; omega) (by rw [deep_pow]; omega) hbb] at h2
    exact hbb (h.inj b1 b B1 B x1 x l1' hl h2 hb a1 ha e1 hx (e.trans hy))

/-- A name's cells, read in the world. -/
theorem MRel.cell {wb : World} {ε : Ev} {m : Mem} {w : World} (h : MRel wb ε m w) {b : Nat} {x : Pl} (hx : ε.ad b = some x) {ty : TypeId} {n : Nat} {cs : List C} {fz : Nat} {wr : Bool}
    (hb : m.t.at b = some (.cells ty n cs fz wr)) {j : Nat} {c : C} (hj : cs[j]? = some c) : ∃ v, C.real ε c = some v ∧ w.cell? ⟨x.blk, x.base + j, none⟩ = some v := by
  obtain ⟨y, hy, hB, _⟩ := h.blk b _ (h.lt_nx hx) hb rfl
  rw [hx] at hy
  cases hy
  obtain ⟨arr, lo, hi, vs, h1, h2, h3, h4, h5, h6, h7, h8⟩ := hB
  obtain ⟨v, hv, hr⟩ := reals_get h6 j c hj
  have hjl : j < cs.length := (List.getElem?_eq_some_iff.1 hj).1
  exact ⟨v, hr, by simp [World.cell?, h1, h7 j hjl, hv]⟩

end Go.Proofs.YtoihipolfdhhnaaGreatDoor.Vm
