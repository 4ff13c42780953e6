/-
  A new block of an answer may be written by whoever made it: no machine that was there before refers to it.
-/
import Derived.Test.YtoihipolfdhhnaaGreatDoorNewB
namespace Go.Proofs.YtoihipolfdhhnaaGreatDoor

def Bd.with (B : Bd) (kr : Nat) : Bd := ⟨B.n, kr :: B.x⟩

theorem Safe.excl {B : Bd} {w : World} {k kr : Nat} (h : Safe B w k) (hne : k ≠ kr) : Safe (B.with kr) w k := by
  rcases h with h | ⟨c, T, fr, h1, h2, h3, h4, h5⟩
  · exact .inl h
  · exact .inr ⟨c, T, fr, h1, h2, h3, h4, fun e hx => (List.mem_cons.1 hx).elim hne (h5 e)⟩

theorem StrsAt.excl {B : Bd} {w : World} {a : Option Addr} {n c kr : Nat} {l : List ByteArray} (h : StrsAt B w a n c l) (hk : w.heap.size ≤ kr) : StrsAt (B.with kr) w a n c l :=
  ⟨h.len, h.cap, fun j s hj => by
    obtain ⟨ad, h1, h2, h3⟩ := h.at_ j s hj
    have hlt := World.block_lt_of_cell? w _ h2
    rw [addr_add_block] at hlt
    exact ⟨ad, h1, h2, h3.excl (by omega)⟩⟩

theorem IntsAt.excl {B : Bd} {w : World} {a : Option Addr} {n c kr : Nat} {l : List Int} (h : IntsAt B w a n c l) (hk : w.heap.size ≤ kr) : IntsAt (B.with kr) w a n c l :=
  ⟨h.len, h.cap, fun j s hj => by
    obtain ⟨ad, h1, h2, h3⟩ := h.at_ j s hj
    have hlt := World.block_lt_of_cell? w _ h2
    rw [addr_add_block] at hlt
    exact ⟨ad, h1, h2, h3.excl (by omega)⟩⟩

theorem StrsBox.excl {B : Bd} {w : World} {k kr : Nat} {l : List ByteArray} (h : StrsBox B w k l) (hk : w.heap.size ≤ kr) : StrsBox (B.with kr) w k l :=
  let ⟨a, n, c, h1, h2⟩ := h; ⟨a, n, c, h1, h2.excl hk⟩
theorem IntsBox.excl {B : Bd} {w : World} {k kr : Nat} {l : List Int} (h : IntsBox B w k l) (hk : w.heap.size ≤ kr) : IntsBox (B.with kr) w k l :=
  let ⟨a, n, c, h1, h2⟩ := h; ⟨a, n, c, h1, h2.excl hk⟩
theorem ResBox.excl {B : Bd} {w : World} {k kr : Nat} {r : Res} (h : ResBox B w k r) (hk : w.heap.size ≤ kr) : ResBox (B.with kr) w k r :=
  let ⟨a, n, c, h1, h2, h3⟩ := h; ⟨a, n, c, h1, h2.excl hk, fun hx => by
    have := lt_of_block h1
    rcases List.mem_cons.1 hx with e | e
    · omega
    · exact h3 e⟩

theorem RepE.excl {B : Bd} {w : World} {kr : Nat} (hk : w.heap.size ≤ kr) {x : Ef} {f : FuncId} {c : Array Value} (h : RepE B w x f c) : RepE (B.with kr) w x f c := by
  cases x with
  | chmod l => obtain ⟨h1, k, h2, h3⟩ := h; exact ⟨h1, k, h2, h3.excl hk⟩
  | ls long l has => obtain ⟨h1, k1, k2, k3, h2, h3, h4, h5⟩ := h; exact ⟨h1, k1, k2, k3, h2, h3, h4.excl hk, h5⟩
  | _ => exact h

theorem RepF.excl {B : Bd} {w : World} {kr : Nat} (hk : w.heap.size ≤ kr) {x : Fn} : ∀ {f : FuncId} {c : Array Value}, RepF B w x f c → RepF (B.with kr) w x f c := by
  induction x with
  | start d ws => intro f c h; obtain ⟨h1, k1, k2, df, dc, h2, h3, h4, h5⟩ := h; exact ⟨h1, k1, k2, df, dc, h2, h3, h4, h5.excl hk⟩
  | each l e => intro f c h; obtain ⟨h1, k1, k2, ef, ec, h2, h3, h4, h5⟩ := h; exact ⟨h1, k1, k2, ef, ec, h2, h3.excl hk, h4, h5.excl hk⟩
  | pours s d t ih => intro f c h; obtain ⟨h1, k1, k2, k3, tf, tc, h2, h3, h4, h5, h6⟩ := h; exact ⟨h1, k1, k2, k3, tf, tc, h2, h3, h4, h5, ih h6⟩
  | closes fds => intro f c h; obtain ⟨h1, k, h2, h3⟩ := h; exact ⟨h1, k, h2, h3.excl hk⟩
  | entries d names has => intro f c h; obtain ⟨h1, k1, k2, k3, r, h2, h3, h4, h5, h6⟩ := h; exact ⟨h1, k1, k2, k3, r, h2, h3, h4.excl hk, h5, h6⟩
  | _ => exact fun h => h

theorem RepR.excl {B : Bd} {w : World} {kr : Nat} (hk : w.heap.size ≤ kr) {x : Rn} : ∀ {f : FuncId} {c : Array Value}, RepR B w x f c → RepR (B.with kr) w x f c := by
  induction x with
  | say fd text t => intro f c h; obtain ⟨h1, k1, k2, k3, tf, tc, h2, h3, h4, h5, h6⟩ := h; exact ⟨h1, k1, k2, k3, tf, tc, h2, h3, h4, h5.excl hk, h6⟩
  | tries p t ih => intro f c h; obtain ⟨h1, k1, k2, tf, tc, h2, h3, h4, h5⟩ := h; exact ⟨h1, k1, k2, tf, tc, h2, h3, h4, ih h5⟩
  | pours s d t => intro f c h; obtain ⟨h1, k1, k2, k3, tf, tc, h2, h3, h4, h5, h6⟩ := h; exact ⟨h1, k1, k2, k3, tf, tc, h2, h3, h4.excl hk, h5, h6⟩
  | closes fds => intro f c h; obtain ⟨h1, k, h2, h3⟩ := h; exact ⟨h1, k, h2, h3.excl hk⟩
  | places l last pl br => intro f c h; obtain ⟨h1, k1, k2, k3, k4, bf, bc, h2, h3, h4, h5, h6, h7⟩ := h; exact ⟨h1, k1, k2, k3, k4, bf, bc, h2, h3, h4.excl hk, h5, h6, h7⟩
  | copies3 dst r => intro f c h; obtain ⟨h1, k1, k2, h2, h3, h4⟩ := h; exact ⟨h1, k1, k2, h2, h3.excl hk, h4⟩
  | chmod l v => intro f c h; obtain ⟨h1, k1, k2, h2, h3, h4⟩ := h; exact ⟨h1, k1, k2, h2, h3.excl hk, h4⟩
  | ls1 v long l has => intro f c h; obtain ⟨h1, k1, k2, k3, k4, h2, h3, h4, h5, h6⟩ := h; exact ⟨h1, k1, k2, k3, k4, h2, h3, h4, h5.excl hk, h6⟩
  | ls2 l v has => intro f c h; obtain ⟨h1, k1, k2, k3, h2, h3, h4, h5⟩ := h; exact ⟨h1, k1, k2, k3, h2, h3.excl hk, h4, h5⟩
  | _ => exact fun h => h

/-- Behind the making of a block kr, this block is somebody else's. -/
theorem MOk.excl {B : Bd} {w w' : World} {b kr : Nat} {m : M} (h : MOk B w b m) (hn : New w w') (hk : w.heap.size ≤ kr) (hlt : kr < w'.heap.size) : MOk (B.with kr) w' b m := by
  have hf := (h.fresh hn).1
  obtain ⟨a, n, c, th, row, h0⟩ := h
  have hkeep : Keep (B.with kr) w w' := hn.keep _
  have hglob := h0.glob.keep (hn.keep B)
  have hcells : w'.heap[b]? = some (.cells (plainR (mcells m.prog m.status a n c (thnC th) m.call m.over)) 66 (0, 0)) := by rw [hn.block b (lt_of_block h0.cells)]; exact h0.cells
  refine ⟨a, n, c, th, row, h0.base, hcells, ?_, h0.todo.mono (fun x y hx => (hx.excl hk).keep hkeep), h0.len, ?_, ⟨hglob.le, fun k hx => (List.mem_cons.1 hx).elim (fun e => e ▸ hlt) (hglob.xs k), hglob.base⟩⟩
  · obtain ⟨h1, h2⟩ := h0.owns
    refine ⟨h1, ?_⟩
    rcases h2 with h2 | ⟨g, cap, cur, h3, h4, h5, h6⟩
    · exact .inl h2
    · exact .inr ⟨g, cap, cur, h3, h4, by rw [hn.block g (lt_of_block h5)]; exact h5, h6⟩
  · have ht := h0.thn
    cases ht1 : m.thn with
    | none => rw [ht1] at ht; cases th <;> simp only [ThnOk] at ht ⊢
    | some t =>
      rw [ht1] at ht
      cases th with
      | none => simp only [ThnOk] at ht
      | some p => simp only [ThnOk] at ht ⊢; exact (ht.excl hk).keep hkeep

theorem UOk.excl {B : Bd} {w w' : World} {ku b kr : Nat} {m : M} (h : UOk B w ku b m) (hn : New w w') (hk : w.heap.size ≤ kr) (hlt : kr < w'.heap.size) : UOk (B.with kr) w' ku b m :=
  ⟨h.1, h.2.1.keep (hn.keep B), h.2.2.excl hn hk hlt⟩

/-- A block of an answer that is somebody else's is written: the machine stays. -/
theorem MOk.side35 {B : Bd} {w w' : World} {b kr : Nat} {m : M} (hm : MOk B w b m) (hBk : B ≤ kr) (hx : kr ∈ B.x) {x : Array Value} (hkc : w.heap[kr]? = some (.cells x 35 (0, 0))) (ho : w'.os = w.os) (ht : w'.tape = w.tape) (hu : w'.output = w.output) (hsz : w.heap.size ≤ w'.heap.size)
    (hblk : ∀ k, k < w.heap.size → k ≠ kr → w'.heap[k]? = w.heap[k]?) : MOk B w' b m ∧ Keep B w w' ∧ (∀ k, Own w' b k → Own w b k) := by
  obtain ⟨a, n, c, th, row, h⟩ := hm
  have hkeep : Keep B w w' := ⟨ho, ht, hu, hsz, fun k hk hs => hblk k hk (fun e => by
    subst e
    rcases hs with hs | ⟨c', T, fr, h1, h2, h3, h4, h5⟩
    · omega
    · rw [hkc] at h1
      simp only [Option.some.injEq, Obj.cells.injEq] at h1
      exact h5 h1.2.1.symm hx)⟩
  have hbk : b ≠ kr := by
    rintro rfl
    rw [h.cells] at hkc
    simp only [Option.some.injEq, Obj.cells.injEq] at hkc
    exact absurd hkc.2.1 (by decide)
  have hcells : w'.heap[b]? = some (.cells (plainR (mcells m.prog m.status a n c (thnC th) m.call m.over)) 66 (0, 0)) := by rw [hblk b (lt_of_block h.cells) hbk]; exact h.cells
  refine ⟨⟨a, n, c, th, row, h.base, hcells, ?_, h.todo.mono (fun k x hx => hx.keep hkeep), h.len, thn_keep h.thn hkeep, h.glob.keep hkeep⟩, hkeep, fun k ho => ?_⟩
  · obtain ⟨h1, h2⟩ := h.owns
    refine ⟨h1, ?_⟩
    rcases h2 with h2 | ⟨g, cap, cur, h3, h4, h5, h6⟩
    · exact .inl h2
    · refine .inr ⟨g, cap, cur, h3, h4, ?_, h6⟩
      rw [hblk g (lt_of_block h5) (fun e => by
        subst e
        rw [hkc] at h5
        simp only [Option.some.injEq, Obj.cells.injEq] at h5
        exact absurd h5.2.1 (by decide))]
      exact h5
  · rcases ho with ho | ⟨n', c', ho⟩
    · exact .inl ho
    · exact .inr ⟨n', c', by rw [← World.cell?_of_block (a := ⟨b, 3, none⟩) (hblk b (lt_of_block h.cells) hbk)]; exact ho⟩

end Go.Proofs.YtoihipolfdhhnaaGreatDoor
