/-
  Next: the function.
-/
import Derived.Test.YtoihipolfdhhnaaGreatDoorNextB
namespace Go.Proofs.YtoihipolfdhhnaaGreatDoor

/-- What Next needs: of what follows, and of the steps. -/
def okNext (N : Nat) (m : M) (r : Res) : Prop :=
  m.over = true ∨ (match m.thn with
    | some t => okR t r { m with thn := none } ∧ okTurn N (runR t r { m with thn := none })
    | none => okTurn N m)

theorem next_calls {B : Bd} {w : World} {b : Nat} {m : M} (hm : MOk B w b m) (r : Res) (a : Option Addr) (n cp : Nat) (hr : StrsAt B w a n cp r.names) (N : Nat) (hok : okNext N m r) :
    Calls Tryz.prog 25 #[bp b, resV r a n cp] w (NextR B b w (next N m r)) := by
  have hm0 := hm
  obtain ⟨ap, nn, c, th, row, hM⟩ := hm
  obtain ⟨prog, status, todo, thn, call, over⟩ := m
  have hbl := lt_of_block hM.cells
  have hB := hM.base
  refine calls_exec [.e (.c (.p 0 0)), rsX r a n cp] [b] [⟨66, mcells prog status ap nn c (thnC th) call over⟩] noRo Tryz.func25 rfl rfl rfl (hM.rel noRo (fun _ _ h => by cases h)) ?_
  intro a0 hc
  have hthn := hM.thn
  cases over with
  | true =>
    have hfin : ∀ (th : Option (FuncId × Array Value)), (run Tab Tryz.f25.ntmps 60 (code Tryz.f25) { tl := tlOf 0 [.e (.c (.p 0 0)), rsX r a n cp], bs := [⟨66, mcells prog status ap nn c (thnC th) call true⟩] }).2.ob = [] := fun th => by cases th <;> kernel_rfl
    have hbs : (run Tab Tryz.f25.ntmps 60 (code Tryz.f25) { tl := tlOf 0 [.e (.c (.p 0 0)), rsX r a n cp], bs := [⟨66, mcells prog status ap nn c (thnC th) call true⟩] }).2.bs = [⟨66, mcells prog status ap nn c (thnC th) call true⟩, ⟨35, r.cs a n cp⟩, ⟨39, call.cs⟩] := by cases th <;> kernel_rfl
    refine gets_run tab_ok 60 hc (holds_of (hfin th) trivial) (fun a1 w1 hc1 => ?_)
    have hr1 := hc1.mem.bs hbs
    obtain ⟨h1, h2⟩ := hM.after (m' := ⟨prog, status, todo, thn, call, true⟩) (th' := th) hr1 rfl rfl (thn_keep hM.thn ((evo_of_rel (m' := ⟨prog, status, todo, thn, call, true⟩) hM hr1 rfl).keep hm0))
    refine gets_fin tab_ok (l := [.a call.cs]) hc1 Tryz.func25 (by cases th <;> kernel_rfl) (by cases th <;> kernel_rfl) ⟨rfl, ?_, h2⟩
    exact h1
  | false =>
  cases thn with
  | none =>
    cases th with
    | some x => exact hthn.elim
    | none =>
    have hok' : okTurn N ⟨prog, status, todo, none, call, false⟩ := by
      rcases hok with h | h
      · cases h
      · exact h
    refine gets_run tab_ok 60 hc (holds_of (obs := []) (by kernel_rfl) trivial) (fun a1 w1 hc1 => ?_)
    have hr1 := hc1.mem.bs (bs' := [⟨66, mcells prog status ap nn c (thnC none) call false⟩, ⟨35, r.cs a n cp⟩, ⟨39, zc⟩]) (by kernel_rfl)
    obtain ⟨h1, h2⟩ := hM.after (m' := ⟨prog, status, todo, none, call, false⟩) (th' := none) hr1 rfl rfl trivial
    refine gets_loop (k' := nextHead) (by kernel_rfl) (head_loop (kr := w.heap.size + 1) N ⟨prog, status, todo, none, call, false⟩ w1 a1 ⟨hc1.size, hc1.defers, hc1.tl 0 (.e (.c (.p 0 0))) (by kernel_rfl), hc1.tl 4 (.e (.c (.p 2 0))) (by kernel_rfl), h1, ?_, h2, by omega, by omega⟩ hok')
    have := hr1.cells 2 _ rfl
    rw [map_plain _ rfl] at this
    exact this
  | some t =>
    cases th with
    | none => exact hthn.elim
    | some x =>
    obtain ⟨f, fc⟩ := x
    have hk : RepR B w t f fc := hthn
    have hok' : okR t r ⟨prog, status, todo, none, call, false⟩ ∧ okTurn N (runR t r ⟨prog, status, todo, none, call, false⟩) := by
      rcases hok with h | h
      · cases h
      · exact h
    refine gets_run tab_ok 60 hc (holds_of (obs := []) (by kernel_rfl) trivial) (fun a1 w1 hc1 => ?_)
    have hr1 := hc1.mem.bs (bs' := [⟨66, mcells prog status ap nn c (thnC none) call false⟩, ⟨35, r.cs a n cp⟩, ⟨39, zc⟩]) (by kernel_rfl)
    obtain ⟨h1, h2⟩ := hM.after (m' := ⟨prog, status, todo, none, call, false⟩) (th' := none) hr1 rfl rfl trivial
    have hk1 := h2.keep hm0
    have hRc := R_calls r a n cp t h1 f fc (hk.keep hk1) (hr.keep hk1) hok'.1
    refine gets_call (c := ⟨f, [.c (.p 0 0), .a (r.cs a n cp)], [], fc⟩) hc1 (by kernel_rfl) hk.enters (S := Does B b w1 (runR t r ⟨prog, status, todo, none, call, false⟩)) (by rw [callX_fv]; exact hRc) (fun e w2 ⟨e1, e2, e3⟩ => ⟨_, e1, ?_⟩)
    have hdst : dstX (run Tab Tryz.f25.ntmps 60 (code Tryz.f25) { tl := tlOf 0 [.e (.c (.p 0 0)), rsX r a n cp], bs := [⟨66, mcells prog status ap nn c (thnC (some (f, fc))) call false⟩] }).1 = some 28 := by kernel_rfl
    have hnx : next N ⟨prog, status, todo, some t, call, false⟩ r = turn N (runR t r ⟨prog, status, todo, none, call, false⟩) := rfl
    rw [hnx]
    replace hok' := hok'.2
    generalize runR t r ⟨prog, status, todo, none, call, false⟩ = m2 at e2 hok'
    have hkr1 : w1.heap[w.heap.size + 1]? = some (.cells (plainR zc) 39 (0, 0)) := by
      have := hr1.cells 2 _ rfl
      rw [map_plain _ rfl] at this
      exact this
    have hkr2 : w2.heap[w.heap.size + 1]? = some (.cells (plainR zc) 39 (0, 0)) := by
      obtain ⟨_, _, _, _, _, hM1⟩ := h1
      rw [e3.block _ (lt_of_block hkr1) (hM1.notown hkr1 (by decide) (by decide))]
      exact hkr1
    have hH : Head B b (w.heap.size + 1) w m2 w2 (a1.put (some 28) (.tuple #[])) := by
      refine ⟨by rw [Act.put_size]; exact hc1.size, by rw [Act.put_defers']; exact hc1.defers, ?_, ?_, e2, hkr2, h2.trans e3, by omega, by omega⟩
      · show (a1.tmps.setIfInBounds 28 _)[0]? = _
        rw [Array.getElem?_setIfInBounds_ne (by decide), hc1.tl 0 (.e (.c (.p 0 0))) (by kernel_rfl)]; rfl
      · show (a1.tmps.setIfInBounds 28 _)[4]? = _
        rw [Array.getElem?_setIfInBounds_ne (by decide), hc1.tl 4 (.e (.c (.p 2 0))) (by kernel_rfl)]; rfl
    rw [hdst]
    obtain ⟨ap2, n2, c2, th2, row2, hM2⟩ := e2
    refine gets_run tab_ok 20 (hH.crel hM2 [] []) (holds_of (obs := []) (by kernel_rfl) trivial) (fun a3 w3 hc3 => ?_)
    have hr3 := hc3.mem.bs (bs' := [⟨66, mcells m2.prog m2.status ap2 n2 c2 (thnC th2) m2.call m2.over⟩, ⟨39, zc⟩]) (by kernel_rfl)
    obtain ⟨g1, g2, _⟩ := after2 (m' := m2) (th' := th2) (row' := row2) (ex := []) hM2 hH.evo hH.new hH.base hH.blk hr3 rfl (by simp) hM2.len hM2.todo (fun w2 hk => thn_keep hM2.thn hk)
    refine gets_loop (k' := nextHead) (by kernel_rfl) (head_loop (kr := w.heap.size + 1) N m2 w3 a3 ⟨hc3.size, hc3.defers, hc3.tl 0 (.e (.c (.p 0 0))) (by kernel_rfl), hc3.tl 4 (.e (.c (.p 1 0))) (by kernel_rfl), ⟨_, _, _, _, _, g1⟩, ?_, g2, by omega, by omega⟩ hok')
    have := hr3.cells 1 _ rfl
    rw [map_plain _ rfl] at this
    exact this

end Go.Proofs.YtoihipolfdhhnaaGreatDoor
