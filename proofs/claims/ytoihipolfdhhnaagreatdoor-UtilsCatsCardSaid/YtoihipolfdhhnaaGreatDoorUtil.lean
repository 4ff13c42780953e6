/-
  Util.Next.
-/
import Derived.Test.YtoihipolfdhhnaaGreatDoorNextC
namespace Go.Proofs.YtoihipolfdhhnaaGreatDoor

/-- A utility: the pointer to its machine. -/
def UOk (B : Bd) (w : World) (k b : Nat) (m : M) : Prop := B ≤ k ∧ Box w k 69 (bp b) ∧ MOk B w b m

/-- One call's block is written: the machine stays. -/
theorem MOk.side {B : Bd} {w w' : World} {b kr : Nat} {m : M} (hm : MOk B w b m) (hBk : B ≤ kr) {x : Array Value} (hkc : w.heap[kr]? = some (.cells x 39 (0, 0))) (ho : w'.os = w.os) (ht : w'.tape = w.tape) (hu : w'.output = w.output) (hsz : w.heap.size ≤ w'.heap.size)
    (hblk : ∀ k, k < w.heap.size → k ≠ kr → w'.heap[k]? = w.heap[k]?) : MOk B w' b m := by
  obtain ⟨a, n, c, th, row, h⟩ := hm
  have hkeep : Keep B w w' := ⟨ho, ht, hu, hsz, fun k hk hs => hblk k hk (fun e => by
    subst e
    rcases hs with hs | ⟨c', T, fr, h1, h2, h3, h4, _⟩
    · omega
    · rw [hkc] at h1; simp only [Option.some.injEq, Obj.cells.injEq] at h1; exact h4 h1.2.1.symm)⟩
  have hbk : b ≠ kr := by
    rintro rfl
    rw [h.cells] at hkc
    simp only [Option.some.injEq, Obj.cells.injEq] at hkc
    exact absurd hkc.2.1 (by decide)
  refine ⟨a, n, c, th, row, h.base, by rw [hblk b (lt_of_block h.cells) hbk]; exact h.cells, ?_, h.todo.mono (fun k x hx => hx.keep hkeep), h.len, thn_keep h.thn hkeep, h.glob.keep hkeep⟩
  obtain ⟨h1, h2⟩ := h.owns
  refine ⟨h1, ?_⟩
  rcases h2 with h2 | ⟨g, cap, cur, h3, h4, h5, h6⟩
  · exact .inl h2
  · refine .inr ⟨g, cap, cur, h3, h4, ?_, h6⟩
    rw [hblk g (lt_of_block h5) (fun e => by
      subst e
      rw [hkc] at h5
      simp only [Option.some.injEq, Obj.cells.injEq] at h5
      exact absurd h5.2.1 (by decide))]
    exact h5

/-- What Util.Next comes to. -/
def UNextR (B : Bd) (k b : Nat) (w : World) (m' : M) (e : Ending) (w' : World) : Prop :=
  e = .returned (.agg (plainR m'.call.cs)) ∧ UOk B w' k b m' ∧ Evo w b w'

theorem unext_calls {B : Bd} {w : World} {k b : Nat} {m : M} (hm : UOk B w k b m) (r : Res) (a : Option Addr) (n cp : Nat) (hr : StrsAt B w a n cp r.names) (N : Nat) (hok : okNext N m r) :
    Calls Tryz.prog 14 #[bp k, resV r a n cp] w (UNextR B k b w (next N m r)) := by
  obtain ⟨hBk, hbox, hm⟩ := hm
  refine enter (B := B) tab_ok [.e (.c (.rp ⟨k, 0, none⟩)), rsX r a n cp] [] [] 20 Tryz.func14 rfl rfl rfl (obs := []) (by kernel_rfl) trivial (fun a1 w1 hc1 => ?_)
  replace hc1 := hc1.pick [(0, .e (.c (.rp ⟨k, 0, none⟩))), (3, .e (.c (.p 0 0))), (4, .e (.c (.p 1 0)))] [⟨35, r.cs a n cp⟩, ⟨39, zc⟩] (by kernel_rfl) (by kernel_rfl)
  have hmem : Rel (env0 B w) [⟨35, r.cs a n cp⟩, ⟨39, zc⟩] { w1 with drawn := w1.drawn + 1 } := hc1.mem.drew _
  have hn1 := (Over.env w _).rel hmem
  obtain ⟨hm1, he1⟩ := hm.fresh hn1
  have hsee : Sees (env0 B w) [⟨35, r.cs a n cp⟩] { w1 with drawn := w1.drawn + 1 } := Sees.first (bs' := [⟨39, zc⟩]) hmem.sees
  refine gets_draw (S := Sees (env0 B w) [⟨35, r.cs a n cp⟩]) (by kernel_rfl) ?_
  refine dgets_take (fuel := 2) (l' := #[true, true, true, true, true, false, false]) tab_ok (by kernel_rfl) hsee [0, 1, 2, 3, 4] _
    { tl := [(0, .e (.c (.rp ⟨k, 0, none⟩))), (3, .e (.c (.p 0 0))), (4, .e (.c (.p 1 0)))], bs := [⟨35, r.cs a n cp⟩], ext := [.e (.c (.rp ⟨b, 0, none⟩))] }
    { tl := [(9, .e (.a (r.cs a n cp))), (8, .e (.c (.rp ⟨b, 0, none⟩))), (7, .e (.c (.rp ⟨k, 0, none⟩))), (6, .e (.c (.rp ⟨k, 0, none⟩))), (5, .e (.c (.rp ⟨k, 0, none⟩))), (0, .e (.c (.rp ⟨k, 0, none⟩))), (3, .e (.c (.p 0 0))), (4, .e (.c (.p 1 0)))], bs := [⟨35, r.cs a n cp⟩], ob := [fun ε => ε.ro ⟨k, 0, none⟩ = some (bp b)] } _
    (by kernel_rfl) rfl hc1.tl hc1.size (holds_of rfl ⟨Box.sro hbox, trivial⟩) (fun a2 h2 h3 h4 => ?_)
  refine dgets_call (i := 5) (c := ⟨25, [.c (.rp ⟨b, 0, none⟩), .a (r.cs a n cp)], [], #[]⟩) h2 (by kernel_rfl) (by kernel_rfl) (by kernel_rfl)
    (next_calls hm1 r a n cp (hr.keep (hn1.keep B)) N hok) (fun e w2 ⟨e1, e2, e3⟩ => ⟨_, e1, ?_, ?_⟩)
  · refine ⟨fun i nb hi => ?_, fun ad v hv => sro_keep ((hn1.keep B).trans (e3.keep hm1)) hv⟩
    have hty : nb.ty = 35 := by
      match i, hi with
      | 0, hi => cases hi; rfl
      | i + 1, hi => simp at hi
    exact (e3.keep hm1).cells (hsee.cells i nb hi) (by rw [hty]; decide) (by rw [hty]; decide) (by rw [hty]; decide) (fun _ => hm.notx (Nat.le_add_right _ _))
  have hkr1 : ({ w1 with drawn := w1.drawn + 1 } : World).heap[w.heap.size + 1]? = some (.cells (plainR zc) 39 (0, 0)) := by
    have := hmem.cells 1 _ rfl
    rw [map_plain _ rfl] at this
    exact this
  have hkr2 : w2.heap[w.heap.size + 1]? = some (.cells (plainR zc) 39 (0, 0)) := by
    obtain ⟨_, _, _, _, _, hM1⟩ := hm1
    rw [e3.block _ (lt_of_block hkr1) (hM1.notown hkr1 (by decide) (by decide))]
    exact hkr1
  generalize next N m r = m' at e2
  have hc2 : CRel (env w2 [w.heap.size + 1] noRo) Tryz.f14.ntmps { tl := [(10, .e (.a m'.call.cs)), (4, .e (.c (.p 0 0)))], bs := [⟨39, zc⟩] } (a2.put (some 10) (.agg (plainR m'.call.cs))) w2 := by
    refine ⟨fun d v hd => ?_, by rw [Act.put_size]; exact h3, by rw [Act.put_defers', h4]; exact hc1.defers, rel1 hkr2 rfl⟩
    simp only [lk] at hd
    split at hd
    · rename_i e; cases hd; subst e
      show (a2.tmps.setIfInBounds 10 _)[10]? = _
      rw [Array.getElem?_setIfInBounds_self_of_lt (by rw [h3]; decide)]
      rfl
    · split at hd
      · rename_i e; cases hd; subst e
        show (a2.tmps.setIfInBounds 10 _)[4]? = _
        rw [Array.getElem?_setIfInBounds_ne (by decide), h2 4 (.e (.c (.p 1 0))) (by kernel_rfl)]; rfl
      · cases hd
  refine dgets_op (i := 6) (r := none) (σ1 := { tl := [(10, .e (.a m'.call.cs)), (4, .e (.c (.p 0 0)))], bs := [⟨39, m'.call.cs⟩] }) (σ2 := { tl := [(10, .e (.a m'.call.cs)), (4, .e (.c (.p 0 0)))], bs := [⟨39, m'.call.cs⟩] })
    tab_ok hc2 (by kernel_rfl) rfl (by kernel_rfl) (by kernel_rfl) (by kernel_rfl) (fun p hp => by cases hp) (fun a3 w3 hc3 => ?_)
  have hsz3 : w2.heap.size ≤ w3.heap.size := by rw [hc3.mem.size]; exact Nat.le_add_right _ _
  have hblk3 : ∀ j, j < w2.heap.size → j ≠ w.heap.size + 1 → w3.heap[j]? = w2.heap[j]? := fun j hj hne => hc3.mem.keep j hj (fun i hi e => by
    have hi1 : i < 1 := hi
    have : i = 0 := by omega
    subst this
    exact hne e.symm)
  have hBw := hm.le
  have hm3 : MOk B w3 b m' := e2.side (by omega) hkr2 hc3.mem.os hc3.mem.tape hc3.mem.output hsz3 hblk3
  have he2 := he1.trans e3
  have he3 : Evo w b w3 := by
    refine ⟨hc3.mem.os.trans he2.os, hc3.mem.tape.trans he2.tape, hc3.mem.output.trans he2.output, Nat.le_trans he2.size hsz3, fun j hj ho => ?_, fun j ho => he2.fresh j ?_⟩
    · rw [hblk3 j (Nat.lt_of_lt_of_le hj he2.size) (by omega)]
      exact he2.block j hj ho
    · rcases ho with ho | ⟨n', c', ho⟩
      · exact .inl ho
      · refine .inr ⟨n', c', ?_⟩
        obtain ⟨_, _, _, _, _, hM2⟩ := e2
        have hne : b ≠ w.heap.size + 1 := by
          intro e
          have hh := hM2.cells
          rw [e, hkr2] at hh
          simp only [Option.some.injEq, Obj.cells.injEq] at hh
          exact absurd hh.2.1 (by decide)
        rw [← ho]
        exact (World.cell?_of_block (hblk3 b (lt_of_block hM2.cells) hne)).symm
  have hkp : Keep B w w3 := he3.keep hm
  refine ⟨⟨fun i nb hi => ?_, fun ad v hv => sro_keep hkp hv⟩, ?_⟩
  · match i, hi with
    | 0, hi =>
      cases hi
      have h10 := (e3.keep hm1).cells (hsee.cells 0 _ rfl) (by show (35 : Nat) ≠ 66; decide) (by show (35 : Nat) ≠ 84; decide) (by show (35 : Nat) ≠ 39; decide) (fun _ => hm.notx (Nat.le_refl _))
      rw [hblk3 _ (lt_of_block h10) (by show w.heap.size + (0 - 0) ≠ w.heap.size + 1; omega)]
      exact h10
    | i + 1, hi => simp at hi
  · refine dgets_done 0 (by kernel_rfl) ?_
    exact gets_fin tab_ok (l := [.a m'.call.cs]) hc3 Tryz.func14 (by kernel_rfl) (by kernel_rfl) ⟨rfl, ⟨hBk, hbox.keep hkp, hm3⟩, he3⟩

end Go.Proofs.YtoihipolfdhhnaaGreatDoor
