/-
  The contracts of the functions that say, complain, try.
-/
import Derived.Test.YtoihipolfdhhnaaGreatDoorSteps
namespace Go.Proofs.YtoihipolfdhhnaaGreatDoor

/-- The machine stays where only new blocks have come. -/
theorem MOk.new {B : Bd} {w w' : World} {b : Nat} {m : M} {bs : List NB} {ro : Addr → Option Value} (hm : MOk B w b m) (hrel : Rel (env w [] ro) bs w') : MOk B w' b m ∧ Evo w b w' := by
  have hall : ∀ k, k < w.heap.size → w'.heap[k]? = w.heap[k]? := fun k hk => hrel.keep k hk (fun i hi => by simp [env] at hi)
  have hm0 := hm
  obtain ⟨a, n, c, th, row, hm⟩ := hm
  have hcell : w'.cell? ⟨b, 3, none⟩ = w.cell? ⟨b, 3, none⟩ := World.cell?_of_block (hall b (lt_of_block hm.cells))
  have hevo : Evo w b w' := by
    refine ⟨hrel.os, hrel.tape, hrel.output, by rw [hrel.size]; exact Nat.le_add_right _ _, fun k hk _ => hall k hk, fun k ho => ?_⟩
    rcases ho with ho | ⟨n', c', ho⟩
    · exact .inl (.inl ho)
    · exact .inl (.inr ⟨n', c', by rw [← hcell]; exact ho⟩)
  have hkeep := hevo.keep hm0
  refine ⟨⟨a, n, c, th, row, hm.base, ?_, ?_, hm.todo.mono (fun x y hx => hx.keep hkeep), hm.len, thn_keep hm.thn hkeep, hm.glob.keep hkeep⟩, hevo⟩
  · rw [hall b (lt_of_block hm.cells)]; exact hm.cells
  · obtain ⟨h1, h2⟩ := hm.owns
    refine ⟨h1, ?_⟩
    rcases h2 with h2 | ⟨g, cap, cur, h3, h4, h5, h6⟩
    · exact .inl h2
    · exact .inr ⟨g, cap, cur, h3, h4, by rw [hall g (lt_of_block h5)]; exact h5, h6⟩

/-- A new box. -/
theorem box_of {ε : Env} {bs : List NB} {w : World} (h : Rel ε bs w) {i k : Nat} {T : TypeId} {x : C} {v : Value} (hi : bs[i]? = some ⟨T, [x]⟩) (hk : ε.ρ i = k) (hv : x.real ε.ρ = v) : Box w k T v := by
  have := h.cells i _ hi
  rw [hk] at this
  simp only [List.map_cons, List.map_nil, hv] at this
  exact this

theorem rel_nil (w : World) (ro : Addr → Option Value) (hro : ∀ a v, ro a = some v → w.cell? a = some v) : Rel (env w [] ro) [] w :=
  rel_start rfl (fun i j k hi => by simp at hi) (fun i nb k hi => by simp at hi) (fun a v h => ⟨hro a v h, by simp⟩)

theorem Does.evo {B : Bd} {b : Nat} {w w1 : World} {m : M} {e : Ending} {w' : World} (h : Evo w b w1) (hd : Does B b w1 m e w') : Does B b w m e w' := ⟨hd.1, hd.2.1, h.trans hd.2.2⟩

/-- Say, of a text that is not empty. -/
theorem say_calls {B : Bd} {w : World} {b : Nat} {m : M} (hm : MOk B w b m) (fd : Int) (text : ByteArray) (ht : (text.toList == []) = false) (t : Fn) (f : FuncId) (c : Array Value) (hk : RepF B w t f c) :
    Calls Tryz.prog 72 #[bp b, .int .i64 fd, .string text, .func (.func f) #[] c] w (Does B b w (m.say fd text t)) := by
  refine calls_exec [.e (.c (.rp ⟨b, 0, none⟩)), .e (.c (.int .i64 fd)), .e (.c (.str text)), .e (.c (.fv f c))] [] [] noRo Tryz.func72 rfl rfl rfl (rel_nil w noRo (fun _ _ h => by cases h)) ?_
  intro a0 hc
  replace hc : CRel (env w [] noRo) Tryz.f72.ntmps { tl := tlOf 0 [.e (.c (.rp ⟨b, 0, none⟩)), .e (.c (.int .i64 fd)), .e (.c (.str text)), .e (.c (.fv f c))], bs := [], orc := [false] } a0 w := ⟨hc.tl, hc.size, hc.defers, hc.mem⟩
  refine gets_run tab_ok 40 hc (holds_of (obs := [fun _ => (text.toList == []) = false]) (by kernel_rfl) ⟨ht, trivial⟩) (fun a1 w1 hc1 => ?_)
  replace hc1 := hc1.pick [(13, .e (.c (.rp ⟨b, 0, none⟩))), (16, .e (.a ({ op := 5, fd := fd, text := text } : CallD).cs)), (17, .e (.c (.f 125 [.n 1 0, .n 2 0, .n 0 0])))] [⟨3, [.int .i64 fd]⟩, ⟨9, [.str text]⟩, ⟨67, [.fv f c]⟩] (by kernel_rfl) (by kernel_rfl)
  obtain ⟨hm1, he1⟩ := hm.new hc1.mem
  refine gets_tail (fun w' => MOk B w' b (m.say fd text t) ∧ Evo w1 b w') (c := ⟨69, [.c (.rp ⟨b, 0, none⟩), .a ({ op := 5, fd := fd, text := text } : CallD).cs, .c (.f 125 [.n 1 0, .n 2 0, .n 0 0])], [], #[]⟩) hc1 (by kernel_rfl) (by kernel_rfl) ?_ Tryz.func72 rfl (by kernel_rfl) (fun w' h => ⟨rfl, h.1, he1.trans h.2⟩)
  exact sys_calls hm1 _ (.say fd text t) 125 _ ⟨rfl, w.heap.size + 1, w.heap.size + 2, w.heap.size, f, c, rfl, box_of hc1.mem (i := 1) rfl rfl rfl, box_of hc1.mem (i := 2) rfl rfl rfl, hk.keep (he1.keep hm), box_of hc1.mem (i := 0) rfl rfl rfl⟩

end Go.Proofs.YtoihipolfdhhnaaGreatDoor
