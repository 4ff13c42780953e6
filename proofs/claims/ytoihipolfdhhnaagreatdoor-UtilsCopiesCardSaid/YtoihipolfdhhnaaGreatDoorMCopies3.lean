/-
  Part 3 of the proof: Names, New, NewB, LawA, LawB, ShownA, ShownB, Digits, Excl, LawC, CatsA, CatsB, CopyA, CatsC, CatsD, CopyB.
-/
import Derived.Laws.IdiomStrings
import Derived.Laws.Entries
import Derived.Lib.ItoaNum
import Derived.Test.YtoihipolfdhhnaaGreatDoorMCopies2

namespace Go.Proofs.YtoihipolfdhhnaaGreatDoor

/-- The program of a name. -/
def progOf (s : ByteArray) : Option Dp :=
  if (s.toList == [116, 114, 117, 101]) = true then some .tru else
  if (s.toList == [102, 97, 108, 115, 101]) = true then some .fls else
  if (s.toList == [105, 100]) = true then some .id else
  if (s.toList == [119, 104, 111]) = true then some .who else
  if (s.toList == [99, 97, 116]) = true then some .cat else
  if (s.toList == [109, 107, 100, 105, 114]) = true then some .mkdir else
  if (s.toList == [114, 109, 100, 105, 114]) = true then some .rmdir else
  if (s.toList == [114, 109]) = true then some .rm else
  if (s.toList == [108, 110]) = true then some .ln else
  if (s.toList == [109, 118]) = true then some .mv else
  if (s.toList == [99, 112]) = true then some .cp else
  if (s.toList == [99, 104, 109, 111, 100]) = true then some .chmod else
  if (s.toList == [99, 104, 111, 119, 110]) = true then some .chown else
  if (s.toList == [108, 115]) = true then some .ls else
  none

/-- A program as a value. -/
def DV (w : World) : Option Dp → Value → Prop
  | none, v => v = .nilFunc
  | some d, v => ∃ f c, v = .func (.func f) #[] c ∧ RepD w d f c

def GivesD (s : ByteArray) (w : World) (e : Ending) (w' : World) : Prop := ∃ v, e = .returned v ∧ New w w' ∧ DV w' (progOf s) v

theorem simple_calls {B : Bd} (w : World) (f : FuncId) (c : Array Value) : Calls Tryz.prog 43 #[.func (.func f) #[] c] w (Gives (.func (.func 83) #[] #[bp w.heap.size]) (fun w' => Box w' w.heap.size 79 (.func (.func f) #[] c)) w) :=
  gives_end (B := B) [.e (.c (.fv f c))] [] [] 40 [⟨79, [.fv f c]⟩] (obs := []) Tryz.func43 rfl rfl rfl (by kernel_rfl) (by kernel_rfl) (by kernel_rfl) (l := [.c (.f 83 [.n 0 0])]) (by kernel_rfl) trivial rfl (fun w1 hr1 => box_of hr1 (i := 0) rfl rfl rfl)

theorem places_calls {B : Bd} (w : World) (f : FuncId) (c : Array Value) : Calls Tryz.prog 47 #[.func (.func f) #[] c] w (Gives (.func (.func 91) #[] #[bp w.heap.size]) (fun w' => Box w' w.heap.size 81 (.func (.func f) #[] c)) w) :=
  gives_end (B := B) [.e (.c (.fv f c))] [] [] 40 [⟨81, [.fv f c]⟩] (obs := []) Tryz.func47 rfl rfl rfl (by kernel_rfl) (by kernel_rfl) (by kernel_rfl) (l := [.c (.f 91 [.n 0 0])]) (by kernel_rfl) trivial rfl (fun w1 hr1 => box_of hr1 (i := 0) rfl rfl rfl)

theorem renames_calls {B : Bd} (w : World) (n : Int) : Calls Tryz.prog 48 #[.int .i64 n] w (Gives (.func (.func 96) #[] #[bp w.heap.size]) (fun w' => IntBox w' w.heap.size n) w) :=
  gives_end (B := B) [.e (.c (.int .i64 n))] [] [] 40 [⟨3, [.int .i64 n]⟩] (obs := []) Tryz.func48 rfl rfl rfl (by kernel_rfl) (by kernel_rfl) (by kernel_rfl) (l := [.c (.f 96 [.n 0 0])]) (by kernel_rfl) trivial rfl (fun w1 hr1 => box_of hr1 (i := 0) rfl rfl rfl)

theorem programs_calls {B : Bd} (w : World) (s : ByteArray) : Calls Tryz.prog 19 #[.string s] w (GivesD s w) := by
  have hx : ∀ l : List UInt8, (ByteArray.mk l.toArray).toList = l := fun l => by rw [ByteArray.toList_eq]
  by_cases h0 : (s.toList == [116, 114, 117, 101]) = true
  · have o0 : (s.toList == (⟨#[116, 114, 117, 101]⟩ : ByteArray).toList) = true := by rw [hx [116, 114, 117, 101]]; exact h0
    have hp : progOf s = some .tru := by simp only [progOf, if_pos h0]
    refine Calls.mono (gives_end (B := B) [.e (.c (.str s))] [true] [] 200 [] (obs := [fun _ => (s.toList == (⟨#[116, 114, 117, 101]⟩ : ByteArray).toList) = true]) (Q := fun _ => True) Tryz.func19 rfl rfl rfl (by kernel_rfl) (by kernel_rfl) (by kernel_rfl) (l := [.c (.f 38 [])]) (by kernel_rfl) ⟨o0, trivial⟩ rfl (fun _ _ => trivial)) (fun e w' ⟨e1, e2, _⟩ => ⟨_, e1, e2, ?_⟩)
    rw [hp]
    exact ⟨38, #[], rfl, rfl, rfl⟩
  have o0 : (s.toList == (⟨#[116, 114, 117, 101]⟩ : ByteArray).toList) = false := by rw [hx [116, 114, 117, 101]]; simpa using h0
  by_cases h1 : (s.toList == [102, 97, 108, 115, 101]) = true
  · have o1 : (s.toList == (⟨#[102, 97, 108, 115, 101]⟩ : ByteArray).toList) = true := by rw [hx [102, 97, 108, 115, 101]]; exact h1
    have hp : progOf s = some .fls := by simp only [progOf, if_neg h0, if_pos h1]
    refine Calls.mono (gives_end (B := B) [.e (.c (.str s))] [false, true] [] 200 [] (obs := [fun _ => (s.toList == (⟨#[116, 114, 117, 101]⟩ : ByteArray).toList) = false, fun _ => (s.toList == (⟨#[102, 97, 108, 115, 101]⟩ : ByteArray).toList) = true]) (Q := fun _ => True) Tryz.func19 rfl rfl rfl (by kernel_rfl) (by kernel_rfl) (by kernel_rfl) (l := [.c (.f 39 [])]) (by kernel_rfl) ⟨o0, o1, trivial⟩ rfl (fun _ _ => trivial)) (fun e w' ⟨e1, e2, _⟩ => ⟨_, e1, e2, ?_⟩)
    rw [hp]
    exact ⟨39, #[], rfl, rfl, rfl⟩
  have o1 : (s.toList == (⟨#[102, 97, 108, 115, 101]⟩ : ByteArray).toList) = false := by rw [hx [102, 97, 108, 115, 101]]; simpa using h1
  by_cases h2 : (s.toList == [105, 100]) = true
  · have o2 : (s.toList == (⟨#[105, 100]⟩ : ByteArray).toList) = true := by rw [hx [105, 100]]; exact h2
    have hp : progOf s = some .id := by simp only [progOf, if_neg h0, if_neg h1, if_pos h2]
    refine Calls.mono (gives_end (B := B) [.e (.c (.str s))] [false, false, true] [] 200 [] (obs := [fun _ => (s.toList == (⟨#[116, 114, 117, 101]⟩ : ByteArray).toList) = false, fun _ => (s.toList == (⟨#[102, 97, 108, 115, 101]⟩ : ByteArray).toList) = false, fun _ => (s.toList == (⟨#[105, 100]⟩ : ByteArray).toList) = true]) (Q := fun _ => True) Tryz.func19 rfl rfl rfl (by kernel_rfl) (by kernel_rfl) (by kernel_rfl) (l := [.c (.f 40 [])]) (by kernel_rfl) ⟨o0, o1, o2, trivial⟩ rfl (fun _ _ => trivial)) (fun e w' ⟨e1, e2, _⟩ => ⟨_, e1, e2, ?_⟩)
    rw [hp]
    exact ⟨40, #[], rfl, rfl, rfl⟩
  have o2 : (s.toList == (⟨#[105, 100]⟩ : ByteArray).toList) = false := by rw [hx [105, 100]]; simpa using h2
  by_cases h3 : (s.toList == [119, 104, 111]) = true
  · have o3 : (s.toList == (⟨#[119, 104, 111]⟩ : ByteArray).toList) = true := by rw [hx [119, 104, 111]]; exact h3
    have hp : progOf s = some .who := by simp only [progOf, if_neg h0, if_neg h1, if_neg h2, if_pos h3]
    refine Calls.mono (gives_end (B := B) [.e (.c (.str s))] [false, false, false, true] [] 200 [] (obs := [fun _ => (s.toList == (⟨#[116, 114, 117, 101]⟩ : ByteArray).toList) = false, fun _ => (s.toList == (⟨#[102, 97, 108, 115, 101]⟩ : ByteArray).toList) = false, fun _ => (s.toList == (⟨#[105, 100]⟩ : ByteArray).toList) = false, fun _ => (s.toList == (⟨#[119, 104, 111]⟩ : ByteArray).toList) = true]) (Q := fun _ => True) Tryz.func19 rfl rfl rfl (by kernel_rfl) (by kernel_rfl) (by kernel_rfl) (l := [.c (.f 41 [])]) (by kernel_rfl) ⟨o0, o1, o2, o3, trivial⟩ rfl (fun _ _ => trivial)) (fun e w' ⟨e1, e2, _⟩ => ⟨_, e1, e2, ?_⟩)
    rw [hp]
    exact ⟨41, #[], rfl, rfl, rfl⟩
  have o3 : (s.toList == (⟨#[119, 104, 111]⟩ : ByteArray).toList) = false := by rw [hx [119, 104, 111]]; simpa using h3
  by_cases h4 : (s.toList == [99, 97, 116]) = true
  · have o4 : (s.toList == (⟨#[99, 97, 116]⟩ : ByteArray).toList) = true := by rw [hx [99, 97, 116]]; exact h4
    have hp : progOf s = some .cat := by simp only [progOf, if_neg h0, if_neg h1, if_neg h2, if_neg h3, if_pos h4]
    refine Calls.mono (gives_end (B := B) [.e (.c (.str s))] [false, false, false, false, true] [] 200 [] (obs := [fun _ => (s.toList == (⟨#[116, 114, 117, 101]⟩ : ByteArray).toList) = false, fun _ => (s.toList == (⟨#[102, 97, 108, 115, 101]⟩ : ByteArray).toList) = false, fun _ => (s.toList == (⟨#[105, 100]⟩ : ByteArray).toList) = false, fun _ => (s.toList == (⟨#[119, 104, 111]⟩ : ByteArray).toList) = false, fun _ => (s.toList == (⟨#[99, 97, 116]⟩ : ByteArray).toList) = true]) (Q := fun _ => True) Tryz.func19 rfl rfl rfl (by kernel_rfl) (by kernel_rfl) (by kernel_rfl) (l := [.c (.f 42 [])]) (by kernel_rfl) ⟨o0, o1, o2, o3, o4, trivial⟩ rfl (fun _ _ => trivial)) (fun e w' ⟨e1, e2, _⟩ => ⟨_, e1, e2, ?_⟩)
    rw [hp]
    exact ⟨42, #[], rfl, rfl, rfl⟩
  have o4 : (s.toList == (⟨#[99, 97, 116]⟩ : ByteArray).toList) = false := by rw [hx [99, 97, 116]]; simpa using h4
  by_cases h5 : (s.toList == [109, 107, 100, 105, 114]) = true
  · have o5 : (s.toList == (⟨#[109, 107, 100, 105, 114]⟩ : ByteArray).toList) = true := by rw [hx [109, 107, 100, 105, 114]]; exact h5
    have hp : progOf s = some .mkdir := by simp only [progOf, if_neg h0, if_neg h1, if_neg h2, if_neg h3, if_neg h4, if_pos h5]
    refine enter (B := B) tab_ok [.e (.c (.str s))] [false, false, false, false, false, true] [] 200 Tryz.func19 rfl rfl rfl (obs := [fun _ => (s.toList == (⟨#[116, 114, 117, 101]⟩ : ByteArray).toList) = false, fun _ => (s.toList == (⟨#[102, 97, 108, 115, 101]⟩ : ByteArray).toList) = false, fun _ => (s.toList == (⟨#[105, 100]⟩ : ByteArray).toList) = false, fun _ => (s.toList == (⟨#[119, 104, 111]⟩ : ByteArray).toList) = false, fun _ => (s.toList == (⟨#[99, 97, 116]⟩ : ByteArray).toList) = false, fun _ => (s.toList == (⟨#[109, 107, 100, 105, 114]⟩ : ByteArray).toList) = true]) (by kernel_rfl) ⟨o0, o1, o2, o3, o4, o5, trivial⟩ (fun a1 w1 hc1 => ?_)
    have hn1 := (Over.env w _).rel hc1.mem
    refine gets_pure (c := ⟨43, [.c (.f 44 [])], [], #[]⟩) 16 (.e (.c (.fv 83 #[bp w1.heap.size]))) [] [] hc1 (by kernel_rfl) (by kernel_rfl) (by kernel_rfl) (by kernel_rfl) (simple_calls (B := B) w1 44 #[]) (by kernel_rfl) (by kernel_rfl) (fun a2 w2 hn2 hq2 hc2 => ?_)
    have hr2 := hc2.mem.bs (bs' := []) (by kernel_rfl)
    refine gets_run tab_ok 50 hc2 (holds_of (obs := []) (by kernel_rfl) trivial) (fun a3 w3 hc3 => ?_)
    have hn3 := hr2.same (hc3.mem.bs (bs' := []) (by kernel_rfl))
    refine gets_fin tab_ok (l := [.c (.fv 83 #[bp w1.heap.size])]) hc3 Tryz.func19 (by kernel_rfl) (by kernel_rfl) ⟨_, rfl, (hn1.trans hn2).trans hn3, ?_⟩
    rw [hp]
    exact ⟨83, _, rfl, rfl, _, rfl, Box.keep hq2 (hn3.keep B)⟩
  have o5 : (s.toList == (⟨#[109, 107, 100, 105, 114]⟩ : ByteArray).toList) = false := by rw [hx [109, 107, 100, 105, 114]]; simpa using h5
  by_cases h6 : (s.toList == [114, 109, 100, 105, 114]) = true
  · have o6 : (s.toList == (⟨#[114, 109, 100, 105, 114]⟩ : ByteArray).toList) = true := by rw [hx [114, 109, 100, 105, 114]]; exact h6
    have hp : progOf s = some .rmdir := by simp only [progOf, if_neg h0, if_neg h1, if_neg h2, if_neg h3, if_neg h4, if_neg h5, if_pos h6]
    refine enter (B := B) tab_ok [.e (.c (.str s))] [false, false, false, false, false, false, true] [] 200 Tryz.func19 rfl rfl rfl (obs := [fun _ => (s.toList == (⟨#[116, 114, 117, 101]⟩ : ByteArray).toList) = false, fun _ => (s.toList == (⟨#[102, 97, 108, 115, 101]⟩ : ByteArray).toList) = false, fun _ => (s.toList == (⟨#[105, 100]⟩ : ByteArray).toList) = false, fun _ => (s.toList == (⟨#[119, 104, 111]⟩ : ByteArray).toList) = false, fun _ => (s.toList == (⟨#[99, 97, 116]⟩ : ByteArray).toList) = false, fun _ => (s.toList == (⟨#[109, 107, 100, 105, 114]⟩ : ByteArray).toList) = false, fun _ => (s.toList == (⟨#[114, 109, 100, 105, 114]⟩ : ByteArray).toList) = true]) (by kernel_rfl) ⟨o0, o1, o2, o3, o4, o5, o6, trivial⟩ (fun a1 w1 hc1 => ?_)
    have hn1 := (Over.env w _).rel hc1.mem
    refine gets_pure (c := ⟨43, [.c (.f 45 [])], [], #[]⟩) 19 (.e (.c (.fv 83 #[bp w1.heap.size]))) [] [] hc1 (by kernel_rfl) (by kernel_rfl) (by kernel_rfl) (by kernel_rfl) (simple_calls (B := B) w1 45 #[]) (by kernel_rfl) (by kernel_rfl) (fun a2 w2 hn2 hq2 hc2 => ?_)
    have hr2 := hc2.mem.bs (bs' := []) (by kernel_rfl)
    refine gets_run tab_ok 50 hc2 (holds_of (obs := []) (by kernel_rfl) trivial) (fun a3 w3 hc3 => ?_)
    have hn3 := hr2.same (hc3.mem.bs (bs' := []) (by kernel_rfl))
    refine gets_fin tab_ok (l := [.c (.fv 83 #[bp w1.heap.size])]) hc3 Tryz.func19 (by kernel_rfl) (by kernel_rfl) ⟨_, rfl, (hn1.trans hn2).trans hn3, ?_⟩
    rw [hp]
    exact ⟨83, _, rfl, rfl, _, rfl, Box.keep hq2 (hn3.keep B)⟩
  have o6 : (s.toList == (⟨#[114, 109, 100, 105, 114]⟩ : ByteArray).toList) = false := by rw [hx [114, 109, 100, 105, 114]]; simpa using h6
  by_cases h7 : (s.toList == [114, 109]) = true
  · have o7 : (s.toList == (⟨#[114, 109]⟩ : ByteArray).toList) = true := by rw [hx [114, 109]]; exact h7
    have hp : progOf s = some .rm := by simp only [progOf, if_neg h0, if_neg h1, if_neg h2, if_neg h3, if_neg h4, if_neg h5, if_neg h6, if_pos h7]
    refine Calls.mono (gives_end (B := B) [.e (.c (.str s))] [false, false, false, false, false, false, false, true] [] 200 [] (obs := [fun _ => (s.toList == (⟨#[116, 114, 117, 101]⟩ : ByteArray).toList) = false, fun _ => (s.toList == (⟨#[102, 97, 108, 115, 101]⟩ : ByteArray).toList) = false, fun _ => (s.toList == (⟨#[105, 100]⟩ : ByteArray).toList) = false, fun _ => (s.toList == (⟨#[119, 104, 111]⟩ : ByteArray).toList) = false, fun _ => (s.toList == (⟨#[99, 97, 116]⟩ : ByteArray).toList) = false, fun _ => (s.toList == (⟨#[109, 107, 100, 105, 114]⟩ : ByteArray).toList) = false, fun _ => (s.toList == (⟨#[114, 109, 100, 105, 114]⟩ : ByteArray).toList) = false, fun _ => (s.toList == (⟨#[114, 109]⟩ : ByteArray).toList) = true]) (Q := fun _ => True) Tryz.func19 rfl rfl rfl (by kernel_rfl) (by kernel_rfl) (by kernel_rfl) (l := [.c (.f 46 [])]) (by kernel_rfl) ⟨o0, o1, o2, o3, o4, o5, o6, o7, trivial⟩ rfl (fun _ _ => trivial)) (fun e w' ⟨e1, e2, _⟩ => ⟨_, e1, e2, ?_⟩)
    rw [hp]
    exact ⟨46, #[], rfl, rfl, rfl⟩
  have o7 : (s.toList == (⟨#[114, 109]⟩ : ByteArray).toList) = false := by rw [hx [114, 109]]; simpa using h7
  by_cases h8 : (s.toList == [108, 110]) = true
  · have o8 : (s.toList == (⟨#[108, 110]⟩ : ByteArray).toList) = true := by rw [hx [108, 110]]; exact h8
    have hp : progOf s = some .ln := by simp only [progOf, if_neg h0, if_neg h1, if_neg h2, if_neg h3, if_neg h4, if_neg h5, if_neg h6, if_neg h7, if_pos h8]
    refine enter (B := B) tab_ok [.e (.c (.str s))] [false, false, false, false, false, false, false, false, true] [] 200 Tryz.func19 rfl rfl rfl (obs := [fun _ => (s.toList == (⟨#[116, 114, 117, 101]⟩ : ByteArray).toList) = false, fun _ => (s.toList == (⟨#[102, 97, 108, 115, 101]⟩ : ByteArray).toList) = false, fun _ => (s.toList == (⟨#[105, 100]⟩ : ByteArray).toList) = false, fun _ => (s.toList == (⟨#[119, 104, 111]⟩ : ByteArray).toList) = false, fun _ => (s.toList == (⟨#[99, 97, 116]⟩ : ByteArray).toList) = false, fun _ => (s.toList == (⟨#[109, 107, 100, 105, 114]⟩ : ByteArray).toList) = false, fun _ => (s.toList == (⟨#[114, 109, 100, 105, 114]⟩ : ByteArray).toList) = false, fun _ => (s.toList == (⟨#[114, 109]⟩ : ByteArray).toList) = false, fun _ => (s.toList == (⟨#[108, 110]⟩ : ByteArray).toList) = true]) (by kernel_rfl) ⟨o0, o1, o2, o3, o4, o5, o6, o7, o8, trivial⟩ (fun a1 w1 hc1 => ?_)
    have hn1 := (Over.env w _).rel hc1.mem
    refine gets_pure (c := ⟨48, [.c (.int .i64 12)], [], #[]⟩) 24 (.e (.c (.fv 96 #[bp w1.heap.size]))) [] [] hc1 (by kernel_rfl) (by kernel_rfl) (by kernel_rfl) (by kernel_rfl) (renames_calls (B := B) w1 12) (by kernel_rfl) (by kernel_rfl) (fun a2 w2 hn2 hq2 hc2 => ?_)
    have hr2 := hc2.mem.bs (bs' := []) (by kernel_rfl)
    have hov := (Over.env w (sro B w)).next hc1.mem hn2 (sro B w)
    refine gets_pure (c := ⟨47, [.c (.fv 96 #[bp w1.heap.size])], [], #[]⟩) 25 (.e (.c (.fv 91 #[bp w2.heap.size]))) [] [] hc2 (by kernel_rfl) (by kernel_rfl) (by kernel_rfl) (by kernel_rfl) (places_calls (B := B) w2 96 _) (by kernel_rfl) (by kernel_rfl) (fun a3 w3 hn3 hq3 hc3 => ?_)
    have hr3 := hc3.mem.bs (bs' := []) (by kernel_rfl)
    refine gets_run tab_ok 50 hc3 (holds_of (obs := []) (by kernel_rfl) trivial) (fun a4 w4 hc4 => ?_)
    have hn4 := hr3.same (hc4.mem.bs (bs' := []) (by kernel_rfl))
    refine gets_fin tab_ok (l := [.c (.fv 91 #[bp w2.heap.size])]) hc4 Tryz.func19 (by kernel_rfl) (by kernel_rfl) ⟨_, rfl, ((hn1.trans hn2).trans hn3).trans hn4, ?_⟩
    rw [hp]
    exact ⟨91, _, rfl, rfl, _, 96, _, rfl, Box.keep hq3 (hn4.keep B), rfl, _, rfl, Box.keep hq2 ((hn3.trans hn4).keep B)⟩
  have o8 : (s.toList == (⟨#[108, 110]⟩ : ByteArray).toList) = false := by rw [hx [108, 110]]; simpa using h8
  by_cases h9 : (s.toList == [109, 118]) = true
  · have o9 : (s.toList == (⟨#[109, 118]⟩ : ByteArray).toList) = true := by rw [hx [109, 118]]; exact h9
    have hp : progOf s = some .mv := by simp only [progOf, if_neg h0, if_neg h1, if_neg h2, if_neg h3, if_neg h4, if_neg h5, if_neg h6, if_neg h7, if_neg h8, if_pos h9]
    refine enter (B := B) tab_ok [.e (.c (.str s))] [false, false, false, false, false, false, false, false, false, true] [] 200 Tryz.func19 rfl rfl rfl (obs := [fun _ => (s.toList == (⟨#[116, 114, 117, 101]⟩ : ByteArray).toList) = false, fun _ => (s.toList == (⟨#[102, 97, 108, 115, 101]⟩ : ByteArray).toList) = false, fun _ => (s.toList == (⟨#[105, 100]⟩ : ByteArray).toList) = false, fun _ => (s.toList == (⟨#[119, 104, 111]⟩ : ByteArray).toList) = false, fun _ => (s.toList == (⟨#[99, 97, 116]⟩ : ByteArray).toList) = false, fun _ => (s.toList == (⟨#[109, 107, 100, 105, 114]⟩ : ByteArray).toList) = false, fun _ => (s.toList == (⟨#[114, 109, 100, 105, 114]⟩ : ByteArray).toList) = false, fun _ => (s.toList == (⟨#[114, 109]⟩ : ByteArray).toList) = false, fun _ => (s.toList == (⟨#[108, 110]⟩ : ByteArray).toList) = false, fun _ => (s.toList == (⟨#[109, 118]⟩ : ByteArray).toList) = true]) (by kernel_rfl) ⟨o0, o1, o2, o3, o4, o5, o6, o7, o8, o9, trivial⟩ (fun a1 w1 hc1 => ?_)
    have hn1 := (Over.env w _).rel hc1.mem
    refine gets_pure (c := ⟨48, [.c (.int .i64 13)], [], #[]⟩) 28 (.e (.c (.fv 96 #[bp w1.heap.size]))) [] [] hc1 (by kernel_rfl) (by kernel_rfl) (by kernel_rfl) (by kernel_rfl) (renames_calls (B := B) w1 13) (by kernel_rfl) (by kernel_rfl) (fun a2 w2 hn2 hq2 hc2 => ?_)
    have hr2 := hc2.mem.bs (bs' := []) (by kernel_rfl)
    have hov := (Over.env w (sro B w)).next hc1.mem hn2 (sro B w)
    refine gets_pure (c := ⟨47, [.c (.fv 96 #[bp w1.heap.size])], [], #[]⟩) 29 (.e (.c (.fv 91 #[bp w2.heap.size]))) [] [] hc2 (by kernel_rfl) (by kernel_rfl) (by kernel_rfl) (by kernel_rfl) (places_calls (B := B) w2 96 _) (by kernel_rfl) (by kernel_rfl) (fun a3 w3 hn3 hq3 hc3 => ?_)
    have hr3 := hc3.mem.bs (bs' := []) (by kernel_rfl)
    refine gets_run tab_ok 50 hc3 (holds_of (obs := []) (by kernel_rfl) trivial) (fun a4 w4 hc4 => ?_)
    have hn4 := hr3.same (hc4.mem.bs (bs' := []) (by kernel_rfl))
    refine gets_fin tab_ok (l := [.c (.fv 91 #[bp w2.heap.size])]) hc4 Tryz.func19 (by kernel_rfl) (by kernel_rfl) ⟨_, rfl, ((hn1.trans hn2).trans hn3).trans hn4, ?_⟩
    rw [hp]
    exact ⟨91, _, rfl, rfl, _, 96, _, rfl, Box.keep hq3 (hn4.keep B), rfl, _, rfl, Box.keep hq2 ((hn3.trans hn4).keep B)⟩
  have o9 : (s.toList == (⟨#[109, 118]⟩ : ByteArray).toList) = false := by rw [hx [109, 118]]; simpa using h9
  by_cases h10 : (s.toList == [99, 112]) = true
  · have o10 : (s.toList == (⟨#[99, 112]⟩ : ByteArray).toList) = true := by rw [hx [99, 112]]; exact h10
    have hp : progOf s = some .cp := by simp only [progOf, if_neg h0, if_neg h1, if_neg h2, if_neg h3, if_neg h4, if_neg h5, if_neg h6, if_neg h7, if_neg h8, if_neg h9, if_pos h10]
    refine enter (B := B) tab_ok [.e (.c (.str s))] [false, false, false, false, false, false, false, false, false, false, true] [] 200 Tryz.func19 rfl rfl rfl (obs := [fun _ => (s.toList == (⟨#[116, 114, 117, 101]⟩ : ByteArray).toList) = false, fun _ => (s.toList == (⟨#[102, 97, 108, 115, 101]⟩ : ByteArray).toList) = false, fun _ => (s.toList == (⟨#[105, 100]⟩ : ByteArray).toList) = false, fun _ => (s.toList == (⟨#[119, 104, 111]⟩ : ByteArray).toList) = false, fun _ => (s.toList == (⟨#[99, 97, 116]⟩ : ByteArray).toList) = false, fun _ => (s.toList == (⟨#[109, 107, 100, 105, 114]⟩ : ByteArray).toList) = false, fun _ => (s.toList == (⟨#[114, 109, 100, 105, 114]⟩ : ByteArray).toList) = false, fun _ => (s.toList == (⟨#[114, 109]⟩ : ByteArray).toList) = false, fun _ => (s.toList == (⟨#[108, 110]⟩ : ByteArray).toList) = false, fun _ => (s.toList == (⟨#[109, 118]⟩ : ByteArray).toList) = false, fun _ => (s.toList == (⟨#[99, 112]⟩ : ByteArray).toList) = true]) (by kernel_rfl) ⟨o0, o1, o2, o3, o4, o5, o6, o7, o8, o9, o10, trivial⟩ (fun a1 w1 hc1 => ?_)
    have hn1 := (Over.env w _).rel hc1.mem
    refine gets_pure (c := ⟨47, [.c (.f 49 [])], [], #[]⟩) 32 (.e (.c (.fv 91 #[bp w1.heap.size]))) [] [] hc1 (by kernel_rfl) (by kernel_rfl) (by kernel_rfl) (by kernel_rfl) (places_calls (B := B) w1 49 #[]) (by kernel_rfl) (by kernel_rfl) (fun a2 w2 hn2 hq2 hc2 => ?_)
    have hr2 := hc2.mem.bs (bs' := []) (by kernel_rfl)
    refine gets_run tab_ok 50 hc2 (holds_of (obs := []) (by kernel_rfl) trivial) (fun a3 w3 hc3 => ?_)
    have hn3 := hr2.same (hc3.mem.bs (bs' := []) (by kernel_rfl))
    refine gets_fin tab_ok (l := [.c (.fv 91 #[bp w1.heap.size])]) hc3 Tryz.func19 (by kernel_rfl) (by kernel_rfl) ⟨_, rfl, (hn1.trans hn2).trans hn3, ?_⟩
    rw [hp]
    exact ⟨91, _, rfl, rfl, _, 49, #[], rfl, Box.keep hq2 (hn3.keep B), rfl, rfl⟩
  have o10 : (s.toList == (⟨#[99, 112]⟩ : ByteArray).toList) = false := by rw [hx [99, 112]]; simpa using h10
  by_cases h11 : (s.toList == [99, 104, 109, 111, 100]) = true
  · have o11 : (s.toList == (⟨#[99, 104, 109, 111, 100]⟩ : ByteArray).toList) = true := by rw [hx [99, 104, 109, 111, 100]]; exact h11
    have hp : progOf s = some .chmod := by simp only [progOf, if_neg h0, if_neg h1, if_neg h2, if_neg h3, if_neg h4, if_neg h5, if_neg h6, if_neg h7, if_neg h8, if_neg h9, if_neg h10, if_pos h11]
    refine Calls.mono (gives_end (B := B) [.e (.c (.str s))] [false, false, false, false, false, false, false, false, false, false, false, true] [] 200 [] (obs := [fun _ => (s.toList == (⟨#[116, 114, 117, 101]⟩ : ByteArray).toList) = false, fun _ => (s.toList == (⟨#[102, 97, 108, 115, 101]⟩ : ByteArray).toList) = false, fun _ => (s.toList == (⟨#[105, 100]⟩ : ByteArray).toList) = false, fun _ => (s.toList == (⟨#[119, 104, 111]⟩ : ByteArray).toList) = false, fun _ => (s.toList == (⟨#[99, 97, 116]⟩ : ByteArray).toList) = false, fun _ => (s.toList == (⟨#[109, 107, 100, 105, 114]⟩ : ByteArray).toList) = false, fun _ => (s.toList == (⟨#[114, 109, 100, 105, 114]⟩ : ByteArray).toList) = false, fun _ => (s.toList == (⟨#[114, 109]⟩ : ByteArray).toList) = false, fun _ => (s.toList == (⟨#[108, 110]⟩ : ByteArray).toList) = false, fun _ => (s.toList == (⟨#[109, 118]⟩ : ByteArray).toList) = false, fun _ => (s.toList == (⟨#[99, 112]⟩ : ByteArray).toList) = false, fun _ => (s.toList == (⟨#[99, 104, 109, 111, 100]⟩ : ByteArray).toList) = true]) (Q := fun _ => True) Tryz.func19 rfl rfl rfl (by kernel_rfl) (by kernel_rfl) (by kernel_rfl) (l := [.c (.f 50 [])]) (by kernel_rfl) ⟨o0, o1, o2, o3, o4, o5, o6, o7, o8, o9, o10, o11, trivial⟩ rfl (fun _ _ => trivial)) (fun e w' ⟨e1, e2, _⟩ => ⟨_, e1, e2, ?_⟩)
    rw [hp]
    exact ⟨50, #[], rfl, rfl, rfl⟩
  have o11 : (s.toList == (⟨#[99, 104, 109, 111, 100]⟩ : ByteArray).toList) = false := by rw [hx [99, 104, 109, 111, 100]]; simpa using h11
  by_cases h12 : (s.toList == [99, 104, 111, 119, 110]) = true
  · have o12 : (s.toList == (⟨#[99, 104, 111, 119, 110]⟩ : ByteArray).toList) = true := by rw [hx [99, 104, 111, 119, 110]]; exact h12
    have hp : progOf s = some .chown := by simp only [progOf, if_neg h0, if_neg h1, if_neg h2, if_neg h3, if_neg h4, if_neg h5, if_neg h6, if_neg h7, if_neg h8, if_neg h9, if_neg h10, if_neg h11, if_pos h12]
    refine Calls.mono (gives_end (B := B) [.e (.c (.str s))] [false, false, false, false, false, false, false, false, false, false, false, false, true] [] 200 [] (obs := [fun _ => (s.toList == (⟨#[116, 114, 117, 101]⟩ : ByteArray).toList) = false, fun _ => (s.toList == (⟨#[102, 97, 108, 115, 101]⟩ : ByteArray).toList) = false, fun _ => (s.toList == (⟨#[105, 100]⟩ : ByteArray).toList) = false, fun _ => (s.toList == (⟨#[119, 104, 111]⟩ : ByteArray).toList) = false, fun _ => (s.toList == (⟨#[99, 97, 116]⟩ : ByteArray).toList) = false, fun _ => (s.toList == (⟨#[109, 107, 100, 105, 114]⟩ : ByteArray).toList) = false, fun _ => (s.toList == (⟨#[114, 109, 100, 105, 114]⟩ : ByteArray).toList) = false, fun _ => (s.toList == (⟨#[114, 109]⟩ : ByteArray).toList) = false, fun _ => (s.toList == (⟨#[108, 110]⟩ : ByteArray).toList) = false, fun _ => (s.toList == (⟨#[109, 118]⟩ : ByteArray).toList) = false, fun _ => (s.toList == (⟨#[99, 112]⟩ : ByteArray).toList) = false, fun _ => (s.toList == (⟨#[99, 104, 109, 111, 100]⟩ : ByteArray).toList) = false, fun _ => (s.toList == (⟨#[99, 104, 111, 119, 110]⟩ : ByteArray).toList) = true]) (Q := fun _ => True) Tryz.func19 rfl rfl rfl (by kernel_rfl) (by kernel_rfl) (by kernel_rfl) (l := [.c (.f 51 [])]) (by kernel_rfl) ⟨o0, o1, o2, o3, o4, o5, o6, o7, o8, o9, o10, o11, o12, trivial⟩ rfl (fun _ _ => trivial)) (fun e w' ⟨e1, e2, _⟩ => ⟨_, e1, e2, ?_⟩)
    rw [hp]
    exact ⟨51, #[], rfl, rfl, rfl⟩
  have o12 : (s.toList == (⟨#[99, 104, 111, 119, 110]⟩ : ByteArray).toList) = false := by rw [hx [99, 104, 111, 119, 110]]; simpa using h12
  by_cases h13 : (s.toList == [108, 115]) = true
  · have o13 : (s.toList == (⟨#[108, 115]⟩ : ByteArray).toList) = true := by rw [hx [108, 115]]; exact h13
    have hp : progOf s = some .ls := by simp only [progOf, if_neg h0, if_neg h1, if_neg h2, if_neg h3, if_neg h4, if_neg h5, if_neg h6, if_neg h7, if_neg h8, if_neg h9, if_neg h10, if_neg h11, if_neg h12, if_pos h13]
    refine Calls.mono (gives_end (B := B) [.e (.c (.str s))] [false, false, false, false, false, false, false, false, false, false, false, false, false, true] [] 200 [] (obs := [fun _ => (s.toList == (⟨#[116, 114, 117, 101]⟩ : ByteArray).toList) = false, fun _ => (s.toList == (⟨#[102, 97, 108, 115, 101]⟩ : ByteArray).toList) = false, fun _ => (s.toList == (⟨#[105, 100]⟩ : ByteArray).toList) = false, fun _ => (s.toList == (⟨#[119, 104, 111]⟩ : ByteArray).toList) = false, fun _ => (s.toList == (⟨#[99, 97, 116]⟩ : ByteArray).toList) = false, fun _ => (s.toList == (⟨#[109, 107, 100, 105, 114]⟩ : ByteArray).toList) = false, fun _ => (s.toList == (⟨#[114, 109, 100, 105, 114]⟩ : ByteArray).toList) = false, fun _ => (s.toList == (⟨#[114, 109]⟩ : ByteArray).toList) = false, fun _ => (s.toList == (⟨#[108, 110]⟩ : ByteArray).toList) = false, fun _ => (s.toList == (⟨#[109, 118]⟩ : ByteArray).toList) = false, fun _ => (s.toList == (⟨#[99, 112]⟩ : ByteArray).toList) = false, fun _ => (s.toList == (⟨#[99, 104, 109, 111, 100]⟩ : ByteArray).toList) = false, fun _ => (s.toList == (⟨#[99, 104, 111, 119, 110]⟩ : ByteArray).toList) = false, fun _ => (s.toList == (⟨#[108, 115]⟩ : ByteArray).toList) = true]) (Q := fun _ => True) Tryz.func19 rfl rfl rfl (by kernel_rfl) (by kernel_rfl) (by kernel_rfl) (l := [.c (.f 52 [])]) (by kernel_rfl) ⟨o0, o1, o2, o3, o4, o5, o6, o7, o8, o9, o10, o11, o12, o13, trivial⟩ rfl (fun _ _ => trivial)) (fun e w' ⟨e1, e2, _⟩ => ⟨_, e1, e2, ?_⟩)
    rw [hp]
    exact ⟨52, #[], rfl, rfl, rfl⟩
  have o13 : (s.toList == (⟨#[108, 115]⟩ : ByteArray).toList) = false := by rw [hx [108, 115]]; simpa using h13
  have hp : progOf s = none := by simp only [progOf, if_neg h0, if_neg h1, if_neg h2, if_neg h3, if_neg h4, if_neg h5, if_neg h6, if_neg h7, if_neg h8, if_neg h9, if_neg h10, if_neg h11, if_neg h12, if_neg h13]
  refine Calls.mono (gives_end (B := B) [.e (.c (.str s))] [false, false, false, false, false, false, false, false, false, false, false, false, false, false] [] 200 [] (obs := [fun _ => (s.toList == (⟨#[116, 114, 117, 101]⟩ : ByteArray).toList) = false, fun _ => (s.toList == (⟨#[102, 97, 108, 115, 101]⟩ : ByteArray).toList) = false, fun _ => (s.toList == (⟨#[105, 100]⟩ : ByteArray).toList) = false, fun _ => (s.toList == (⟨#[119, 104, 111]⟩ : ByteArray).toList) = false, fun _ => (s.toList == (⟨#[99, 97, 116]⟩ : ByteArray).toList) = false, fun _ => (s.toList == (⟨#[109, 107, 100, 105, 114]⟩ : ByteArray).toList) = false, fun _ => (s.toList == (⟨#[114, 109, 100, 105, 114]⟩ : ByteArray).toList) = false, fun _ => (s.toList == (⟨#[114, 109]⟩ : ByteArray).toList) = false, fun _ => (s.toList == (⟨#[108, 110]⟩ : ByteArray).toList) = false, fun _ => (s.toList == (⟨#[109, 118]⟩ : ByteArray).toList) = false, fun _ => (s.toList == (⟨#[99, 112]⟩ : ByteArray).toList) = false, fun _ => (s.toList == (⟨#[99, 104, 109, 111, 100]⟩ : ByteArray).toList) = false, fun _ => (s.toList == (⟨#[99, 104, 111, 119, 110]⟩ : ByteArray).toList) = false, fun _ => (s.toList == (⟨#[108, 115]⟩ : ByteArray).toList) = false]) (Q := fun _ => True) Tryz.func19 rfl rfl rfl (by kernel_rfl) (by kernel_rfl) (by kernel_rfl) (l := [.c .nilf]) (by kernel_rfl) ⟨o0, o1, o2, o3, o4, o5, o6, o7, o8, o9, o10, o11, o12, o13, trivial⟩ rfl (fun _ _ => trivial)) (fun e w' ⟨e1, e2, _⟩ => ⟨_, e1, e2, ?_⟩)
  rw [hp]
  exact rfl

end Go.Proofs.YtoihipolfdhhnaaGreatDoor

namespace Go.Proofs.YtoihipolfdhhnaaGreatDoor

def m0 (prog : ByteArray) : M := ⟨prog, 0, [], none, {}, false⟩

theorem Evo.new {w w1 w2 : World} {b : Nat} (h : New w w1) (he : Evo w1 b w2) (hr : ∀ k, Own w1 b k → w.heap.size ≤ k) : New w w2 :=
  ⟨he.os.trans h.os, he.tape.trans h.tape, he.output.trans h.output, Nat.le_trans h.size he.size, fun k hk => by
    rw [he.block k (Nat.lt_of_lt_of_le hk h.size) (fun ho => by have := hr k ho; omega)]
    exact h.block k hk⟩

/-- What is owned stays so where only new blocks come. -/
theorem hfr {B : Bd} {b : Nat} {w w' : World} {m : M} (hm : MOk B w b m) (hn : New w w') (j : Nat) (ho : Own w' b j) : Own w b j := by
  obtain ⟨_, _, _, _, _, hM⟩ := hm
  rcases ho with ho | ⟨n, c, ho⟩
  · exact .inl ho
  · refine .inr ⟨n, c, ?_⟩
    rw [← ho]
    exact (World.cell?_of_block (hn.block b (lt_of_block hM.cells))).symm

/-- What a maker of a machine comes to. -/
def MadeM (B : Bd) (w : World) (m : M) (e : Ending) (w' : World) : Prop := ∃ b, e = .returned (bp b) ∧ MOk B w' b m ∧ New w w' ∧ ∀ j, Own w' b j → w.heap.size ≤ j

theorem steps_new_calls {B : Bd} {w : World} (hg : GlobOk B w) (prog : ByteArray) (k : Fn) (f : FuncId) (c : Array Value) (hk : RepF B w k f c) :
    Calls Tryz.prog 20 #[.agg (plainR [.str prog, .int .i64 0]), .func (.func f) #[] c] w (MadeM B w ((m0 prog).push k)) := by
  refine enter (B := B) tab_ok [.e (.a [.str prog, .int .i64 0]), .e (.c (.fv f c))] [] [] 40 Tryz.func20 rfl rfl rfl (obs := []) (by kernel_rfl) trivial (fun a1 w1 hc1 => ?_)
  have hr1 := hc1.mem.bs (bs' := [⟨60, [.str prog, .int .i64 0]⟩, ⟨66, mcells prog 0 none 0 0 .nilf {} false⟩]) (by kernel_rfl)
  have hn1 := (Over.env w _).rel hc1.mem
  have hM : MAt B w1 (w.heap.size + 1) (m0 prog) none 0 0 none [] := by
    refine ⟨by have := hg.le; omega, ?_, ⟨rfl, .inl ⟨rfl, rfl⟩⟩, .nil, rfl, trivial, hg.keep (hn1.keep B)⟩
    have := hr1.cells 1 _ rfl
    rw [map_plain _ rfl] at this
    exact this
  have hm1 : MOk B w1 (w.heap.size + 1) (m0 prog) := ⟨_, _, _, _, _, hM⟩
  refine gets_does (c := ⟨22, [.c (.p 1 0), .c (.fv f c)], [], #[]⟩) 11 [(5, .e (.c (.rp ⟨w.heap.size + 1, 0, none⟩)))] [] [] hc1 (by kernel_rfl) (by kernel_rfl) (by kernel_rfl) rfl (push_calls hm1 (Nat.zero_le _) hm1.le k f c (hk.keep (hn1.keep B))) (fun ρ' => ⟨rfl, trivial⟩) (fun a2 w2 hm2 he2 hc2 => ?_)
  have hn2 : New w w2 := Evo.new hn1 he2 (fun j ho => by
    rcases (hM.own j).1 ho with rfl | h
    · omega
    · cases h)
  have hown : ∀ j, Own w2 (w.heap.size + 1) j → w.heap.size ≤ j := fun j ho => by
    rcases he2.fresh j ho with h | h
    · rcases (hM.own j).1 h with rfl | h
      · omega
      · cases h
    · have := hn1.size; omega
  refine gets_run tab_ok 20 hc2 (holds_of (obs := []) (by kernel_rfl) trivial) (fun a3 w3 hc3 => ?_)
  have hn3 := hc2.mem.same (hc3.mem.bs (bs' := []) (by kernel_rfl))
  obtain ⟨hm3, _⟩ := hm2.fresh hn3
  exact gets_fin tab_ok (l := [.c (.rp ⟨w.heap.size + 1, 0, none⟩)]) hc3 Tryz.func20 (by kernel_rfl) (by kernel_rfl) ⟨_, rfl, hm3, hn2.trans hn3, fun j ho => hown j (hfr hm2 hn3 j ho)⟩

theorem info9 : (Tryz.prog.info? 9).map (fun i => (i.zero.map fun z => z.cells, i.size, i.bytes)) = some (some #[.string ⟨#[]⟩], 1, 16) := by kernel_rfl

/-- An operation of a drawn region whose run is known, where it alone may come up. -/
theorem dgets_opR {P : Program} {f : FuncId} {ops : Array Oper} {k : List Item} {a : Act} {w w' : World} {R : Ending → World → Prop} {S : World → Prop} {fuel : Nat} {listed : Array Bool} {i : Nat} {o : Oper} {v : Value}
    (hr : Region.ready .any ops listed = [i]) (ho : ops[i]? = some o) (hw : o.guard = none) (hrun : (execOp a.eval o).run P w = .ok (.value v) w')
    (h : S w' ∧ wpAnyH P .any ops (Behind P f k R) S fuel (listed.setIfInBounds i true) (a.put o.dst v) w') : wpAnyH P .any ops (Behind P f k R) S (fuel + 1) listed a w := by
  refine wpAnyH_all hr (by simp) (fun j hj => ?_)
  simp only [List.mem_singleton] at hj
  subst hj
  have hw' : Region.wanted o (yielded ops a.tmps) = true := by unfold Region.wanted; rw [hw]
  unfold wpOp
  simp only [ho, hw', if_true]
  refine .inl ?_
  unfold Oper.wp
  rw [hrun]
  exact h

/-- All texts of a slice, as cells. -/
theorem StrsAt.news {B : Bd} {w : World} {a : Addr} {n c : Nat} {l : List ByteArray} (h : StrsAt B w (some a) n c l) : ∀ j u, (l.map Value.string)[j]? = some u → w.cell? (a.add j) = some u := by
  intro j u hj
  rw [List.getElem?_map] at hj
  cases hl : l[j]? with
  | none => rw [hl] at hj; cases hj
  | some s =>
    rw [hl] at hj
    simp only [Option.map_some, Option.some.injEq] at hj
    obtain ⟨ad, h1, h2, _⟩ := h.at_ j s hl
    cases h1
    rw [h2, hj]

theorem StrsAt.of_row {B : Bd} {B' : Nat} {w : World} {v : Value} {n : Nat} {l : List ByteArray} (h : w.ownsRow B' 9 1 v n (l.map Value.string)) : ∃ a c, v = .slice a n c ∧ StrsAt B w a n c l := by
  obtain ⟨h1, h2⟩ := h
  simp only [List.length_map, Nat.mul_one] at h1
  rcases h2 with ⟨rfl, rfl⟩ | ⟨g, cap, cur, rfl, _, h5, h6, h7, h8, h9⟩
  · exact ⟨none, 0, rfl, h1.symm, Nat.le_refl _, fun j s hj => by rw [List.length_eq_zero_iff.1 h1] at hj; simp at hj⟩
  · refine ⟨_, cap, rfl, h1.symm, h6, fun j s hj => ⟨_, rfl, ?_, .inr ⟨_, _, _, h5, by decide, by decide, by decide, fun e => absurd e (by decide)⟩⟩⟩
    rw [addr_add]
    have hjl : j < l.length := (List.getElem?_eq_some_iff.1 hj).1
    have : (cur.toList.take (n * 1))[j]? = some (.string s) := by rw [h9, List.getElem?_map, hj]; rfl
    rw [List.getElem?_take_of_lt (by omega), Array.getElem?_toList] at this
    simp [World.cell?, h5, this]

/-- What New comes to. -/
def MadeU (B : Bd) (s : ByteArray) (l : List ByteArray) (w : World) (e : Ending) (w' : World) : Prop :=
  New w w' ∧ match progOf s with
    | none => e = .returned (.pointer none)
    | some d => ∃ k b, e = .returned (bp k) ∧ w.heap.size ≤ k ∧ UOk B w' k b ((m0 s).push (.start d (l.drop 1))) ∧ ∀ j, Own w' b j → w.heap.size ≤ j

/-- New's end: from the words on. -/
theorem new_end {B : Bd} {w w1 : World} {a1 : Act} {k : List Item} (hg : GlobOk B w) (s : ByteArray) (l : List ByteArray) (d : Dp) (hp : progOf s = some d) (hn : New w w1) (kd kw : Nat) (df : FuncId) (dc : Array Value)
    (hd : Box w1 kd 55 (.func (.func df) #[] dc)) (hrd : RepD w1 d df dc) (hws : StrsBox B w1 kw (l.drop 1))
    (hc : CRel (env0 B w1) Tryz.f12.ntmps { tl := [(0, .e (.c (.str s))), (5, .e (.c (.rp ⟨kd, 0, none⟩))), (6, .e (.c (.rp ⟨kw, 0, none⟩)))], bs := [] } a1 w1)
    (hk : (run Tab Tryz.f12.ntmps 40 k { tl := [(0, .e (.c (.str s))), (5, .e (.c (.rp ⟨kd, 0, none⟩))), (6, .e (.c (.rp ⟨kw, 0, none⟩)))], bs := [] }).2.ob = [])
    (hbs : (run Tab Tryz.f12.ntmps 40 k { tl := [(0, .e (.c (.str s))), (5, .e (.c (.rp ⟨kd, 0, none⟩))), (6, .e (.c (.rp ⟨kw, 0, none⟩)))], bs := [] }).2.bs = [])
    (hx : callX (run Tab Tryz.f12.ntmps 40 k { tl := [(0, .e (.c (.str s))), (5, .e (.c (.rp ⟨kd, 0, none⟩))), (6, .e (.c (.rp ⟨kw, 0, none⟩)))], bs := [] }).1 (run Tab Tryz.f12.ntmps 40 k { tl := [(0, .e (.c (.str s))), (5, .e (.c (.rp ⟨kd, 0, none⟩))), (6, .e (.c (.rp ⟨kw, 0, none⟩)))], bs := [] }).2 = some ⟨20, [.a [.str s, .int .i64 0], .c (.f 21 [.r ⟨kd, 0, none⟩, .r ⟨kw, 0, none⟩])], [], #[]⟩)
    (hdst : dstX (run Tab Tryz.f12.ntmps 40 k { tl := [(0, .e (.c (.str s))), (5, .e (.c (.rp ⟨kd, 0, none⟩))), (6, .e (.c (.rp ⟨kw, 0, none⟩)))], bs := [] }).1 = some 21)
    (hend : ∀ b, (run Tab Tryz.f12.ntmps 40 (popX (run Tab Tryz.f12.ntmps 40 k { tl := [(0, .e (.c (.str s))), (5, .e (.c (.rp ⟨kd, 0, none⟩))), (6, .e (.c (.rp ⟨kw, 0, none⟩)))], bs := [] }).1) { tl := [(21, .e (.c (.rp ⟨b, 0, none⟩)))], bs := [] }).2.ob = [] ∧
      (run Tab Tryz.f12.ntmps 40 (popX (run Tab Tryz.f12.ntmps 40 k { tl := [(0, .e (.c (.str s))), (5, .e (.c (.rp ⟨kd, 0, none⟩))), (6, .e (.c (.rp ⟨kw, 0, none⟩)))], bs := [] }).1) { tl := [(21, .e (.c (.rp ⟨b, 0, none⟩)))], bs := [] }).2.bs = [⟨69, [.rp ⟨b, 0, none⟩]⟩] ∧
      isFin (run Tab Tryz.f12.ntmps 40 (popX (run Tab Tryz.f12.ntmps 40 k { tl := [(0, .e (.c (.str s))), (5, .e (.c (.rp ⟨kd, 0, none⟩))), (6, .e (.c (.rp ⟨kw, 0, none⟩)))], bs := [] }).1) { tl := [(21, .e (.c (.rp ⟨b, 0, none⟩)))], bs := [] }).1 = true ∧
      resXs Tab (run Tab Tryz.f12.ntmps 40 (popX (run Tab Tryz.f12.ntmps 40 k { tl := [(0, .e (.c (.str s))), (5, .e (.c (.rp ⟨kd, 0, none⟩))), (6, .e (.c (.rp ⟨kw, 0, none⟩)))], bs := [] }).1) { tl := [(21, .e (.c (.rp ⟨b, 0, none⟩)))], bs := [] }).2 Tryz.f12.results.toList = some [.c (.p 0 0)]) :
    Gets Tryz.prog 12 k a1 w1 (MadeU B s l w) := by
  refine gets_run tab_ok 40 hc (holds_of hk trivial) (fun a2 w2 hc2 => ?_)
  have hn2 := hc.mem.same (hc2.mem.bs hbs)
  have hk2 := hn2.keep B
  refine gets_call hc2 hx (by kernel_rfl) (steps_new_calls (B := B) (hg.keep ((hn.trans hn2).keep B)) s (.start d (l.drop 1)) 21 #[bp kd, bp kw] ⟨rfl, kd, kw, df, dc, rfl, hd.keep hk2, hrd.keep hk2, hws.keep hk2⟩) (fun e w3 ⟨b, e1, e2, e3, e4⟩ => ⟨_, e1, ?_⟩)
  rw [hdst]
  have hc3 : CRel (env0 B w3) Tryz.f12.ntmps { tl := [(21, .e (.c (.rp ⟨b, 0, none⟩)))], bs := [] } (a2.put (some 21) (bp b)) w3 := by
    refine ⟨fun d v hd => ?_, by rw [Act.put_size]; exact hc2.size, by rw [Act.put_defers']; exact hc2.defers, rel_nil w3 _ (fun _ _ h => (sro_le h).2)⟩
    simp only [lk] at hd
    split at hd
    · rename_i e; cases hd; subst e
      show (a2.tmps.setIfInBounds 21 _)[21]? = _
      rw [Array.getElem?_setIfInBounds_self_of_lt (by rw [hc2.size]; decide)]
      rfl
    · cases hd
  obtain ⟨g1, g2, g3, g4⟩ := hend b
  refine gets_run tab_ok 40 hc3 (holds_of g1 trivial) (fun a4 w4 hc4 => ?_)
  have hr4 := hc4.mem.bs g2
  have hn4 := (Over.env w3 _).rel hc4.mem
  obtain ⟨hm4, _⟩ := e2.fresh hn4
  refine gets_fin tab_ok (l := [.c (.p 0 0)]) hc4 Tryz.func12 g3 g4 ⟨((hn.trans hn2).trans e3).trans hn4, ?_⟩
  rw [hp]
  have hsz : B ≤ w3.heap.size := by have := hg.le; have := hn.size; have := hn2.size; have := e3.size; omega
  have hsz2 : w.heap.size ≤ w2.heap.size := (hn.trans hn2).size
  exact ⟨w3.heap.size, b, rfl, by have := e3.size; omega, ⟨hsz, box_of hr4 (i := 0) rfl rfl rfl, hm4⟩, fun j ho => Nat.le_trans hsz2 (e4 j (hfr e2 hn4 j ho))⟩

end Go.Proofs.YtoihipolfdhhnaaGreatDoor

namespace Go.Proofs.YtoihipolfdhhnaaGreatDoor

theorem sees_none (w w' : World) : Sees (env w [] noRo) [] w' := ⟨fun i b h => by simp at h, fun a v h => by cases h⟩

theorem new_calls {B : Bd} {w : World} (hg : GlobOk B w) (s : ByteArray) (l : List ByteArray) (a : Option Addr) (n cp : Nat) (hl : StrsAt B w a n cp l) (hlen : l.length ≤ 1000000) : Calls Tryz.prog 12 #[.string s, .slice a n cp] w (MadeU B s l w) := by
  refine enter (B := B) tab_ok [.e (.c (.str s)), .e (.c (.sl a n cp))] [] [] 40 Tryz.func12 rfl rfl rfl (obs := []) (by kernel_rfl) trivial (fun a1 w1 hc1 => ?_)
  have hn1 := (Over.env w _).rel hc1.mem
  cases hp : progOf s with
  | none =>
    have hpc : Calls Tryz.prog 19 #[.string s] w1 (fun e w' => e = .returned .nilFunc ∧ New w1 w' ∧ True) := by
      refine Calls.mono (programs_calls (B := B) w1 s) (fun e w' ⟨v, e1, e2, e3⟩ => ?_)
      rw [hp] at e3
      have e3' : v = .nilFunc := e3
      subst e3'
      exact ⟨e1, e2, trivial⟩
    refine gets_pure (Q := fun _ => True) (c := ⟨19, [.c (.str s)], [], #[]⟩) 8 (.e (.c .nilf)) [] [] hc1 (by kernel_rfl) (by kernel_rfl) (by kernel_rfl) (by kernel_rfl) hpc (by kernel_rfl) (by kernel_rfl) (fun a2 w2 hn2 _ hc2 => ?_)
    have hov := (Over.env w (sro B w)).next hc1.mem hn2 (sro B w)
    refine gets_run tab_ok 60 hc2 (holds_of (obs := []) (by kernel_rfl) trivial) (fun a3 w3 hc3 => ?_)
    refine gets_fin tab_ok (l := [.c .nilp]) hc3 Tryz.func12 (by kernel_rfl) (by kernel_rfl) ⟨hov.rel hc3.mem, ?_⟩
    rw [hp]
    rfl
  | some d =>
    refine gets_call (c := ⟨19, [.c (.str s)], [], #[]⟩) hc1 (by kernel_rfl) (by kernel_rfl) (programs_calls (B := B) w1 s) (fun e w2 ⟨v, e1, hn2, e3⟩ => ⟨v, e1, ?_⟩)
    rw [hp] at e3
    obtain ⟨df, dc, rfl, hrd⟩ := e3
    have hn12 := hn1.trans hn2
    have hdst : dstX (run Tab Tryz.f12.ntmps 40 (code Tryz.f12) (ini [.e (.c (.str s)), .e (.c (.sl a n cp))] [] [])).1 = some 8 := by kernel_rfl
    rw [hdst]
    have hc2 : ∀ orc, CRel (env0 B w2) Tryz.f12.ntmps { tl := [(8, .e (.c (.fv df dc))), (0, .e (.c (.str s))), (1, .e (.c (.sl a n cp)))], bs := [], orc := orc } (a1.put (some 8) (.func (.func df) #[] dc)) w2 := by
      intro orc
      refine ⟨fun d v hd => ?_, by rw [Act.put_size]; exact hc1.size, by rw [Act.put_defers']; exact hc1.defers, rel_nil w2 _ (fun _ _ h => (sro_le h).2)⟩
      simp only [lk] at hd
      split at hd
      · rename_i e; cases hd; subst e
        show (a1.tmps.setIfInBounds 8 _)[8]? = _
        rw [Array.getElem?_setIfInBounds_self_of_lt (by rw [hc1.size]; decide)]
        rfl
      · split at hd
        · rename_i e; cases hd; subst e
          show (a1.tmps.setIfInBounds 8 _)[0]? = _
          rw [Array.getElem?_setIfInBounds_ne (by decide), hc1.tl 0 (.e (.c (.str s))) (by kernel_rfl)]; rfl
        · split at hd
          · rename_i e; cases hd; subst e
            show (a1.tmps.setIfInBounds 8 _)[1]? = _
            rw [Array.getElem?_setIfInBounds_ne (by decide), hc1.tl 1 (.e (.c (.sl a n cp))) (by kernel_rfl)]; rfl
          · cases hd
    by_cases hn : n > 1
    · refine gets_run tab_ok 60 (hc2 [true]) (holds_of (obs := [fun _ => decide ((n : Int) > 1) = true]) (by kernel_rfl) ⟨by simp; omega, trivial⟩) (fun a3 w3 hc3 => ?_)
      have hr3 := hc3.mem.bs (bs' := [⟨55, [.fv df dc]⟩, ⟨22, [.sl none 0 0]⟩]) (by kernel_rfl)
      have hn3 := (Over.env w2 _).rel hc3.mem
      -- the names forgotten; the region that appends
      have hkw : w3.heap[w2.heap.size + 1]? = some (.cells (plainR [.sl none 0 0]) 22 (0, 0)) := hr3.cells 1 _ rfl
      have hkd : Box w3 w2.heap.size 55 (.func (.func df) #[] dc) := box_of hr3 (i := 0) rfl rfl rfl
      have hc4 := hc3.anew B [(0, .e (.c (.str s))), (5, .e (.c (.rp ⟨w2.heap.size, 0, none⟩))), (6, .e (.c (.rp ⟨w2.heap.size + 1, 0, none⟩))), (1, .e (.c (.sl a n cp)))] [] [] ⟨by rfl, by rfl, by rfl, by rfl, trivial⟩
      clear hc3
      have hl3 := hl.keep ((hn12.trans hn3).keep B)
      have hll := hl.len
      have hlc := hl.cap
      refine gets_draw (S := Sees (env w3 [] noRo) []) (by kernel_rfl) ?_
      refine dgets_take (ε := env w3 [] noRo) (fuel := 3) (l' := #[false, true, true, false, false]) tab_ok (by kernel_rfl) (sees_none _ _) [1, 2] _
        { tl := [(0, .e (.c (.str s))), (5, .e (.c (.rp ⟨w2.heap.size, 0, none⟩))), (6, .e (.c (.rp ⟨w2.heap.size + 1, 0, none⟩))), (1, .e (.c (.sl a n cp)))], bs := [] }
        { tl := [(16, .e (.c (.sl (if cp = 1 then a else a.map (·.add (1 * 1))) (n - 1) (cp - 1)))), (15, .e (.c (.sl a n cp))), (0, .e (.c (.str s))), (5, .e (.c (.rp ⟨w2.heap.size, 0, none⟩))), (6, .e (.c (.rp ⟨w2.heap.size + 1, 0, none⟩))), (1, .e (.c (.sl a n cp)))], bs := [], ob := [fun _ => True ∧ (0 : Int) ≤ 1 ∧ (1 : Int) ≤ (n : Int)] } _
        (by kernel_rfl) rfl hc4.tl hc4.size (holds_of rfl ⟨⟨trivial, by omega, by omega⟩, trivial⟩) (fun a4 h4 h5 h6 => ?_)
      have hc5 : CRel (env { w3 with drawn := w3.drawn + 1 } [w2.heap.size + 1] noRo) Tryz.f12.ntmps { tl := [(16, .e (.c (.sl (if cp = 1 then a else a.map (·.add (1 * 1))) (n - 1) (cp - 1)))), (0, .e (.c (.str s))), (5, .e (.c (.rp ⟨w2.heap.size, 0, none⟩))), (6, .e (.c (.p 0 0)))], bs := [⟨22, [.sl none 0 0]⟩] } a4 { w3 with drawn := w3.drawn + 1 } := by
        refine ⟨fun d v hd => ?_, h5, h6.trans hc4.defers, rel1 hkw rfl⟩
        simp only [lk] at hd
        split at hd
        · rename_i e; cases hd; subst e; exact h4 16 _ (by rfl)
        · split at hd
          · rename_i e; cases hd; subst e; exact h4 0 _ (by rfl)
          · split at hd
            · rename_i e; cases hd; subst e; exact h4 5 _ (by rfl)
            · split at hd
              · rename_i e; cases hd; subst e; exact h4 6 (.e (.c (.rp ⟨w2.heap.size + 1, 0, none⟩))) (by rfl)
              · cases hd
      refine dgets_op (i := 0) (r := some (.e (.c (.sl none 0 0)))) (σ1 := { tl := [(16, .e (.c (.sl (if cp = 1 then a else a.map (·.add (1 * 1))) (n - 1) (cp - 1)))), (0, .e (.c (.str s))), (5, .e (.c (.rp ⟨w2.heap.size, 0, none⟩))), (6, .e (.c (.p 0 0)))], bs := [⟨22, [.sl none 0 0]⟩] })
        (σ2 := { tl := [(14, .e (.c (.sl none 0 0))), (16, .e (.c (.sl (if cp = 1 then a else a.map (·.add (1 * 1))) (n - 1) (cp - 1)))), (0, .e (.c (.str s))), (5, .e (.c (.rp ⟨w2.heap.size, 0, none⟩))), (6, .e (.c (.p 0 0)))], bs := [⟨22, [.sl none 0 0]⟩] })
        tab_ok hc5 (by kernel_rfl) rfl (by kernel_rfl) (by kernel_rfl) (by kernel_rfl) (fun p hp => by cases hp) (fun a6 w6 hc6 => ⟨sees_none _ _, ?_⟩)
      have hn6 : New w3 w6 := by
        have := hc5.mem.same hc6.mem
        exact ⟨this.os, this.tape, this.output, this.size, this.block⟩
      -- the append
      cases l with
      | nil => simp at hll; omega
      | cons s0 ws =>
      simp only [List.length_cons] at hll hlen
      have hws : StrsAt B w6 (if cp = 1 then a else a.map (·.add 1)) (n - 1) (cp - 1) ws := (hl3.keep (hn6.keep B)).tail
      obtain ⟨ad, had⟩ : ∃ ad, (if cp = 1 then a else a.map (·.add 1)) = some ad := by
        cases ws with
        | nil => simp at hll; omega
        | cons s1 ws' => obtain ⟨ad, h, _⟩ := hws.at_ 0 s1 rfl; exact ⟨ad, h⟩
      rw [had] at hws
      have hadd : (if cp = 1 then a else a.map (·.add (1 * 1))) = some ad := had
      obtain ⟨i9, hi9, hz9⟩ : ∃ i, Tryz.prog.info? 9 = some i ∧ i.zero.map (fun z => z.cells) = some #[.string ⟨#[]⟩] ∧ i.size = 1 ∧ i.bytes = 16 := by
        have := info9
        cases hi : Tryz.prog.info? 9 with
        | none => rw [hi] at this; cases this
        | some i => rw [hi] at this; simp only [Option.map_some, Option.some.injEq, Prod.mk.injEq] at this; exact ⟨i, rfl, this.1, this.2⟩
      obtain ⟨hz, hs9, hb9⟩ := hz9
      obtain ⟨z, hz1, hz2⟩ : ∃ z, i9.zero = some z ∧ z.cells = #[.string ⟨#[]⟩] := by
        cases h : i9.zero with
        | none => rw [h] at hz; cases hz
        | some z => rw [h] at hz; simp only [Option.map_some, Option.some.injEq] at hz; exact ⟨z, rfl, hz⟩
      have hl63 : (0 : Nat) + (n - 1) ≤ maxLen := Nat.le_trans (by omega : 0 + (n - 1) ≤ 1000000) (by decide)
      obtain ⟨v', w7, hrun, hown, hgrow, _, _⟩ := run_append_own_at (P := Tryz.prog) w6 0 22 22 9 i9 z 1 16 Tryz.underlying22 hi9 hz1 hs9 hb9 (by rw [hz2]; rfl) (by decide)
        (.slice none 0 0) 0 [] ⟨rfl, .inl ⟨rfl, rfl⟩⟩ ad (n - 1) (cp - 1) (ws.map Value.string) (by simp; omega) hws.news
        (fun u hu => by obtain ⟨x, _, rfl⟩ := List.mem_map.1 hu; rfl) hl63 (by omega) (Nat.zero_le _)
      have hblk7 : ∀ j, j < w6.heap.size → w7.heap[j]? = w6.heap[j]? := fun j hj => hgrow.block j hj (by simp [Value.ownBlock])
      have hn7 : New w6 w7 := ⟨hgrow.os, hgrow.tape, hgrow.output, hgrow.size, hblk7⟩
      rw [List.nil_append, Nat.zero_add] at hown
      obtain ⟨a', c', rfl, hws'⟩ := StrsAt.of_row (B := B) hown
      have hev14 : a6.eval (.tmp 14) = .slice none 0 0 := ev_ok (σ := { tl := _, bs := [] }) (v := .e (.c (.sl none 0 0))) hc6.tl rfl
      have hev16 : a6.eval (.tmp 16) = .slice (some ad) (n - 1) (cp - 1) := by
        rw [← hadd]
        exact ev_ok (σ := { tl := _, bs := [] }) (v := .e (.c (.sl (if cp = 1 then a else a.map (·.add (1 * 1))) (n - 1) (cp - 1)))) hc6.tl rfl
      have hkw6 : w6.heap[w2.heap.size + 1]? = some (.cells (plainR [.sl none 0 0]) 22 (0, 0)) := by rw [hn6.block _ (lt_of_block hkw)]; exact hkw
      have hkw7 : w7.heap[w2.heap.size + 1]? = some (.cells (plainR [.sl none 0 0]) 22 (0, 0)) := by rw [hblk7 _ (lt_of_block hkw6)]; exact hkw6
      refine dgets_opR (i := 3) (w' := w7) (v := .slice a' (n - 1) c') (by kernel_rfl) rfl rfl ?_ ⟨sees_none _ _, ?_⟩
      · simp [execOp, resolve, invoke, builtin, hev14, hev16, hrun]
      have hc7 : CRel (env w7 [w2.heap.size + 1] noRo) Tryz.f12.ntmps { tl := [(17, .e (.c (.sl a' (n - 1) c'))), (0, .e (.c (.str s))), (5, .e (.c (.rp ⟨w2.heap.size, 0, none⟩))), (6, .e (.c (.p 0 0)))], bs := [⟨22, [.sl none 0 0]⟩] } (a6.put (some 17) (.slice a' (n - 1) c')) w7 := by
        refine ⟨fun d v hd => ?_, by rw [Act.put_size]; exact hc6.size, by rw [Act.put_defers']; exact hc6.defers, rel1 hkw7 rfl⟩
        simp only [lk] at hd
        split at hd
        · rename_i e; cases hd; subst e
          show (a6.tmps.setIfInBounds 17 _)[17]? = _
          rw [Array.getElem?_setIfInBounds_self_of_lt (by rw [hc6.size]; decide)]
          rfl
        · split at hd
          · rename_i e; cases hd; subst e
            show (a6.tmps.setIfInBounds 17 _)[0]? = _
            rw [Array.getElem?_setIfInBounds_ne (by decide)]; exact hc6.tl 0 _ (by rfl)
          · split at hd
            · rename_i e; cases hd; subst e
              show (a6.tmps.setIfInBounds 17 _)[5]? = _
              rw [Array.getElem?_setIfInBounds_ne (by decide)]; exact hc6.tl 5 _ (by rfl)
            · split at hd
              · rename_i e; cases hd; subst e
                show (a6.tmps.setIfInBounds 17 _)[6]? = _
                rw [Array.getElem?_setIfInBounds_ne (by decide)]; exact hc6.tl 6 (.e (.c (.p 0 0))) (by rfl)
              · cases hd
      refine dgets_op (i := 4) (r := none) (σ1 := { tl := [(17, .e (.c (.sl a' (n - 1) c'))), (0, .e (.c (.str s))), (5, .e (.c (.rp ⟨w2.heap.size, 0, none⟩))), (6, .e (.c (.p 0 0)))], bs := [⟨22, [.sl a' (n - 1) c']⟩] })
        (σ2 := { tl := [(17, .e (.c (.sl a' (n - 1) c'))), (0, .e (.c (.str s))), (5, .e (.c (.rp ⟨w2.heap.size, 0, none⟩))), (6, .e (.c (.p 0 0)))], bs := [⟨22, [.sl a' (n - 1) c']⟩] })
        tab_ok hc7 (by kernel_rfl) rfl (by kernel_rfl) (by kernel_rfl) (by kernel_rfl) (fun p hp => by cases hp) (fun a8 w8 hc8 => ⟨sees_none _ _, ?_⟩)
      refine dgets_done 0 (by kernel_rfl) ?_
      have hsz8 : w7.heap.size ≤ w8.heap.size := by rw [hc8.mem.size]; exact Nat.le_add_right _ _
      have hblk8 : ∀ j, j < w7.heap.size → j ≠ w2.heap.size + 1 → w8.heap[j]? = w7.heap[j]? := fun j hj hne => hc8.mem.keep j hj (fun i hi e => by
        have hi1 : i < 1 := hi
        have : i = 0 := by omega
        subst this
        exact hne e.symm)
      have hn27 : New w2 w7 := (hn3.trans hn6).trans hn7
      have hn28 : New w2 w8 := ⟨hc8.mem.os.trans hn27.os, hc8.mem.tape.trans hn27.tape, hc8.mem.output.trans hn27.output, Nat.le_trans hn27.size hsz8, fun j hj => by
        rw [hblk8 j (Nat.lt_of_lt_of_le hj hn27.size) (by omega)]; exact hn27.block j hj⟩
      have hkd8 : Box w8 w2.heap.size 55 (.func (.func df) #[] dc) := by
        have h7 : Box w7 w2.heap.size 55 (.func (.func df) #[] dc) := hkd.keep ((hn6.trans hn7).keep B)
        unfold Box
        rw [hblk8 _ (lt_of_block h7) (by omega)]
        exact h7
      have hkw8 : Box w8 (w2.heap.size + 1) 22 (.slice a' (n - 1) c') := hc8.mem.cells 0 _ rfl
      have hws8 : StrsAt B w8 a' (n - 1) c' ws := by
        refine ⟨hws'.len, hws'.cap, fun j x hj => ?_⟩
        obtain ⟨ad', g1, g2, g3⟩ := hws'.at_ j x hj
        have hlt := World.block_lt_of_cell? w7 _ g2
        rw [addr_add_block] at hlt
        have hne : ad'.block ≠ w2.heap.size + 1 := by
          intro e
          have hb := hown.2
          rcases hb with ⟨hb1, hb2⟩ | ⟨g, cap, cur, hb1, _, hb3, _⟩
          · simp only [Value.slice.injEq] at hb1
            rw [hb1.1] at g1; cases g1
          · simp only [Value.slice.injEq] at hb1
            rw [hb1.1] at g1
            simp only [Option.some.injEq] at g1
            rw [← g1] at e
            simp only at e
            subst e
            rw [hkw7] at hb3
            simp only [Option.some.injEq, Obj.cells.injEq] at hb3
            exact absurd hb3.2.1 (by decide)
        have hbe := hblk8 ad'.block hlt hne
        refine ⟨ad', g1, ?_, ?_⟩
        · have e : w8.cell? (ad'.add j) = w7.cell? (ad'.add j) := World.cell?_of_block (by rw [addr_add_block]; exact hbe)
          rw [e]; exact g2
        · rcases g3 with g3 | ⟨cx, T, fr, g4, g5⟩
          · exact .inl g3
          · exact .inr ⟨cx, T, fr, by rw [hbe]; exact g4, g5⟩
      have hc9 := hc8.anew B [(0, .e (.c (.str s))), (5, .e (.c (.rp ⟨w2.heap.size, 0, none⟩))), (6, .e (.c (.rp ⟨w2.heap.size + 1, 0, none⟩)))] [] [] ⟨by rfl, by rfl, by rfl, trivial⟩
      exact new_end hg s (s0 :: ws) d hp (hn12.trans hn28) w2.heap.size (w2.heap.size + 1) df dc hkd8 (hrd.keep (hn28.keep B)) ⟨a', n - 1, c', hkw8, hws8⟩ hc9 (by kernel_rfl) (by kernel_rfl) (by kernel_rfl) (by kernel_rfl) (fun b => ⟨by kernel_rfl, by kernel_rfl, by kernel_rfl, by kernel_rfl⟩)
    · refine gets_run tab_ok 25 (hc2 [false]) (holds_of (obs := [fun _ => decide ((n : Int) > 1) = false]) (by kernel_rfl) ⟨by simp; omega, trivial⟩) (fun a3 w3 hc3 => ?_)
      have hr3 := hc3.mem.bs (bs' := [⟨55, [.fv df dc]⟩, ⟨22, [.sl none 0 0]⟩]) (by kernel_rfl)
      have hn3 := (Over.env w2 _).rel hc3.mem
      have hdrop : l.drop 1 = [] := List.drop_eq_nil_of_le (by have := hl.len; omega)
      have hc4 := hc3.anew B [(0, .e (.c (.str s))), (5, .e (.c (.rp ⟨w2.heap.size, 0, none⟩))), (6, .e (.c (.rp ⟨w2.heap.size + 1, 0, none⟩)))] [] [] ⟨by rfl, by rfl, by rfl, trivial⟩
      refine new_end hg s l d hp (hn12.trans hn3) w2.heap.size (w2.heap.size + 1) df dc (box_of hr3 (i := 0) rfl rfl rfl) (hrd.keep (hn3.keep B)) ⟨none, 0, 0, box_of hr3 (i := 1) rfl rfl rfl, by rw [hdrop]; exact ⟨rfl, Nat.le_refl _, fun j s h => by simp at h⟩⟩ hc4 (by kernel_rfl) (by kernel_rfl) (by kernel_rfl) (by kernel_rfl) (fun b => ⟨by kernel_rfl, by kernel_rfl, by kernel_rfl, by kernel_rfl⟩)

end Go.Proofs.YtoihipolfdhhnaaGreatDoor

namespace Go.Proofs.YtoihipolfdhhnaaGreatDoor

/-- Two machines share nothing. -/
def Sep (w : World) (b b2 : Nat) : Prop := ∀ k, Own w b k → ¬ Own w b2 k

theorem Own.lt {B : Bd} {b : Nat} {w : World} {m : M} (hm : MOk B w b m) {k : Nat} (h : Own w b k) : k < w.heap.size := by
  obtain ⟨_, _, _, _, _, hM⟩ := hm
  rcases (hM.own k).1 h with rfl | rfl
  · exact lt_of_block hM.cells
  · obtain ⟨_, h2⟩ := hM.owns
    rcases h2 with ⟨h3, _⟩ | ⟨g, cap, cur, h3, _, h5, _⟩
    · cases h3
    · simp only [Value.slice.injEq, Option.some.injEq, Addr.mk.injEq] at h3
      obtain ⟨⟨rfl, _⟩, _, _⟩ := h3
      exact lt_of_block h5

/-- One machine's work leaves the other. -/
theorem Evo.other {B : Bd} {b b2 : Nat} {w w' : World} {m m2 : M} (h : Evo w b w') (hm : MOk B w b m) (hm2 : MOk B w b2 m2) (hs : Sep w b b2) : MOk B w' b2 m2 ∧ Sep w' b b2 := by
  have hkeep := h.keep hm
  have hm20 := hm2
  obtain ⟨a, n, c, th, row, hM⟩ := hm2
  have hb2 : w'.heap[b2]? = w.heap[b2]? := h.block b2 (lt_of_block hM.cells) (fun ho => hs b2 ho (.inl rfl))
  have hcell : w'.cell? ⟨b2, 3, none⟩ = w.cell? ⟨b2, 3, none⟩ := World.cell?_of_block hb2
  refine ⟨⟨a, n, c, th, row, hM.base, by rw [hb2]; exact hM.cells, ?_, hM.todo.mono (fun k x hx => hx.keep hkeep), hM.len, thn_keep hM.thn hkeep, hM.glob.keep hkeep⟩, fun k ho ho2 => ?_⟩
  · obtain ⟨h1, h2⟩ := hM.owns
    refine ⟨h1, ?_⟩
    rcases h2 with h2 | ⟨g, cap, cur, h3, h4, h5, h6⟩
    · exact .inl h2
    · refine .inr ⟨g, cap, cur, h3, h4, ?_, h6⟩
      simp only [Value.slice.injEq] at h3
      rw [h.block g (lt_of_block h5) (fun ho => hs g ho ((hM.own g).2 (.inr h3.1)))]
      exact h5
  · have ho2' : Own w b2 k := by
      rcases ho2 with ho2 | ⟨n', c', ho2⟩
      · exact .inl ho2
      · exact .inr ⟨n', c', by rw [← hcell]; exact ho2⟩
    rcases h.fresh k ho with h1 | h1
    · exact hs k h1 ho2'
    · have := ho2'.lt hm20; omega

/-- A call of New. -/
theorem gets_new {B : Bd} {ε : Env} {nt : Nat} {f : FuncId} {k : List Item} {σ : St} {a : Act} {w : World} {R : Ending → World → Prop} (d : Nat) (orc : List Bool) (s : ByteArray) (l : List ByteArray) (sl : E) (ad : Option Addr) (n cp : Nat) (pd : Dp)
    (hc : CRel ε nt σ a w) (hg : GlobOk B w) (hx : callX k σ = some ⟨12, [.c (.str s), sl], [], #[]⟩) (hsl : sl.real ε.ρ = .slice ad n cp) (hl : StrsAt B w ad n cp l) (hlen : l.length ≤ 1000000) (hp : progOf s = some pd) (hd : dstX k = some d) (hdn : Nat.blt d nt = true)
    (hb : (σ.tl.all fun x => x.2.below σ.bs.length) = true) (hb' : (σ.bs.all fun b => b.cs.all (C.below σ.bs.length)) = true)
    (h : ∀ a' w' ku b, New w w' → w.heap.size ≤ ku → UOk B w' ku b ((m0 s).push (.start pd (l.drop 1))) → (∀ j, Own w' b j → w.heap.size ≤ j) → CRel (ε.next σ.bs.length w' noRo) nt { tl := (d, .e (.c (.rp ⟨ku, 0, none⟩))) :: σ.tl, bs := σ.bs, orc := orc } a' w' → Gets Tryz.prog f (popX k) a' w' R) :
    Gets Tryz.prog f k a w R := by
  refine gets_call hc hx (by kernel_rfl) (S := MadeU B s l w) (by
    have := new_calls (B := B) (w := w) hg s l ad n cp hl hlen
    have e : CallX.real ε.ρ ⟨12, [.c (.str s), sl], [], #[]⟩ = #[.string s, .slice ad n cp] := by simp only [CallX.real, List.map_cons, List.map_nil, hsl]; rfl
    rw [e]; exact this) (fun e w' ⟨h1, h2⟩ => ?_)
  rw [hp] at h2
  obtain ⟨ku, b, e1, e2, e3, e4⟩ := h2
  refine ⟨_, e1, ?_⟩
  rw [hd]
  refine h _ w' ku b h1 e2 e3 e4 ?_
  have hlt : ∀ i b, σ.bs[i]? = some b → ε.ρ i < w.heap.size := fun i b hi => lt_of_block (hc.mem.cells i b hi)
  have := CRel.next (ε := ε) (nt := nt) (tl := (d, .e (.c (.rp ⟨ku, 0, none⟩))) :: σ.tl) (bs' := σ.bs) (a := a.put (some d) (bp ku)) (w' := w') σ.bs.length noRo (hc.tl.lay hc.size d hdn _ rfl) (by rw [Act.put_size]; exact hc.size) (by rw [Act.put_defers']; exact hc.defers) rfl hc.mem.inj
    (fun i b hi => by rw [h1.block _ (hlt i b hi)]; exact hc.mem.cells i b hi) (fun _ _ h => by cases h) (by simp only [List.all_cons, hb]; rfl) hb'
  exact ⟨this.tl, this.size, this.defers, this.mem⟩

/-- A call of New for which there is no program. -/
theorem gets_new_none {B : Bd} {ε : Env} {nt : Nat} {f : FuncId} {k : List Item} {σ : St} {a : Act} {w : World} {R : Ending → World → Prop} (d : Nat) (orc : List Bool) (s : ByteArray) (l : List ByteArray) (sl : E) (ad : Option Addr) (n cp : Nat)
    (hc : CRel ε nt σ a w) (hg : GlobOk B w) (hx : callX k σ = some ⟨12, [.c (.str s), sl], [], #[]⟩) (hsl : sl.real ε.ρ = .slice ad n cp) (hl : StrsAt B w ad n cp l) (hlen : l.length ≤ 1000000) (hp : progOf s = none) (hd : dstX k = some d) (hdn : Nat.blt d nt = true)
    (hb : (σ.tl.all fun x => x.2.below σ.bs.length) = true) (hb' : (σ.bs.all fun b => b.cs.all (C.below σ.bs.length)) = true)
    (h : ∀ a' w', New w w' → CRel (ε.next σ.bs.length w' noRo) nt { tl := (d, .e (.c .nilp)) :: σ.tl, bs := σ.bs, orc := orc } a' w' → Gets Tryz.prog f (popX k) a' w' R) :
    Gets Tryz.prog f k a w R := by
  refine gets_call hc hx (by kernel_rfl) (S := MadeU B s l w) (by
    have := new_calls (B := B) (w := w) hg s l ad n cp hl hlen
    have e : CallX.real ε.ρ ⟨12, [.c (.str s), sl], [], #[]⟩ = #[.string s, .slice ad n cp] := by simp only [CallX.real, List.map_cons, List.map_nil, hsl]; rfl
    rw [e]; exact this) (fun e w' ⟨h1, h2⟩ => ?_)
  rw [hp] at h2
  refine ⟨_, h2, ?_⟩
  rw [hd]
  refine h _ w' h1 ?_
  have hlt : ∀ i b, σ.bs[i]? = some b → ε.ρ i < w.heap.size := fun i b hi => lt_of_block (hc.mem.cells i b hi)
  have := CRel.next (ε := ε) (nt := nt) (tl := (d, .e (.c .nilp)) :: σ.tl) (bs' := σ.bs) (a := a.put (some d) (.pointer none)) (w' := w') σ.bs.length noRo (hc.tl.lay hc.size d hdn _ rfl) (by rw [Act.put_size]; exact hc.size) (by rw [Act.put_defers']; exact hc.defers) rfl hc.mem.inj
    (fun i b hi => by rw [h1.block _ (hlt i b hi)]; exact hc.mem.cells i b hi) (fun _ _ h => by cases h) (by simp only [List.all_cons, hb]; rfl) hb'
  exact ⟨this.tl, this.size, this.defers, this.mem⟩

/-- A call of Next. -/
theorem gets_next {B : Bd} {ε : Env} {nt : Nat} {f : FuncId} {k : List Item} {σ : St} {a : Act} {w : World} {R : Ending → World → Prop} {m m' : M} (N d : Nat) (orc : List Bool) (r : Res) (ku b : Nat) {ad : Option Addr} {n cp : Nat} {rs : List C}
    (hc : CRel ε nt σ a w) (hu : UOk B w ku b m) (hm' : next N m r = m') (hok : okNext N m r) (hx : callX k σ = some ⟨14, [.c (.rp ⟨ku, 0, none⟩), .a rs], [], #[]⟩) (hrs : (E.a rs).real ε.ρ = resV r ad n cp) (hnm : StrsAt B w ad n cp r.names) (hd : dstX k = some d) (hdn : Nat.blt d nt = true)
    (hts : (σ.bs.all fun b => b.ty != 66 && b.ty != 84) = true)
    (hb : (σ.tl.all fun x => x.2.below σ.bs.length) = true) (hb' : (σ.bs.all fun b => b.cs.all (C.below σ.bs.length)) = true)
    (h : ∀ a' w', Evo w b w' → UOk B w' ku b m' → CRel (ε.next σ.bs.length w' noRo) nt { tl := (d, .e (.a m'.call.cs)) :: σ.tl, bs := σ.bs, orc := orc } a' w' → Gets Tryz.prog f (popX k) a' w' R) :
    Gets Tryz.prog f k a w R := by
  refine gets_call hc hx (by kernel_rfl) (S := UNextR B ku b w m') (by
    have := unext_calls hu r ad n cp hnm N hok
    rw [hm'] at this
    have e : CallX.real ε.ρ ⟨14, [.c (.rp ⟨ku, 0, none⟩), .a rs], [], #[]⟩ = #[bp ku, resV r ad n cp] := by simp only [CallX.real, List.map_cons, List.map_nil, hrs]; rfl
    rw [e]; exact this) (fun e w' ⟨e1, e2, e3⟩ => ⟨_, e1, ?_⟩)
  rw [hd]
  refine h _ w' e3 e2 ?_
  have hno : ∀ i nb, σ.bs[i]? = some nb → w'.heap[ε.ρ i]? = w.heap[ε.ρ i]? := by
    intro i nb hi
    have hcell := hc.mem.cells i nb hi
    have hty := List.all_eq_true.1 hts nb (List.mem_of_getElem? hi)
    simp only [Bool.and_eq_true, bne_iff_ne] at hty
    obtain ⟨_, _, _, _, _, _, _, hM⟩ := hu
    exact e3.block _ (lt_of_block hcell) (hM.notown hcell hty.1 hty.2)
  have := CRel.next (ε := ε) (nt := nt) (tl := (d, .e (.a m'.call.cs)) :: σ.tl) (bs' := σ.bs) (a := a.put (some d) (.agg (plainR m'.call.cs))) (w' := w') σ.bs.length noRo (hc.tl.lay hc.size d hdn _ rfl) (by rw [Act.put_size]; exact hc.size) (by rw [Act.put_defers']; exact hc.defers) rfl hc.mem.inj
    (fun i nb hi => by rw [hno i nb hi]; exact hc.mem.cells i nb hi) (fun _ _ h => by cases h) (by simp only [List.all_cons, hb]; rfl) hb'
  exact ⟨this.tl, this.size, this.defers, this.mem⟩

end Go.Proofs.YtoihipolfdhhnaaGreatDoor

namespace Go.Proofs.YtoihipolfdhhnaaGreatDoor

/-- A utility that was made in the statement's own time. -/
structure LU (B : Bd) (w0 w : World) (ku b : Nat) (m : M) : Prop where
  u : UOk B w ku b m
  own : ∀ j, Own w b j → w0.heap.size ≤ j

theorem LU.fresh {B : Bd} {w0 w w' : World} {ku b : Nat} {m : M} (h : LU B w0 w ku b m) (hn : New w w') : LU B w0 w' ku b m :=
  ⟨⟨h.u.1, h.u.2.1.keep (hn.keep B), (h.u.2.2.fresh hn).1⟩, fun j ho => h.own j (hfr h.u.2.2 hn j ho)⟩

theorem Sep.fresh {B : Bd} {w w' : World} {b b2 : Nat} {m m2 : M} (h : Sep w b b2) (hm : MOk B w b m) (hm2 : MOk B w b2 m2) (hn : New w w') : Sep w' b b2 :=
  fun k h1 h2 => h k (hfr hm hn k h1) (hfr hm2 hn k h2)

theorem Rel.grow {ε : Env} {bs ex : List NB} {w w' : World} (h : Rel ε bs w) (h' : Rel ε (bs ++ ex) w') : New w w' := by
  refine ⟨h'.os.trans h.os.symm, h'.tape.trans h.tape.symm, h'.output.trans h.output.symm, by rw [h.size, h'.size, List.length_append]; omega, fun k hk => ?_⟩
  by_cases hn : ∃ i, i < bs.length ∧ ε.ρ i = k
  · obtain ⟨i, hi, rfl⟩ := hn
    rw [h.cells i _ (List.getElem?_eq_getElem hi), h'.cells i _ (by rw [List.getElem?_append_left hi]; exact List.getElem?_eq_getElem hi)]
  · have hlt : k < ε.wb.heap.size := by
      rcases Nat.lt_or_ge k ε.wb.heap.size with h1 | h1
      · exact h1
      · have := h.size
        have h0 := h.n0
        exact absurd ⟨ε.n0 + (k - ε.wb.heap.size), by omega, by rw [h.new _ (by omega)]; omega⟩ hn
    have hno : ∀ i, i < ε.n0 → ε.ρ i ≠ k := fun i hi e => hn ⟨i, Nat.lt_of_lt_of_le hi h.n0, e⟩
    rw [h.keep k hlt hno, h'.keep k hlt hno]

theorem Over.step {w w1 w2 : World} {ε : Env} {bs : List NB} (h : Over w ε) (hr : Rel ε bs w1) (hn : New w w2) (ro : Addr → Option Value) : Over w (ε.next bs.length w2 ro) := by
  refine ⟨hn, fun i hi => ?_⟩
  have hi' : i < bs.length := hi
  simp only [Env.next, if_pos hi']
  rcases Nat.lt_or_ge i ε.n0 with h1 | h1
  · exact h.names i h1
  · rw [hr.new i h1]; have := h.new.size; omega

theorem law_next {B : Bd} {w0 w1 : World} {ε : Env} {nt : Nat} {f : FuncId} {k : List Item} {σ : St} {a : Act} {R : Ending → World → Prop} {m m' : M} (n N d : Nat) (orc : List Bool) (r : Res) (ku b : Nat) (tl : List (Nat × SV)) (ex : List NB) {ad : Option Addr} {nn cp : Nat} {rs : List C}
    (hov : Over w0 ε) (hc : CRel ε nt σ a w1) (hu : LU B w0 w1 ku b m) {obs : List (Env → Prop)} (hob : (run Tab nt n k σ).2.ob = obs) (hobs : AllP obs ε) (hbs : (run Tab nt n k σ).2.bs = σ.bs ++ ex)
    (hpick : tl.map (fun x => lk x.1 (run Tab nt n k σ).2.tl) = tl.map (fun x => some x.2))
    (hx : callX (run Tab nt n k σ).1 (run Tab nt n k σ).2 = some ⟨14, [.c (.rp ⟨ku, 0, none⟩), .a rs], [], #[]⟩) (hrs : (E.a rs).real ε.ρ = resV r ad nn cp) (hnm : StrsAt B w1 ad nn cp r.names)
    (hd : dstX (run Tab nt n k σ).1 = some d) (hdn : Nat.blt d nt = true) (hts : ((σ.bs ++ ex).all fun b => b.ty != 66 && b.ty != 84) = true)
    (hb : (tl.all fun x => x.2.below (σ.bs ++ ex).length) = true) (hb' : ((σ.bs ++ ex).all fun b => b.cs.all (C.below (σ.bs ++ ex).length)) = true)
    (hm' : next N m r = m') (hok : okNext N m r)
    (h : ∀ ε' a' w', Over w0 ε' → LU B w0 w' ku b m' → (∀ ku2 b2 m2, LU B w0 w1 ku2 b2 m2 → Sep w1 b b2 → LU B w0 w' ku2 b2 m2 ∧ Sep w' b b2) → CRel ε' nt { tl := (d, .e (.a m'.call.cs)) :: tl, bs := σ.bs ++ ex, orc := orc } a' w' → Gets Tryz.prog f (popX (run Tab nt n k σ).1) a' w' R) :
    Gets Tryz.prog f k a w1 R := by
  refine gets_run tab_ok n hc (holds_of hob hobs) (fun a2 w2 hc2 => ?_)
  have hr2 := hc2.mem.bs hbs
  have hn2 := hc.mem.grow hr2
  have hu2 := hu.fresh hn2
  have hN2 := hov.rel hr2
  have hx' : callX (run Tab nt n k σ).1 (run Tab nt n k σ).2 = some ⟨14, [.c (.rp ⟨ku, 0, none⟩), .a rs], [], #[]⟩ := hx
  refine gets_call hc2 hx' (by kernel_rfl) (S := UNextR B ku b w2 m') (by
    have := unext_calls hu2.u r ad nn cp (hnm.keep (hn2.keep B)) N hok
    rw [hm'] at this
    have e : CallX.real ε.ρ ⟨14, [.c (.rp ⟨ku, 0, none⟩), .a rs], [], #[]⟩ = #[bp ku, resV r ad nn cp] := by simp only [CallX.real, List.map_cons, List.map_nil, hrs]; rfl
    rw [e]; exact this) (fun e w' ⟨e1, e2, e3⟩ => ⟨_, e1, ?_⟩)
  rw [hd]
  have hN3 : New w0 w' := Evo.new hN2 e3 hu2.own
  refine h (ε.next (σ.bs ++ ex).length w' noRo) _ w' (hov.step hr2 hN3 noRo) ⟨e2, fun j ho => ?_⟩ (fun ku2 b2 m2 hu3 hs => ?_) ?_
  · rcases e3.fresh j ho with h1 | h1
    · exact hu2.own j h1
    · have := hN2.size; omega
  · have hu3' := hu3.fresh hn2
    have hs' := hs.fresh hu.u.2.2 hu3.u.2.2 hn2
    obtain ⟨h1, h2⟩ := e3.other hu2.u.2.2 hu3'.u.2.2 hs'
    refine ⟨⟨⟨hu3.u.1, hu3'.u.2.1.keep (e3.keep hu2.u.2.2), h1⟩, fun j ho => ?_⟩, h2⟩
    obtain ⟨_, _, _, _, _, hM⟩ := hu3'.u.2.2
    have hb2 : w'.heap[b2]? = w2.heap[b2]? := e3.block b2 (lt_of_block hM.cells) (fun ho => hs' b2 ho (.inl rfl))
    have hcell : w'.cell? ⟨b2, 3, none⟩ = w2.cell? ⟨b2, 3, none⟩ := World.cell?_of_block hb2
    refine hu3'.own j ?_
    rcases ho with ho | ⟨n', c', ho⟩
    · exact .inl ho
    · exact .inr ⟨n', c', by rw [← hcell]; exact ho⟩
  · have hno : ∀ i nb, (σ.bs ++ ex)[i]? = some nb → w'.heap[ε.ρ i]? = w2.heap[ε.ρ i]? := by
      intro i nb hi
      have hcell := hr2.cells i nb hi
      have hty := List.all_eq_true.1 hts nb (List.mem_of_getElem? hi)
      simp only [Bool.and_eq_true, bne_iff_ne] at hty
      obtain ⟨_, _, _, _, _, hM⟩ := hu2.u.2.2
      exact e3.block _ (lt_of_block hcell) (hM.notown hcell hty.1 hty.2)
    have hc2' := hc2.pick tl (σ.bs ++ ex) hpick hbs
    have := CRel.next (ε := ε) (nt := nt) (tl := (d, .e (.a m'.call.cs)) :: tl) (bs' := σ.bs ++ ex) (a := a2.put (some d) (.agg (plainR m'.call.cs))) (w' := w') (σ.bs ++ ex).length noRo (hc2'.tl.lay hc2.size d hdn _ rfl) (by rw [Act.put_size]; exact hc2.size) (by rw [Act.put_defers']; exact hc2.defers) rfl hr2.inj
      (fun i nb hi => by rw [hno i nb hi]; exact hr2.cells i nb hi) (fun _ _ h => by cases h) (by simp only [List.all_cons, hb]; rfl) hb'
    exact ⟨this.tl, this.size, this.defers, this.mem⟩

end Go.Proofs.YtoihipolfdhhnaaGreatDoor

namespace Go.Proofs.YtoihipolfdhhnaaGreatDoor

abbrev sCat : ByteArray := ⟨#[99, 97, 116]⟩
abbrev sA : ByteArray := ⟨#[47, 97]⟩
abbrev sX : ByteArray := ⟨#[120]⟩
abbrev sFalse : ByteArray := ⟨#[102, 97, 108, 115, 101]⟩
abbrev sDog : ByteArray := ⟨#[100, 111, 103]⟩

def u0 : M := (m0 sCat).push (.start .cat [sA])
def u1 : M := ⟨sCat, 0, [.exit0, .each [sA] .cat], some (.tries sA .cat), { op := 2, path := sA, want := 4 }, false⟩
def u2 : M := ⟨sCat, 0, [.exit0, .each [sA] .cat], some (.pours 4 1 (.closes [4])), { op := 4, fd := 4, n := 256 }, false⟩
def u3 : M := ⟨sCat, 0, [.exit0, .each [sA] .cat], some (.say 1 sX (.pours 4 1 (.closes [4]))), { op := 5, fd := 1, text := sX }, false⟩
def u5 : M := ⟨sCat, 0, [.exit0, .each [sA] .cat], some (.closes [4]), { op := 3, fd := 4 }, false⟩
def u6 : M := ⟨sCat, 0, [], none, { op := 20, n := 0 }, true⟩
def v0 : M := (m0 sFalse).push (.start .fls [])
def v1 : M := ⟨sFalse, 1, [], none, { op := 20, n := 1 }, true⟩

theorem prog_cat : progOf sCat = some .cat := by simp [progOf]
theorem prog_false : progOf sFalse = some .fls := by simp [progOf]
theorem prog_dog : progOf sDog = none := by simp [progOf]

theorem n1 : next 10 u0 {} = u1 := by
  simp [next, u0, m0, M.push, turn, runK, runD, runEach, runE, M.tries, M.sys, u1]
theorem k1 : okNext 10 u0 {} := by
  simp [okNext, u0, m0, M.push, okTurn, okK, okD, okEach, okE, runK, runD, runEach, runE, M.tries, M.sys]
theorem n2 : next 10 u1 { n := 4 } = u2 := by
  simp [next, u1, u2, turn, runR, M.tried, M.pours, M.sys]
theorem k2 : okNext 10 u1 { n := 4 } := by
  simp [okNext, u1, okTurn, okR, runR, M.tried, M.pours, M.sys, ByteArray.size]
theorem n3 : next 10 u2 { text := sX } = u3 := by
  simp [next, u2, u3, turn, runR, M.poured, M.say, M.sys]
theorem k3 : okNext 10 u2 { text := sX } := by
  simp [okNext, u2, okTurn, okR, okK, runR, M.poured, M.say, M.sys]
theorem n4 : next 10 u3 { n := 1 } = u2 := by
  simp [next, u3, u2, turn, runR, runK, M.said, M.pours, M.sys, ByteArray.size]
theorem k4 : okNext 10 u3 { n := 1 } := by
  simp [okNext, u3, okTurn, okR, okK, runR, runK, M.said, M.pours, M.sys, ByteArray.size]
theorem n5 : next 10 u2 {} = u5 := by
  simp [next, u2, u5, turn, runR, runK, M.poured, M.closes, M.sys]
theorem k5 : okNext 10 u2 {} := by
  simp [okNext, u2, okTurn, okR, okK, runR, runK, M.poured, M.closes, M.sys]
theorem n6 : next 10 u5 {} = u6 := by
  simp [next, u5, u6, turn, runR, runK, runEach, M.closes, M.exit]; decide
theorem k6 : okNext 10 u5 {} := by
  simp [okNext, u5, okTurn, okR, okK, okEach, runR, runK, runEach, M.closes, M.exit]
theorem n7 : next 10 v0 {} = v1 := by
  simp [next, v0, v1, m0, M.push, turn, runK, runD, M.exit]; decide
theorem k7 : okNext 10 v0 {} := by
  simp [okNext, v0, m0, M.push, okTurn, okK, okD, runK, runD, M.exit]

end Go.Proofs.YtoihipolfdhhnaaGreatDoor

namespace Go.Proofs.YtoihipolfdhhnaaGreatDoor

theorem strsAt_new {B : Bd} {ε : Env} {bs : List NB} {w : World} (h : Rel ε bs w) (i : Nat) (l : List ByteArray) (hi : bs[i]? = some ⟨9, l.map .str⟩) : StrsAt B w (some ⟨ε.ρ i, 0, none⟩) l.length l.length l := by
  have hc := h.cells i _ hi
  refine ⟨rfl, Nat.le_refl _, fun j s hj => ⟨_, rfl, ?_, .inr ⟨_, _, _, hc, by show (9 : Nat) ≠ 66; decide, by show (9 : Nat) ≠ 84; decide, by show (9 : Nat) ≠ 39; decide, fun e => absurd e (by show (9 : Nat) ≠ 35; decide)⟩⟩⟩
  rw [addr_add]
  simp [World.cell?, hc, hj, C.real]

theorem strsAt_nil (B : Bd) (w : World) : StrsAt B w none 0 0 [] := ⟨rfl, Nat.le_refl _, fun j s h => by simp at h⟩

theorem shown_calls {B : Bd} (w : World) (hg : GlobOk B w) : Calls Tryz.prog 10 #[] w (Gives (.bool true) (fun _ => True) w) := by
  refine enter (B := B) tab_ok [] [] [] 20 Tryz.func10 rfl rfl rfl (obs := []) (by kernel_rfl) trivial (fun a1 w1 hc1 => ?_)
  replace hc1 := hc1.pickx [(10, .e (.c (.nsl 0 0 2 2)))] [⟨9, [.str sCat, .str sA]⟩] [] (by kernel_rfl) (by kernel_rfl)
  have hov1 := Over.env w (sro B w)
  have hN1 := hov1.rel hc1.mem
  -- the first New
  refine gets_new 11 [] sCat [sCat, sA] (.c (.nsl 0 0 2 2)) (some ⟨w.heap.size, 0, none⟩) 2 2 .cat hc1 (hg.keep (hN1.keep B)) (by kernel_rfl) rfl (strsAt_new (B := B) hc1.mem 0 [sCat, sA] rfl) (by decide) prog_cat (by kernel_rfl) (by kernel_rfl) (by kernel_rfl) (by kernel_rfl) (fun a2 w2 ku bu hn2 hku hu hown hc2 => ?_)
  have hN2 := hN1.trans hn2
  have hov2 := hov1.step hc1.mem hN2 noRo
  have hL2 : LU B w w2 ku bu u0 := ⟨hu, fun j ho => Nat.le_trans hN1.size (hown j ho)⟩
  generalize (env0 B w).next 1 w2 noRo = ε2 at hc2 hov2
  refine gets_run tab_ok 10 hc2 (holds_of (obs := []) (by kernel_rfl) trivial) (fun a3 w3 hc3 => ?_)
  have hn3 := hc2.mem.same (hc3.mem.bs (bs' := [⟨9, [.str sCat, .str sA]⟩]) (by kernel_rfl))
  have hL3 := hL2.fresh hn3
  replace hc3 := hc3.pickx [(1, .e (.c (.rp ⟨ku, 0, none⟩)))] [⟨9, [.str sCat, .str sA]⟩] [] (by kernel_rfl) (by kernel_rfl)
  -- the second New
  refine gets_new 12 [] sFalse [] (.c (.sl none 0 0)) none 0 0 .fls hc3 (hg.keep ((hN2.trans hn3).keep B)) (by kernel_rfl) rfl (strsAt_nil B w3) (by decide) prog_false (by kernel_rfl) (by kernel_rfl) (by kernel_rfl) (by kernel_rfl) (fun a4 w4 kv bv hn4 hkv hv hownv hc4 => ?_)
  have hN4 := (hN2.trans hn3).trans hn4
  have hov4 := hov2.step hc3.mem hN4 noRo
  have hL4 := hL3.fresh hn4
  have hV4 : LU B w w4 kv bv v0 := ⟨hv, fun j ho => Nat.le_trans (hN2.trans hn3).size (hownv j ho)⟩
  have hs4 : Sep w4 bu bv := fun j h1 h2 => by
    have h3 := (hfr hL3.u.2.2 hn4 j h1).lt hL3.u.2.2
    have h4 := hownv j h2
    omega
  generalize ε2.next 1 w4 noRo = ε4 at hc4 hov4
  refine gets_run tab_ok 30 hc4 (holds_of (obs := []) (by kernel_rfl) trivial) (fun a5 w5 hc5 => ?_)
  have hn5 := hc4.mem.same (hc5.mem.bs (bs' := [⟨9, [.str sCat, .str sA]⟩]) (by kernel_rfl))
  have hL5 := hL4.fresh hn5
  have hV5 := hV4.fresh hn5
  have hs5 := hs4.fresh hL4.u.2.2 hV4.u.2.2 hn5
  replace hc5 := hc5.pickx [(1, .e (.c (.rp ⟨ku, 0, none⟩))), (2, .e (.c (.rp ⟨kv, 0, none⟩))), (19, .e (.c (.bool false)))] [⟨9, [.str sCat, .str sA]⟩] [] (by kernel_rfl) (by kernel_rfl)
  -- the third New: no program
  refine gets_new_none 20 [] sDog [] (.c (.sl none 0 0)) none 0 0 hc5 (hg.keep ((hN4.trans hn5).keep B)) (by kernel_rfl) rfl (strsAt_nil B w5) (by decide) prog_dog (by kernel_rfl) (by kernel_rfl) (by kernel_rfl) (by kernel_rfl) (fun a6 w6 hn6 hc6 => ?_)
  have hN6 := (hN4.trans hn5).trans hn6
  have hov6 := hov4.step hc5.mem hN6 noRo
  have hL6 := hL5.fresh hn6
  have hV6 := hV5.fresh hn6
  have hs6 := hs5.fresh hL5.u.2.2 hV5.u.2.2 hn6
  generalize ε4.next 1 w6 noRo = ε6 at hc6 hov6
  -- the calls of Next
  refine law_next 40 10 25 [] {} ku bu [(1, .e (.c (.rp ⟨ku, 0, none⟩))), (2, .e (.c (.rp ⟨kv, 0, none⟩)))] [] (rs := ({} : Res).cs none 0 0) (ad := none) (nn := 0) (cp := 0) (obs := []) hov6 hc6 hL6 (by kernel_rfl) trivial (by kernel_rfl) (by kernel_rfl) (by kernel_rfl) rfl (strsAt_nil B w6) (by kernel_rfl) (by kernel_rfl) (by kernel_rfl) (by kernel_rfl) (by kernel_rfl) n1 k1
    (fun ε7 a7 w7 hov7 hL7 hoth7 hc7 => ?_)
  obtain ⟨hV7, hs7⟩ := hoth7 kv bv v0 hV6 hs6
  clear hoth7
  refine law_next 20 10 28 [] { n := 4 } ku bu [(1, .e (.c (.rp ⟨ku, 0, none⟩))), (2, .e (.c (.rp ⟨kv, 0, none⟩))), (3, .e (.c (.p 1 0)))] [⟨39, u1.call.cs⟩] (rs := ({ n := 4 } : Res).cs none 0 0) (ad := none) (nn := 0) (cp := 0) (obs := []) hov7 hc7 hL7 (by kernel_rfl) trivial (by kernel_rfl) (by kernel_rfl) (by kernel_rfl) rfl (strsAt_nil B w7) (by kernel_rfl) (by kernel_rfl) (by kernel_rfl) (by kernel_rfl) (by kernel_rfl) n2 k2
    (fun ε8 a8 w8 hov8 hL8 hoth8 hc8 => ?_)
  obtain ⟨hV8, hs8⟩ := hoth8 kv bv v0 hV7 hs7
  clear hoth8
  refine law_next 20 10 31 [] { text := sX } ku bu [(1, .e (.c (.rp ⟨ku, 0, none⟩))), (2, .e (.c (.rp ⟨kv, 0, none⟩))), (3, .e (.c (.p 1 0))), (4, .e (.c (.p 2 0)))] [⟨39, u2.call.cs⟩] (rs := ({ text := sX } : Res).cs none 0 0) (ad := none) (nn := 0) (cp := 0) (obs := []) hov8 hc8 hL8 (by kernel_rfl) trivial (by kernel_rfl) (by kernel_rfl) (by kernel_rfl) rfl (strsAt_nil B w8) (by kernel_rfl) (by kernel_rfl) (by kernel_rfl) (by kernel_rfl) (by kernel_rfl) n3 k3
    (fun ε9 a9 w9 hov9 hL9 hoth9 hc9 => ?_)
  obtain ⟨hV9, hs9⟩ := hoth9 kv bv v0 hV8 hs8
  clear hoth9
  refine law_next 20 10 34 [] { n := 1 } ku bu [(1, .e (.c (.rp ⟨ku, 0, none⟩))), (2, .e (.c (.rp ⟨kv, 0, none⟩))), (3, .e (.c (.p 1 0))), (4, .e (.c (.p 2 0))), (5, .e (.c (.p 3 0)))] [⟨39, u3.call.cs⟩] (rs := ({ n := 1 } : Res).cs none 0 0) (ad := none) (nn := 0) (cp := 0) (obs := []) hov9 hc9 hL9 (by kernel_rfl) trivial (by kernel_rfl) (by kernel_rfl) (by kernel_rfl) rfl (strsAt_nil B w9) (by kernel_rfl) (by kernel_rfl) (by kernel_rfl) (by kernel_rfl) (by kernel_rfl) n4 k4
    (fun ε10 a10 w10 hov10 hL10 hoth10 hc10 => ?_)
  obtain ⟨hV10, hs10⟩ := hoth10 kv bv v0 hV9 hs9
  clear hoth10
  refine law_next 20 10 37 [] {} ku bu [(1, .e (.c (.rp ⟨ku, 0, none⟩))), (2, .e (.c (.rp ⟨kv, 0, none⟩))), (3, .e (.c (.p 1 0))), (4, .e (.c (.p 2 0))), (5, .e (.c (.p 3 0))), (6, .e (.c (.p 4 0)))] [⟨39, u2.call.cs⟩] (rs := ({} : Res).cs none 0 0) (ad := none) (nn := 0) (cp := 0) (obs := []) hov10 hc10 hL10 (by kernel_rfl) trivial (by kernel_rfl) (by kernel_rfl) (by kernel_rfl) rfl (strsAt_nil B w10) (by kernel_rfl) (by kernel_rfl) (by kernel_rfl) (by kernel_rfl) (by kernel_rfl) n5 k5
    (fun ε11 a11 w11 hov11 hL11 hoth11 hc11 => ?_)
  obtain ⟨hV11, hs11⟩ := hoth11 kv bv v0 hV10 hs10
  clear hoth11
  refine law_next 20 10 40 [] {} ku bu [(1, .e (.c (.rp ⟨ku, 0, none⟩))), (2, .e (.c (.rp ⟨kv, 0, none⟩))), (3, .e (.c (.p 1 0))), (4, .e (.c (.p 2 0))), (5, .e (.c (.p 3 0))), (6, .e (.c (.p 4 0))), (7, .e (.c (.p 5 0)))] [⟨39, u5.call.cs⟩] (rs := ({} : Res).cs none 0 0) (ad := none) (nn := 0) (cp := 0) (obs := []) hov11 hc11 hL11 (by kernel_rfl) trivial (by kernel_rfl) (by kernel_rfl) (by kernel_rfl) rfl (strsAt_nil B w11) (by kernel_rfl) (by kernel_rfl) (by kernel_rfl) (by kernel_rfl) (by kernel_rfl) n6 k6
    (fun ε12 a12 w12 hov12 hL12 hoth12 hc12 => ?_)
  obtain ⟨hV12, hs12⟩ := hoth12 kv bv v0 hV11 hs11
  clear hoth12
  refine law_next 20 10 43 [true, true, true, true, true, true, true, true, true, true, true, true] {} kv bv [(1, .e (.c (.rp ⟨ku, 0, none⟩))), (2, .e (.c (.rp ⟨kv, 0, none⟩))), (3, .e (.c (.p 1 0))), (4, .e (.c (.p 2 0))), (5, .e (.c (.p 3 0))), (6, .e (.c (.p 4 0))), (7, .e (.c (.p 5 0))), (8, .e (.c (.p 6 0)))] [⟨39, u6.call.cs⟩] (rs := ({} : Res).cs none 0 0) (ad := none) (nn := 0) (cp := 0) (obs := []) hov12 hc12 hV12 (by kernel_rfl) trivial (by kernel_rfl) (by kernel_rfl) (by kernel_rfl) rfl (strsAt_nil B w12) (by kernel_rfl) (by kernel_rfl) (by kernel_rfl) (by kernel_rfl) (by kernel_rfl) n7 k7
    (fun ε13 a13 w13 hov13 _ _ hc13 => ?_)
  refine gets_run tab_ok 100 hc13 (holds_of (obs := [fun _ => ((2 : Int) == 2) = true, fun _ => (sA.toList == sA.toList) = true, fun _ => ((4 : Int) == 4) = true, fun _ => ((4 : Int) == 4) = true, fun _ => ((5 : Int) == 5) = true, fun _ => (sX.toList == sX.toList) = true, fun _ => ((4 : Int) == 4) = true, fun _ => ((3 : Int) == 3) = true, fun _ => ((20 : Int) == 20) = true, fun _ => ((0 : Int) == 0) = true, fun _ => ((20 : Int) == 20) = true, fun _ => ((1 : Int) == 1) = true]) (by kernel_rfl)
    ⟨rfl, by simp, rfl, rfl, rfl, by simp, rfl, rfl, rfl, rfl, rfl, rfl, trivial⟩) (fun a14 w14 hc14 => ?_)
  exact gets_fin tab_ok (l := [.c (.bool true)]) hc14 Tryz.func10 (by kernel_rfl) (by kernel_rfl) ⟨rfl, hov13.rel hc14.mem, trivial⟩

end Go.Proofs.YtoihipolfdhhnaaGreatDoor

namespace Go.Proofs.YtoihipolfdhhnaaGreatDoor

/-- An operation that touches no memory and whose value is known. -/
theorem gets_val {P : Program} {ε : Env} {nt : Nat} {f : FuncId} {k : List Item} {σ : St} {a : Act} {w : World} {R : Ending → World → Prop} {d : Nat} {op : Op} {ty : TypeId} (v : SV) (hc : CRel ε nt σ a w)
    (ho : opX k = some (some d, op, ty)) (hrun : ∀ pos after, (execOp a.eval ⟨some d, op, ty, pos, after, none⟩).run P w = .ok (.value (v.real ε.ρ)) w) (hd : Nat.blt d nt = true)
    (h : ∀ a', CRel ε nt { σ with tl := (d, v) :: σ.tl } a' w → Gets P f (popX k) a' w R) : Gets P f k a w R := by
  refine gets_opX ho hrun (h _ ⟨hc.tl.lay hc.size d hd v rfl, by rw [Act.put_size]; exact hc.size, by rw [Act.put_defers']; exact hc.defers, hc.mem⟩)

theorem run_byte {P : Program} {w : World} {a : Act} {src dst e : TypeId} {x : Operand} {g : Nat} {c : Nat} (hc : c < 256) (hx : a.eval x = .slice (some ⟨g, 0, none⟩) 1 1) (hs : P.underlying src = some (.slice e)) (he : P.underlying e = some (.int .u8)) (hd : P.underlying dst = some .string)
    (hcell : w.heap[g]? = some (.cells #[.int .u8 (c : Int)] e (0, 0))) (d : Option Nat) (ty : TypeId) : ∀ pos after,
    (execOp a.eval ⟨d, .convert src dst x, ty, pos, after, none⟩).run P w = .ok (.value (.string ⟨#[UInt8.ofNat c]⟩)) w := by
  intro pos after
  have hn : (UInt8.ofNat c).toNat = c := by simp; omega
  have := run_convert_bytes_back (P := P) w src dst e ⟨g, 0, none⟩ 1 [UInt8.ofNat c] hs he hd (fun j hj => by
    have : j = 0 := by simpa using hj
    subst this
    simp [World.cell?, hcell, hn, Addr.add])
  simp only [List.length_cons, List.length_nil, Nat.zero_add] at this
  simp [execOp, hx, this]

noncomputable def digHead : List Item := (loopX (run Tab Tryz.f17.ntmps 60 (match Tryz.f17.body with | some (.seq _ (.seq _ (.seq _ (.seq _ c)))) => [.code c] | _ => []) { tl := [(0, .e (.c (.int .i64 0))), (3, .e (.c (.int .u64 0)))], bs := [], orc := [false] }).1).getD []

/-- What Digits comes to. -/
abbrev DigR (w0 : World) (r : ByteArray) : Ending → World → Prop := Gives (.string r) (fun _ => True) w0

def sign (n : Int) : ByteArray := if n < 0 then ⟨#[45]⟩ else ⟨#[]⟩

theorem digs_step (u : Nat) (h : ¬ u ≤ 9) (s : ByteArray) : (⟨(Lib.decDigits (u / 10)).toArray⟩ : ByteArray) ++ (⟨#[UInt8.ofNat (48 + u % 10)]⟩ ++ s) = ⟨(Lib.decDigits u).toArray⟩ ++ s := by
  rw [Lib.decDigits.eq_def u, dif_neg (by omega), ← ByteArray.append_assoc]
  congr 1

theorem wrapu8 {c : Nat} (h : c < 256) : IntKind.u8.wrap (IntKind.u64.wrap (c : Int)) = (c : Int) := by
  simp only [IntKind.wrap, IntKind.bits, IntKind.signed]
  simp
  omega

theorem dig_exit (n : Int) (w0 : World) (u : Nat) (s : ByteArray) (w : World) (a : Act) (h9 : u ≤ 9) (hs : s.size ≤ 40) (hN : New w0 w) (hc : CRel (env0 ⟨0, []⟩ w) Tryz.f17.ntmps { tl := [(0, .e (.c (.int .i64 n))), (3, .e (.c (.int .u64 (u : Int)))), (4, .e (.c (.str s)))], bs := [] } a w) :
    Gets Tryz.prog 17 digHead a w (DigR w0 (sign n ++ (⟨(Lib.decDigits u).toArray⟩ ++ s))) := by
  have hcv : IntKind.u8.wrap (IntKind.u64.wrap (48 + (u : Int))) = ((48 + u : Nat) : Int) := by rw [← wrapu8 (c := 48 + u) (by omega)]; rfl
  refine gets_run tab_ok 60 (hc.feed [false] []) (holds_of (obs := [fun _ => decide ((↑u : Int) > (9 : Int)) = false]) (by kernel_rfl) ⟨(by simp; omega), trivial⟩) (fun a4 w4 hc4 => ?_)
  replace hc4 := hc4.pickx [(0, .e (.c (.int .i64 n))), (4, .e (.c (.str s))), (26, .e (.c (.nsl 0 0 1 1)))] [⟨5, [.int .u8 (IntKind.wrap IntKind.u8 (IntKind.wrap IntKind.u64 ((48 : Int) + (↑u : Int))))]⟩] [] (by kernel_rfl) (by kernel_rfl)
  refine gets_val (.e (.c (.str ⟨#[UInt8.ofNat (48 + u)]⟩))) hc4 (d := 27) (op := .convert 76 9 (.tmp 26)) (ty := 9) (by kernel_rfl) (run_byte (c := 48 + u) (by omega) (ev_ok (v := .e (.c (.nsl 0 0 1 1))) hc4.tl (x := .tmp 26) rfl) Tryz.underlying76 Tryz.underlying5 Tryz.underlying9 (by rw [← hcv]; exact hc4.mem.cells 0 _ rfl) _ _) (by kernel_rfl) (fun a5 hc5 => ?_)
  have hN5 := hN.trans ((Over.env w _).rel hc5.mem)
  have hlen : (⟨#[UInt8.ofNat (48 + u)]⟩ : ByteArray).size = 1 := rfl
  have hd : (⟨(Lib.decDigits u).toArray⟩ : ByteArray) = ⟨#[UInt8.ofNat (48 + u)]⟩ := by rw [Lib.decDigits.eq_def u, dif_pos (by omega)]
  rw [hd]
  have o1 : (((⟨#[UInt8.ofNat (48 + u)]⟩ : ByteArray).size + s.size : Nat) : Int) ≤ 9223372036854775807 := by rw [hlen]; omega
  have hov5 := Over.env w (sro ⟨0, []⟩ w)
  by_cases hn : n < 0
  · have o3 : (((⟨#[45]⟩ : ByteArray).size + (⟨#[UInt8.ofNat (48 + u)]⟩ ++ s : ByteArray).size : Nat) : Int) ≤ 9223372036854775807 := by
      have h1 : (⟨#[45]⟩ : ByteArray).size = 1 := rfl
      rw [ByteArray.size_append, h1, hlen]; omega
    refine gets_run tab_ok 60 (hc5.feed [true] []) (holds_of (obs := [fun _ => (↑(ByteArray.size { data := #[UInt8.ofNat ((48 : Nat) + u)] } + ByteArray.size s) : Int) ≤ (9223372036854775807 : Int), fun _ => decide (n < (0 : Int)) = true, fun _ => (↑(ByteArray.size { data := #[(45 : UInt8)] } + ByteArray.size ({ data := #[UInt8.ofNat ((48 : Nat) + u)] } ++ s)) : Int) ≤ (9223372036854775807 : Int)]) (by kernel_rfl) ⟨o1, (by simp; omega), o3, trivial⟩) (fun a7 w7 hc7 => ?_)
    replace hc7 := hc7.pickx [(2, .e (.c (.str ({ data := #[(45 : UInt8)] } ++ ({ data := #[UInt8.ofNat ((48 : Nat) + u)] } ++ s)))))] [⟨5, [.int .u8 (IntKind.wrap IntKind.u8 (IntKind.wrap IntKind.u64 ((48 : Int) + (↑u : Int))))]⟩] [] (by kernel_rfl) (by kernel_rfl)
    refine gets_fin tab_ok (l := [.c (.str (⟨#[45]⟩ ++ (⟨#[UInt8.ofNat (48 + u)]⟩ ++ s)))]) hc7 Tryz.func17 (by kernel_rfl) (by kernel_rfl) ⟨?_, hN.trans (hov5.rel hc7.mem), trivial⟩
    have hsg : sign n = ⟨#[45]⟩ := if_pos hn
    rw [hsg]; rfl
  · refine gets_run tab_ok 60 (hc5.feed [false] []) (holds_of (obs := [fun _ => (↑(ByteArray.size { data := #[UInt8.ofNat ((48 : Nat) + u)] } + ByteArray.size s) : Int) ≤ (9223372036854775807 : Int), fun _ => decide (n < (0 : Int)) = false]) (by kernel_rfl) ⟨o1, (by simp; omega), trivial⟩) (fun a7 w7 hc7 => ?_)
    replace hc7 := hc7.pickx [(2, .e (.c (.str ({ data := #[UInt8.ofNat ((48 : Nat) + u)] } ++ s))))] [⟨5, [.int .u8 (IntKind.wrap IntKind.u8 (IntKind.wrap IntKind.u64 ((48 : Int) + (↑u : Int))))]⟩] [] (by kernel_rfl) (by kernel_rfl)
    refine gets_fin tab_ok (l := [.c (.str (⟨#[UInt8.ofNat (48 + u)]⟩ ++ s))]) hc7 Tryz.func17 (by kernel_rfl) (by kernel_rfl) ⟨?_, hN.trans (hov5.rel hc7.mem), trivial⟩
    have hsg : sign n = ⟨#[]⟩ := if_neg hn
    have he : (⟨#[]⟩ : ByteArray) ++ (⟨#[UInt8.ofNat (48 + u)]⟩ ++ s) = ⟨#[UInt8.ofNat (48 + u)]⟩ ++ s := ByteArray.empty_append
    rw [hsg, he]; rfl

theorem quo10 {u : Nat} (hu : u < 18446744073709551616) : IntKind.u64.wrap ((u : Int).tdiv 10) = ((u / 10 : Nat) : Int) := by
  rw [Int.tdiv_eq_ediv_of_nonneg (by omega)]
  simp only [IntKind.wrap, IntKind.bits, IntKind.signed]
  simp
  omega

theorem rem10 (u : Nat) : (u : Int).tmod 10 = ((u % 10 : Nat) : Int) := by rw [Int.tmod_eq_emod_of_nonneg (by omega)]; omega

theorem dig_loop (n : Int) (w0 : World) : ∀ (k u : Nat) (s : ByteArray) (w : World) (a : Act), u < 10 ^ k → u < 18446744073709551616 → s.size + k ≤ 40 → New w0 w → CRel (env0 ⟨0, []⟩ w) Tryz.f17.ntmps { tl := [(0, .e (.c (.int .i64 n))), (3, .e (.c (.int .u64 (u : Int)))), (4, .e (.c (.str s)))], bs := [] } a w →
    Gets Tryz.prog 17 digHead a w (DigR w0 (sign n ++ (⟨(Lib.decDigits u).toArray⟩ ++ s))) := by
  intro k
  induction k with
  | zero => intro u s w a hu _ hs hN hc; exact dig_exit n w0 u s w a (by simp at hu; omega) (by omega) hN hc
  | succ k ih =>
    intro u s w a hu hu64 hs hN hc
    by_cases h9 : u ≤ 9
    · exact dig_exit n w0 u s w a h9 (by omega) hN hc
    · have hcv : IntKind.u8.wrap (IntKind.u64.wrap (48 + (u : Int).tmod 10)) = ((48 + u % 10 : Nat) : Int) := by rw [rem10, ← wrapu8 (c := 48 + u % 10) (by omega)]; rfl
      refine gets_run tab_ok 60 (hc.feed [true] []) (holds_of (obs := [fun _ => decide ((↑u : Int) > (9 : Int)) = true, fun _ => (10 : Int) ≠ (0 : Int)]) (by kernel_rfl) ⟨(by simp; omega), (by simp), trivial⟩) (fun a6 w6 hc6 => ?_)
      replace hc6 := hc6.pickx [(0, .e (.c (.int .i64 n))), (3, .e (.c (.int .u64 ((↑u : Int))))), (4, .e (.c (.str s))), (11, .e (.c (.int .u64 ((↑u : Int))))), (12, .e (.c (.bool true))), (13, .e (.c (.int .u64 ((↑u : Int))))), (14, .e (.c (.int .u64 (Int.tmod (↑u : Int) (10 : Int))))), (15, .e (.c (.int .u64 (IntKind.wrap IntKind.u64 ((48 : Int) + Int.tmod (↑u : Int) (10 : Int)))))), (16, .e (.c (.int .u8 (IntKind.wrap IntKind.u8 (IntKind.wrap IntKind.u64 ((48 : Int) + Int.tmod (↑u : Int) (10 : Int))))))), (17, .e (.c (.nsl 0 0 1 1)))] [⟨5, [.int .u8 (IntKind.wrap IntKind.u8 (IntKind.wrap IntKind.u64 ((48 : Int) + Int.tmod (↑u : Int) (10 : Int))))]⟩] [] (by kernel_rfl) (by kernel_rfl)
      refine gets_val (.e (.c (.str ⟨#[UInt8.ofNat (48 + u % 10)]⟩))) hc6 (d := 18) (op := .convert 76 9 (.tmp 17)) (ty := 9) (by kernel_rfl) (run_byte (c := 48 + u % 10) (by omega) (ev_ok (v := .e (.c (.nsl 0 0 1 1))) hc6.tl (x := .tmp 17) rfl) Tryz.underlying76 Tryz.underlying5 Tryz.underlying9 (by rw [← hcv]; exact hc6.mem.cells 0 _ rfl) _ _) (by kernel_rfl) (fun a7 hc7 => ?_)
      have hlen : (⟨#[UInt8.ofNat (48 + u % 10)]⟩ : ByteArray).size = 1 := rfl
      have o1 : (((⟨#[UInt8.ofNat (48 + u % 10)]⟩ : ByteArray).size + s.size : Nat) : Int) ≤ 9223372036854775807 := by rw [hlen]; omega
      refine gets_run tab_ok 10 hc7 (holds_of (obs := [fun _ => (↑(ByteArray.size { data := #[UInt8.ofNat ((48 : Nat) + u % (10 : Nat))] } + ByteArray.size s) : Int) ≤ (9223372036854775807 : Int), fun _ => (10 : Int) ≠ (0 : Int)]) (by kernel_rfl) ⟨o1, (by simp), trivial⟩) (fun a10 w10 hc10 => ?_)
      replace hc10 := hc10.pickx [(0, .e (.c (.int .i64 n))), (3, .e (.c (.int .u64 (IntKind.wrap IntKind.u64 (Int.tdiv (↑u : Int) (10 : Int)))))), (4, .e (.c (.str ({ data := #[UInt8.ofNat ((48 : Nat) + u % (10 : Nat))] } ++ s)))), (11, .e (.c (.int .u64 ((↑u : Int))))), (12, .e (.c (.bool true))), (13, .e (.c (.int .u64 ((↑u : Int))))), (14, .e (.c (.int .u64 (Int.tmod (↑u : Int) (10 : Int))))), (15, .e (.c (.int .u64 (IntKind.wrap IntKind.u64 ((48 : Int) + Int.tmod (↑u : Int) (10 : Int)))))), (16, .e (.c (.int .u8 (IntKind.wrap IntKind.u8 (IntKind.wrap IntKind.u64 ((48 : Int) + Int.tmod (↑u : Int) (10 : Int))))))), (17, .e (.c (.nsl 0 0 1 1))), (18, .e (.c (.str ({ data := #[UInt8.ofNat ((48 : Nat) + u % (10 : Nat))] })))), (19, .e (.c (.str s))), (20, .e (.c (.str ({ data := #[UInt8.ofNat ((48 : Nat) + u % (10 : Nat))] } ++ s)))), (21, .e (.c (.int .u64 ((↑u : Int))))), (22, .e (.c (.int .u64 (IntKind.wrap IntKind.u64 (Int.tdiv (↑u : Int) (10 : Int))))))] [⟨5, [.int .u8 (IntKind.wrap IntKind.u8 (IntKind.wrap IntKind.u64 ((48 : Int) + Int.tmod (↑u : Int) (10 : Int))))]⟩] [] (by kernel_rfl) (by kernel_rfl)
      have hN10 := hN.trans ((Over.env w _).rel hc10.mem)
      have hc11 := hc10.anew ⟨0, []⟩ [(0, .e (.c (.int .i64 n))), (3, .e (.c (.int .u64 ((u / 10 : Nat) : Int)))), (4, .e (.c (.str (⟨#[UInt8.ofNat (48 + u % 10)]⟩ ++ s))))] [] [] ⟨rfl, by show some (Value.int .u64 (IntKind.u64.wrap ((u : Int).tdiv 10))) = _; rw [quo10 hu64]; rfl, rfl, trivial⟩
      have := ih (u / 10) (⟨#[UInt8.ofNat (48 + u % 10)]⟩ ++ s) w10 a10 (by rw [Nat.pow_succ] at hu; omega) (by omega) (by rw [ByteArray.size_append, hlen]; omega) hN10 hc11
      rw [digs_step u h9 s] at this
      exact gets_loop (k' := digHead) (by kernel_rfl) this

theorem dec_eq (n : Int) : dec n = sign n ++ (⟨(Lib.decDigits n.natAbs).toArray⟩ ++ ⟨#[]⟩) := by
  have he : ∀ s : ByteArray, s ++ ⟨#[]⟩ = s := fun s => ByteArray.append_empty
  rw [he]
  unfold dec sign Lib.itoa
  by_cases hn : n < 0
  · rw [if_pos hn, if_pos hn]
    apply ByteArray.ext
    simp
  · rw [if_neg hn, if_neg hn]
    have : n.toNat = n.natAbs := by omega
    rw [this]
    exact ByteArray.empty_append.symm

/-- almonerref13.Digits. -/
theorem digits_calls (n : Int) (h0 : -9223372036854775808 ≤ n) (h1 : n ≤ 9223372036854775807) (w : World) : Calls Tryz.prog 17 #[.int .i64 n] w (Gives (.string (dec n)) (fun _ => True) w) := by
  refine enter (B := ⟨0, []⟩) tab_ok [.e (.c (.int .i64 n))] [] [] 2 Tryz.func17 rfl rfl rfl (obs := []) (by kernel_rfl) trivial (fun a1 w1 hc1 => ?_)
  have hp10 : (10 : Nat) ^ 20 = 100000000000000000000 := by decide
  by_cases hn : n < 0
  · refine gets_run tab_ok 60 (hc1.feed [true] []) (holds_of (obs := [fun _ => decide (n < (0 : Int)) = true]) (by kernel_rfl) ⟨(by simp; omega), trivial⟩) (fun a6 w6 hc6 => ?_)
    replace hc6 := hc6.pickx [(0, .e (.c (.int .i64 n))), (2, .e (.c (.str ⟨#[]⟩))), (3, .e (.c (.int .u64 (IntKind.wrap IntKind.u64 (-IntKind.wrap IntKind.u64 n))))), (4, .e (.c (.str ⟨#[]⟩)))] [] [] (by kernel_rfl) (by kernel_rfl)
    have hv : IntKind.u64.wrap (-(IntKind.u64.wrap n)) = ((n.natAbs : Nat) : Int) := by
      simp only [IntKind.wrap, IntKind.bits, IntKind.signed]
      simp
      omega
    have hN6 := (Over.env w _).rel hc6.mem
    have hc7 := hc6.anew ⟨0, []⟩ [(0, .e (.c (.int .i64 n))), (3, .e (.c (.int .u64 ((n.natAbs : Nat) : Int)))), (4, .e (.c (.str ⟨#[]⟩)))] [] [] ⟨rfl, by show some (Value.int .u64 (IntKind.u64.wrap (-(IntKind.u64.wrap n)))) = _; rw [hv]; rfl, rfl, trivial⟩
    have := dig_loop n w 20 n.natAbs ⟨#[]⟩ w6 a6 (by rw [hp10]; omega) (by omega) (by decide) hN6 hc7
    rw [← dec_eq] at this
    exact gets_loop (k' := digHead) (by kernel_rfl) this
  · refine gets_run tab_ok 60 (hc1.feed [false] []) (holds_of (obs := [fun _ => decide (n < (0 : Int)) = false]) (by kernel_rfl) ⟨(by simp; omega), trivial⟩) (fun a4 w4 hc4 => ?_)
    replace hc4 := hc4.pickx [(0, .e (.c (.int .i64 n))), (2, .e (.c (.str ⟨#[]⟩))), (3, .e (.c (.int .u64 (IntKind.wrap IntKind.u64 n)))), (4, .e (.c (.str ⟨#[]⟩)))] [] [] (by kernel_rfl) (by kernel_rfl)
    have hv : IntKind.u64.wrap n = ((n.natAbs : Nat) : Int) := by
      simp only [IntKind.wrap, IntKind.bits, IntKind.signed]
      simp
      omega
    have hN4 := (Over.env w _).rel hc4.mem
    have hc5 := hc4.anew ⟨0, []⟩ [(0, .e (.c (.int .i64 n))), (3, .e (.c (.int .u64 ((n.natAbs : Nat) : Int)))), (4, .e (.c (.str ⟨#[]⟩)))] [] [] ⟨rfl, by show some (Value.int .u64 (IntKind.u64.wrap n)) = _; rw [hv]; rfl, rfl, trivial⟩
    have := dig_loop n w 20 n.natAbs ⟨#[]⟩ w4 a4 (by rw [hp10]; omega) (by omega) (by decide) hN4 hc5
    rw [← dec_eq] at this
    exact gets_loop (k' := digHead) (by kernel_rfl) this

end Go.Proofs.YtoihipolfdhhnaaGreatDoor

namespace Go.Proofs.YtoihipolfdhhnaaGreatDoor

def Bd.with (B : Bd) (kr : Nat) : Bd := ⟨B.n, kr :: B.x⟩

theorem Safe.excl {B : Bd} {w : World} {k kr : Nat} (h : Safe B w k) (hne : k ≠ kr) : Safe (B.with kr) w k := by
  rcases h with h | ⟨c, T, fr, h1, h2, h3, h4, h5⟩
  · exact .inl h
  · exact .inr ⟨c, T, fr, h1, h2, h3, h4, fun e hx => (List.mem_cons.1 hx).elim hne (h5 e)⟩

theorem StrsAt.excl {B : Bd} {w : World} {a : Option Addr} {n c kr : Nat} {l : List ByteArray} (h : StrsAt B w a n c l) (hk : w.heap.size ≤ kr) : StrsAt (B.with kr) w a n c l :=
  ⟨h.len, h.cap, fun j s hj => by
    obtain ⟨ad, h1, h2, h3⟩ := h.at_ j s hj
    have hlt := World.block_lt_of_cell? w _ h2
    rw [addr_add_block] at hlt
    exact ⟨ad, h1, h2, h3.excl (by omega)⟩⟩

theorem IntsAt.excl {B : Bd} {w : World} {a : Option Addr} {n c kr : Nat} {l : List Int} (h : IntsAt B w a n c l) (hk : w.heap.size ≤ kr) : IntsAt (B.with kr) w a n c l :=
  ⟨h.len, h.cap, fun j s hj => by
    obtain ⟨ad, h1, h2, h3⟩ := h.at_ j s hj
    have hlt := World.block_lt_of_cell? w _ h2
    rw [addr_add_block] at hlt
    exact ⟨ad, h1, h2, h3.excl (by omega)⟩⟩

theorem StrsBox.excl {B : Bd} {w : World} {k kr : Nat} {l : List ByteArray} (h : StrsBox B w k l) (hk : w.heap.size ≤ kr) : StrsBox (B.with kr) w k l :=
  let ⟨a, n, c, h1, h2⟩ := h; ⟨a, n, c, h1, h2.excl hk⟩
theorem IntsBox.excl {B : Bd} {w : World} {k kr : Nat} {l : List Int} (h : IntsBox B w k l) (hk : w.heap.size ≤ kr) : IntsBox (B.with kr) w k l :=
  let ⟨a, n, c, h1, h2⟩ := h; ⟨a, n, c, h1, h2.excl hk⟩
theorem ResBox.excl {B : Bd} {w : World} {k kr : Nat} {r : Res} (h : ResBox B w k r) (hk : w.heap.size ≤ kr) : ResBox (B.with kr) w k r :=
  let ⟨a, n, c, h1, h2, h3⟩ := h; ⟨a, n, c, h1, h2.excl hk, fun hx => by
    have := lt_of_block h1
    rcases List.mem_cons.1 hx with e | e
    · omega
    · exact h3 e⟩

theorem RepE.excl {B : Bd} {w : World} {kr : Nat} (hk : w.heap.size ≤ kr) {x : Ef} {f : FuncId} {c : Array Value} (h : RepE B w x f c) : RepE (B.with kr) w x f c := by
  cases x with
  | chmod l => obtain ⟨h1, k, h2, h3⟩ := h; exact ⟨h1, k, h2, h3.excl hk⟩
  | ls long l has => obtain ⟨h1, k1, k2, k3, h2, h3, h4, h5⟩ := h; exact ⟨h1, k1, k2, k3, h2, h3, h4.excl hk, h5⟩
  | _ => exact h

theorem RepF.excl {B : Bd} {w : World} {kr : Nat} (hk : w.heap.size ≤ kr) {x : Fn} : ∀ {f : FuncId} {c : Array Value}, RepF B w x f c → RepF (B.with kr) w x f c := by
  induction x with
  | start d ws => intro f c h; obtain ⟨h1, k1, k2, df, dc, h2, h3, h4, h5⟩ := h; exact ⟨h1, k1, k2, df, dc, h2, h3, h4, h5.excl hk⟩
  | each l e => intro f c h; obtain ⟨h1, k1, k2, ef, ec, h2, h3, h4, h5⟩ := h; exact ⟨h1, k1, k2, ef, ec, h2, h3.excl hk, h4, h5.excl hk⟩
  | pours s d t ih => intro f c h; obtain ⟨h1, k1, k2, k3, tf, tc, h2, h3, h4, h5, h6⟩ := h; exact ⟨h1, k1, k2, k3, tf, tc, h2, h3, h4, h5, ih h6⟩
  | closes fds => intro f c h; obtain ⟨h1, k, h2, h3⟩ := h; exact ⟨h1, k, h2, h3.excl hk⟩
  | entries d names has => intro f c h; obtain ⟨h1, k1, k2, k3, r, h2, h3, h4, h5, h6⟩ := h; exact ⟨h1, k1, k2, k3, r, h2, h3, h4.excl hk, h5, h6⟩
  | _ => exact fun h => h

theorem RepR.excl {B : Bd} {w : World} {kr : Nat} (hk : w.heap.size ≤ kr) {x : Rn} : ∀ {f : FuncId} {c : Array Value}, RepR B w x f c → RepR (B.with kr) w x f c := by
  induction x with
  | say fd text t => intro f c h; obtain ⟨h1, k1, k2, k3, tf, tc, h2, h3, h4, h5, h6⟩ := h; exact ⟨h1, k1, k2, k3, tf, tc, h2, h3, h4, h5.excl hk, h6⟩
  | tries p t ih => intro f c h; obtain ⟨h1, k1, k2, tf, tc, h2, h3, h4, h5⟩ := h; exact ⟨h1, k1, k2, tf, tc, h2, h3, h4, ih h5⟩
  | pours s d t => intro f c h; obtain ⟨h1, k1, k2, k3, tf, tc, h2, h3, h4, h5, h6⟩ := h; exact ⟨h1, k1, k2, k3, tf, tc, h2, h3, h4.excl hk, h5, h6⟩
  | closes fds => intro f c h; obtain ⟨h1, k, h2, h3⟩ := h; exact ⟨h1, k, h2, h3.excl hk⟩
  | places l last pl br => intro f c h; obtain ⟨h1, k1, k2, k3, k4, bf, bc, h2, h3, h4, h5, h6, h7⟩ := h; exact ⟨h1, k1, k2, k3, k4, bf, bc, h2, h3, h4.excl hk, h5, h6, h7⟩
  | copies3 dst r => intro f c h; obtain ⟨h1, k1, k2, h2, h3, h4⟩ := h; exact ⟨h1, k1, k2, h2, h3.excl hk, h4⟩
  | chmod l v => intro f c h; obtain ⟨h1, k1, k2, h2, h3, h4⟩ := h; exact ⟨h1, k1, k2, h2, h3.excl hk, h4⟩
  | ls1 v long l has => intro f c h; obtain ⟨h1, k1, k2, k3, k4, h2, h3, h4, h5, h6⟩ := h; exact ⟨h1, k1, k2, k3, k4, h2, h3, h4, h5.excl hk, h6⟩
  | ls2 l v has => intro f c h; obtain ⟨h1, k1, k2, k3, h2, h3, h4, h5⟩ := h; exact ⟨h1, k1, k2, k3, h2, h3.excl hk, h4, h5⟩
  | _ => exact fun h => h

/-- Behind the making of a block kr, this block is somebody else's. -/
theorem MOk.excl {B : Bd} {w w' : World} {b kr : Nat} {m : M} (h : MOk B w b m) (hn : New w w') (hk : w.heap.size ≤ kr) (hlt : kr < w'.heap.size) : MOk (B.with kr) w' b m := by
  have hf := (h.fresh hn).1
  obtain ⟨a, n, c, th, row, h0⟩ := h
  have hkeep : Keep (B.with kr) w w' := hn.keep _
  have hglob := h0.glob.keep (hn.keep B)
  have hcells : w'.heap[b]? = some (.cells (plainR (mcells m.prog m.status a n c (thnC th) m.call m.over)) 66 (0, 0)) := by rw [hn.block b (lt_of_block h0.cells)]; exact h0.cells
  refine ⟨a, n, c, th, row, h0.base, hcells, ?_, h0.todo.mono (fun x y hx => (hx.excl hk).keep hkeep), h0.len, ?_, ⟨hglob.le, fun k hx => (List.mem_cons.1 hx).elim (fun e => e ▸ hlt) (hglob.xs k), hglob.base⟩⟩
  · obtain ⟨h1, h2⟩ := h0.owns
    refine ⟨h1, ?_⟩
    rcases h2 with h2 | ⟨g, cap, cur, h3, h4, h5, h6⟩
    · exact .inl h2
    · exact .inr ⟨g, cap, cur, h3, h4, by rw [hn.block g (lt_of_block h5)]; exact h5, h6⟩
  · have ht := h0.thn
    cases ht1 : m.thn with
    | none => rw [ht1] at ht; cases th <;> simp only [ThnOk] at ht ⊢
    | some t =>
      rw [ht1] at ht
      cases th with
      | none => simp only [ThnOk] at ht
      | some p => simp only [ThnOk] at ht ⊢; exact (ht.excl hk).keep hkeep

theorem UOk.excl {B : Bd} {w w' : World} {ku b kr : Nat} {m : M} (h : UOk B w ku b m) (hn : New w w') (hk : w.heap.size ≤ kr) (hlt : kr < w'.heap.size) : UOk (B.with kr) w' ku b m :=
  ⟨h.1, h.2.1.keep (hn.keep B), h.2.2.excl hn hk hlt⟩

/-- A block of an answer that is somebody else's is written: the machine stays. -/
theorem MOk.side35 {B : Bd} {w w' : World} {b kr : Nat} {m : M} (hm : MOk B w b m) (hBk : B ≤ kr) (hx : kr ∈ B.x) {x : Array Value} (hkc : w.heap[kr]? = some (.cells x 35 (0, 0))) (ho : w'.os = w.os) (ht : w'.tape = w.tape) (hu : w'.output = w.output) (hsz : w.heap.size ≤ w'.heap.size)
    (hblk : ∀ k, k < w.heap.size → k ≠ kr → w'.heap[k]? = w.heap[k]?) : MOk B w' b m ∧ Keep B w w' ∧ (∀ k, Own w' b k → Own w b k) := by
  obtain ⟨a, n, c, th, row, h⟩ := hm
  have hkeep : Keep B w w' := ⟨ho, ht, hu, hsz, fun k hk hs => hblk k hk (fun e => by
    subst e
    rcases hs with hs | ⟨c', T, fr, h1, h2, h3, h4, h5⟩
    · omega
    · rw [hkc] at h1
      simp only [Option.some.injEq, Obj.cells.injEq] at h1
      exact h5 h1.2.1.symm hx)⟩
  have hbk : b ≠ kr := by
    rintro rfl
    rw [h.cells] at hkc
    simp only [Option.some.injEq, Obj.cells.injEq] at hkc
    exact absurd hkc.2.1 (by decide)
  have hcells : w'.heap[b]? = some (.cells (plainR (mcells m.prog m.status a n c (thnC th) m.call m.over)) 66 (0, 0)) := by rw [hblk b (lt_of_block h.cells) hbk]; exact h.cells
  refine ⟨⟨a, n, c, th, row, h.base, hcells, ?_, h.todo.mono (fun k x hx => hx.keep hkeep), h.len, thn_keep h.thn hkeep, h.glob.keep hkeep⟩, hkeep, fun k ho => ?_⟩
  · obtain ⟨h1, h2⟩ := h.owns
    refine ⟨h1, ?_⟩
    rcases h2 with h2 | ⟨g, cap, cur, h3, h4, h5, h6⟩
    · exact .inl h2
    · refine .inr ⟨g, cap, cur, h3, h4, ?_, h6⟩
      rw [hblk g (lt_of_block h5) (fun e => by
        subst e
        rw [hkc] at h5
        simp only [Option.some.injEq, Obj.cells.injEq] at h5
        exact absurd h5.2.1 (by decide))]
      exact h5
  · rcases ho with ho | ⟨n', c', ho⟩
    · exact .inl ho
    · exact .inr ⟨n', c', by rw [← World.cell?_of_block (a := ⟨b, 3, none⟩) (hblk b (lt_of_block h.cells) hbk)]; exact ho⟩

end Go.Proofs.YtoihipolfdhhnaaGreatDoor

namespace Go.Proofs.YtoihipolfdhhnaaGreatDoor

/-- What was there at the beginning. -/
def oro (B : Nat) (w : World) : Addr → Option Value := fun a => if a.block < B then w.cell? a else none

theorem oro_le {B : Nat} {w : World} {a : Addr} {v : Value} (h : oro B w a = some v) : a.block < B ∧ w.cell? a = some v := by
  unfold oro at h
  split at h
  · rename_i hs; exact ⟨hs, h⟩
  · cases h

theorem oro_of {B : Nat} {w : World} {a : Addr} {v : Value} (hs : a.block < B) (h : w.cell? a = some v) : oro B w a = some v := by
  unfold oro; rw [if_pos hs]; exact h

abbrev lenv (B : Nat) (w : World) (ks : List Nat) : Env := env w ks (oro B w)

/-- One block keeps its name, the others are forgotten. -/
theorem CRel.anchor1 {ε : Env} {nt : Nat} {σ : St} {a : Act} {w : World} (hc : CRel ε nt σ a w) (B i : Nat) (nb : NB) (hi : σ.bs[i]? = some nb) (hcs : nb.cs.all (C.below 0) = true) (hB : B ≤ ε.ρ i) (tl : List (Nat × SV)) (orc : List Bool) (ext : List SV)
    (h : AllT ε.ρ (lenv B w [ε.ρ i]).ρ σ.tl tl) : CRel (lenv B w [ε.ρ i]) nt { tl := tl, bs := [nb], orc := orc, ext := ext } a w := by
  have hcell := hc.mem.cells i nb hi
  rw [map_plain _ hcs] at hcell
  refine ⟨?_, hc.size, hc.defers, ?_⟩
  · intro d v hd
    obtain ⟨u, h1, h2⟩ := h.lk hd
    rw [hc.tl d u h1, h2]
  · refine rel_start rfl ?_ ?_ (fun ad v hv => by obtain ⟨h1, h2⟩ := oro_le hv; exact ⟨h2, by simp; omega⟩)
    · intro i j k hi hj
      match i, j, hi, hj with
      | 0, 0, _, _ => rfl
      | i + 1, _, hi, _ => simp at hi
      | 0, j + 1, _, hj => simp at hj
    · intro j nb' k hj hk
      match j, hj, hk with
      | 0, hj, hk =>
        simp only [List.getElem?_cons_zero, Option.some.injEq] at hj hk
        subst hj; subst hk
        rw [map_plain _ hcs]
        exact hcell
      | j + 1, hj, _ => simp at hj

/-- All names are forgotten. -/
theorem CRel.anchor0 {ε : Env} {nt : Nat} {σ : St} {a : Act} {w : World} (hc : CRel ε nt σ a w) (B : Nat) (tl : List (Nat × SV)) (orc : List Bool) (ext : List SV)
    (h : AllT ε.ρ (lenv B w []).ρ σ.tl tl) : CRel (lenv B w []) nt { tl := tl, bs := [], orc := orc, ext := ext } a w := by
  refine ⟨?_, hc.size, hc.defers, rel_nil w _ (fun _ _ h => (oro_le h).2)⟩
  intro d v hd
  obtain ⟨u, h1, h2⟩ := h.lk hd
  rw [hc.tl d u h1, h2]

theorem Over.lenv {w0 w : World} {B : Nat} {ks : List Nat} (hn : New w0 w) (hk : ∀ k ∈ ks, w0.heap.size ≤ k) : Over w0 (lenv B w ks) := by
  refine ⟨hn, fun i hi => ?_⟩
  have hi' : i < ks.length := hi
  show w0.heap.size ≤ if i < ks.length then ks.getD i 0 else _
  rw [if_pos hi']
  exact hk _ (by rw [List.getD_eq_getElem?_getD, List.getElem?_eq_getElem hi']; exact List.getElem_mem hi')

/-- A machine's work, seen from the statement's beginning. -/
theorem LU.new {B : Bd} {w0 w w' : World} {ku b : Nat} {m : M} (h : LU B w0 w ku b m) (hn : New w0 w) (he : Evo w b w') : New w0 w' :=
  ⟨he.os.trans hn.os, he.tape.trans hn.tape, he.output.trans hn.output, Nat.le_trans hn.size he.size, fun k hk =>
    (he.block k (Nat.lt_of_lt_of_le hk hn.size) (fun ho => by have := h.own k ho; omega)).trans (hn.block k hk)⟩

theorem LU.evo {B : Bd} {w0 w w' : World} {ku b : Nat} {m m' : M} (h : LU B w0 w ku b m) (hn : New w0 w) (he : Evo w b w') (hu : UOk B w' ku b m') : LU B w0 w' ku b m' :=
  ⟨hu, fun j ho => (he.fresh j ho).elim (h.own j) (fun h1 => Nat.le_trans hn.size h1)⟩

/-- A new block of an answer. -/
theorem LU.excl {B : Bd} {w0 w w' : World} {ku b kr : Nat} {m : M} (h : LU B w0 w ku b m) (hn : New w w') (hk : w.heap.size ≤ kr) (hlt : kr < w'.heap.size) : LU (B.with kr) w0 w' ku b m :=
  ⟨h.u.excl hn hk hlt, fun j ho => h.own j (hfr h.u.2.2 hn j ho)⟩

/-- Own work that writes a block of an answer. -/
theorem LU.rel35 {B : Bd} {w0 w w' : World} {ku b kr : Nat} {m : M} {bs : List NB} {ro : Addr → Option Value} (h : LU B w0 w ku b m) (hB : B ≤ kr) (hx : kr ∈ B.x) {x : Array Value} (hkc : w.heap[kr]? = some (.cells x 35 (0, 0))) (hr : Rel (env w [kr] ro) bs w') : LU B w0 w' ku b m := by
  have hsz : w.heap.size ≤ w'.heap.size := by rw [hr.size]; exact Nat.le_add_right _ _
  obtain ⟨h1, h2, h3⟩ := h.u.2.2.side35 hB hx hkc hr.os hr.tape hr.output hsz (fun k hk hne => hr.keep k hk (fun i hi e => by
    have hi1 : i < 1 := hi
    have : i = 0 := by omega
    subst this
    exact hne e.symm))
  exact ⟨⟨h.u.1, h.u.2.1.keep h2, h1⟩, fun j ho => h.own j (h3 j ho)⟩

/-- A call of Next, behind which one block keeps its name. -/
theorem law_next1 {B : Bd} {w0 w1 : World} {ε : Env} {nt : Nat} {f : FuncId} {k : List Item} {σ : St} {a : Act} {R : Ending → World → Prop} {m m' : M} (N d : Nat) (r : Res) (ku b i : Nat) (nb : NB) (tl : List (Nat × SV)) {ad : Option Addr} {nn cp : Nat} {rs : List C}
    (hN : New w0 w1) (hc : CRel ε nt σ a w1) (hu : LU B w0 w1 ku b m)
    (hx : callX k σ = some ⟨14, [.c (.rp ⟨ku, 0, none⟩), .a rs], [], #[]⟩) (hrs : (E.a rs).real ε.ρ = resV r ad nn cp) (hnm : StrsAt B w1 ad nn cp r.names)
    (hd : dstX k = some d) (hdt : Nat.blt d nt = true) (hi : σ.bs[i]? = some nb) (hcs : nb.cs.all (C.below 0) = true) (h1 : nb.ty ≠ 66) (h2 : nb.ty ≠ 84) (hB : B ≤ ε.ρ i)
    (hT : ∀ w', AllT ε.ρ (lenv B w' [ε.ρ i]).ρ σ.tl tl) (hm' : next N m r = m') (hok : okNext N m r)
    (h : ∀ a' w', New w0 w' → LU B w0 w' ku b m' → CRel (lenv B w' [ε.ρ i]) nt { tl := (d, .e (.a m'.call.cs)) :: tl, bs := [nb] } a' w' → Gets Tryz.prog f (popX k) a' w' R) :
    Gets Tryz.prog f k a w1 R := by
  refine gets_call hc hx (by kernel_rfl) (S := UNextR B ku b w1 m') (by
    have := unext_calls hu.u r ad nn cp hnm N hok
    rw [hm'] at this
    have e : CallX.real ε.ρ ⟨14, [.c (.rp ⟨ku, 0, none⟩), .a rs], [], #[]⟩ = #[bp ku, resV r ad nn cp] := by simp only [CallX.real, List.map_cons, List.map_nil, hrs]; rfl
    rw [e]; exact this) (fun e w' ⟨e1, e2, e3⟩ => ⟨_, e1, ?_⟩)
  rw [hd]
  have hcell := hc.mem.cells i nb hi
  have hcell' : w'.heap[ε.ρ i]? = some (.cells (plainR nb.cs) nb.ty (0, 0)) := by
    obtain ⟨_, _, _, _, _, hM⟩ := hu.u.2.2
    rw [e3.block _ (lt_of_block hcell) (hM.notown hcell h1 h2), hcell, map_plain _ hcs]
  refine h _ w' (hu.new hN e3) (hu.evo hN e3 e2) ⟨fun d' v hd' => ?_, by rw [Act.put_size]; exact hc.size, by rw [Act.put_defers']; exact hc.defers, ?_⟩
  · simp only [lk] at hd'
    split at hd'
    · rename_i e
      cases hd'
      subst e
      show (a.tmps.setIfInBounds d _)[d]? = _
      rw [Array.getElem?_setIfInBounds_self_of_lt (by rw [hc.size]; exact Nat.le_of_ble_eq_true hdt)]
      exact congrArg (fun x => some (Value.agg x)) (map_plain _ rfl).symm
    · rename_i hne
      obtain ⟨u, hu1, hu2⟩ := (hT w').lk hd'
      show (a.tmps.setIfInBounds d _)[d']? = _
      rw [Array.getElem?_setIfInBounds_ne hne, hc.tl d' u hu1, hu2]
  · refine rel_start rfl ?_ ?_ (fun ad v hv => by obtain ⟨h1, h2⟩ := oro_le hv; exact ⟨h2, by simp; omega⟩)
    · intro i j k hi hj
      match i, j, hi, hj with
      | 0, 0, _, _ => rfl
      | i + 1, _, hi, _ => simp at hi
      | 0, j + 1, _, hj => simp at hj
    · intro j nb' k hj hk
      match j, hj, hk with
      | 0, hj, hk =>
        simp only [List.getElem?_cons_zero, Option.some.injEq] at hj hk
        subst hj; subst hk
        rw [map_plain _ hcs]
        exact hcell'
      | j + 1, hj, _ => simp at hj

/- ROWS OF TEXTS -/

/-- A row of texts of one's own. -/
def Row (B : Nat) (w : World) (a : Option Addr) (n c : Nat) (l : List ByteArray) : Prop := w.ownsRow B 9 1 (.slice a n c) n (l.map Value.string)

theorem Row.strs {B : Nat} {B' : Bd} {w : World} {a : Option Addr} {n c : Nat} {l : List ByteArray} (h : Row B w a n c l) : StrsAt B' w a n c l := by
  obtain ⟨a', c', h1, h2⟩ := StrsAt.of_row (B := B') h
  simp only [Value.slice.injEq] at h1
  obtain ⟨rfl, _, rfl⟩ := h1
  exact h2

theorem Row.fresh {B : Nat} {w w' : World} {a : Option Addr} {n c : Nat} {l : List ByteArray} (h : Row B w a n c l) (hn : New w w') : Row B w' a n c l := by
  obtain ⟨h1, h2⟩ := h
  refine ⟨h1, ?_⟩
  rcases h2 with h2 | ⟨g, cap, cur, h3, h4, h5, h6⟩
  · exact .inl h2
  · exact .inr ⟨g, cap, cur, h3, h4, by rw [hn.block g (lt_of_block h5)]; exact h5, h6⟩

theorem row_one {B k : Nat} {w : World} (s : ByteArray) (hk : B ≤ k) (h : w.heap[k]? = some (.cells #[.string s] 9 (0, 0))) : Row B w (some ⟨k, 0, none⟩) 1 1 [s] :=
  ⟨rfl, .inr ⟨k, 1, #[.string s], rfl, hk, h, Nat.le_refl _, by decide, rfl, rfl⟩⟩

theorem append9 {B : Nat} {w : World} {a : Option Addr} {n cp : Nat} {l : List ByteArray} (hrow : Row B w a n cp l) (ad : Addr) (c2 : Nat) (s : ByteArray) (hs : w.cell? ad = some (.string s)) (hn : n ≤ 1000000) (hB : B ≤ w.heap.size) (ty : TypeId) :
    ∃ a' cp' w', (Builtin.append_ #[22, 22] ty #[.slice a n cp, .slice (some ad) 1 c2]).run Tryz.prog w = .ok (.slice a' (n + 1) cp') w' ∧ Row B w' a' (n + 1) cp' (l ++ [s]) ∧ w.grownBy w' (Value.ownBlock (.slice a n cp)) := by
  obtain ⟨i9, hi9, hz9⟩ : ∃ i, Tryz.prog.info? 9 = some i ∧ i.zero.map (fun z => z.cells) = some #[.string ⟨#[]⟩] ∧ i.size = 1 ∧ i.bytes = 16 := by
    have := info9
    cases hi : Tryz.prog.info? 9 with
    | none => rw [hi] at this; cases this
    | some i => rw [hi] at this; simp only [Option.map_some, Option.some.injEq, Prod.mk.injEq] at this; exact ⟨i, rfl, this.1, this.2⟩
  obtain ⟨hz, hs9, hb9⟩ := hz9
  obtain ⟨z, hz1, hz2⟩ : ∃ z, i9.zero = some z ∧ z.cells = #[.string ⟨#[]⟩] := by
    cases h : i9.zero with
    | none => rw [h] at hz; cases hz
    | some z => rw [h] at hz; simp only [Option.map_some, Option.some.injEq] at hz; exact ⟨z, rfl, hz⟩
  have hl63 : n + 1 ≤ maxLen := Nat.le_trans (by omega : n + 1 ≤ 1000001) (by decide)
  obtain ⟨v', w', hrun, hown, hgrow, _, _⟩ := run_append_own_at (P := Tryz.prog) w B 22 ty 9 i9 z 1 16 Tryz.underlying22 hi9 hz1 hs9 hb9 (by rw [hz2]; rfl) (by decide)
    (.slice a n cp) n (l.map Value.string) hrow ad 1 c2 [.string s] rfl (fun j u hj => by
      match j, hj with
      | 0, hj =>
        simp only [List.getElem?_cons_zero, Option.some.injEq] at hj
        subst hj
        have : ad.add 0 = ad := by unfold Addr.add; simp
        rw [this]; exact hs
      | j + 1, hj => simp at hj) (fun u hu => by simp only [List.mem_singleton] at hu; subst hu; rfl) hl63 (by omega) hB
  have hrow' : w'.ownsRow B 9 1 v' (n + 1) ((l ++ [s]).map Value.string) := by simpa using hown
  obtain ⟨a', c', rfl, _⟩ := StrsAt.of_row (B := ⟨B, []⟩) hrow'
  exact ⟨a', c', w', hrun, hrow', hgrow⟩

/-- One text behind a row of one's own; the names are forgotten. -/
theorem gets_append9 {B : Nat} {w0 : World} {ε : Env} {nt : Nat} {f : FuncId} {k : List Item} {σ : St} {a : Act} {w : World} {R : Ending → World → Prop} (d x y b : Nat) (ap : Option Addr) (n cp : Nat) (l : List ByteArray) (s : ByteArray) (tl : List (Nat × SV))
    (hN : New w0 w) (hB0 : B = w0.heap.size) (hc : CRel ε nt σ a w) (hop : opX k = some (some d, .call ⟨.builtin .append, #[.tmp x, .tmp y], #[22, 22]⟩, 22)) (hx : lk x σ.tl = some (.e (.c (.sl ap n cp)))) (hy : lk y σ.tl = some (.e (.c (.nsl b 0 1 1)))) (hb : σ.bs[b]? = some ⟨9, [.str s]⟩)
    (hrow : Row B w ap n cp l) (hn : n ≤ 1000000) (hd : Nat.blt d nt = true) (hT : ∀ ρ', AllT ε.ρ ρ' σ.tl tl)
    (h : ∀ a' w' ap' cp', New w0 w' → Row B w' ap' (n + 1) cp' (l ++ [s]) → CRel (lenv B w' []) nt { tl := (d, .e (.c (.sl ap' (n + 1) cp'))) :: tl, bs := [] } a' w' → Gets Tryz.prog f (popX k) a' w' R) :
    Gets Tryz.prog f k a w R := by
  have hcell : w.cell? ⟨ε.ρ b, 0, none⟩ = some (.string s) := by have := hc.mem.sees.cell? hb 0; simpa [C.real] using this
  obtain ⟨ap', cp', w', hrun, hrow', hgrow⟩ := append9 hrow ⟨ε.ρ b, 0, none⟩ 1 s hcell hn (by rw [hB0]; exact hN.size) 22
  have hex : a.eval (.tmp x) = .slice ap n cp := ev_ok hc.tl (x := .tmp x) hx
  have hey : a.eval (.tmp y) = .slice (some ⟨ε.ρ b, 0, none⟩) 1 1 := ev_ok hc.tl (x := .tmp y) hy
  have hN' : New w0 w' := ⟨hgrow.os.trans hN.os, hgrow.tape.trans hN.tape, hgrow.output.trans hN.output, Nat.le_trans hN.size hgrow.size, fun j hj => by
    rw [hgrow.block j (Nat.lt_of_lt_of_le hj hN.size) ?_]
    · exact hN.block j hj
    · intro e
      obtain ⟨_, h2⟩ := hrow
      rcases h2 with ⟨h3, _⟩ | ⟨g, cap, cur, h3, h4, _⟩
      · simp only [Value.slice.injEq] at h3; rw [h3.1] at e; simp [Value.ownBlock] at e
      · simp only [Value.slice.injEq] at h3
        rw [h3.1] at e
        simp only [Value.ownBlock, Option.some.injEq] at e
        omega⟩
  refine gets_opX (dst := some d) (op := .call ⟨.builtin .append, #[.tmp x, .tmp y], #[22, 22]⟩) (ty := 22) hop (v := .slice ap' (n + 1) cp') (w' := w') (fun pos after => by simp [execOp, resolve, invoke, builtin, hex, hey, hrun]) ?_
  refine h _ w' ap' cp' hN' hrow' ⟨fun d' v hd' => ?_, by rw [Act.put_size]; exact hc.size, by rw [Act.put_defers']; exact hc.defers, rel_nil w' _ (fun _ _ h => (oro_le h).2)⟩
  simp only [lk] at hd'
  split at hd'
  · rename_i e
    cases hd'
    subst e
    show (a.tmps.setIfInBounds d _)[d]? = _
    rw [Array.getElem?_setIfInBounds_self_of_lt (by rw [hc.size]; exact Nat.le_of_ble_eq_true hd)]
    rfl
  · rename_i hne
    obtain ⟨u, hu1, hu2⟩ := (hT (lenv B w' []).ρ).lk hd'
    show (a.tmps.setIfInBounds d _)[d']? = _
    rw [Array.getElem?_setIfInBounds_ne hne, hc.tl d' u hu1, hu2]

end Go.Proofs.YtoihipolfdhhnaaGreatDoor

namespace Go.Proofs.YtoihipolfdhhnaaGreatDoor

abbrev sF : ByteArray := ⟨#[47, 102]⟩

def cats (r : Nat) : List ByteArray := List.replicate r sF
def cS (r : Nat) : M := (m0 sCat).push (.start .cat (cats r))
def cO (r : Nat) : M := ⟨sCat, 0, [.exit0, .each (cats r) .cat], some (.tries sF .cat), { op := 2, path := sF, want := 4 }, false⟩
def cR (r : Nat) : M := ⟨sCat, 0, [.exit0, .each (cats r) .cat], some (.pours 9 1 (.closes [9])), { op := 4, fd := 9, n := 256 }, false⟩
def cW (r : Nat) (t : ByteArray) : M := ⟨sCat, 0, [.exit0, .each (cats r) .cat], some (.say 1 t (.pours 9 1 (.closes [9]))), { op := 5, fd := 1, text := t }, false⟩
def cC (r : Nat) : M := ⟨sCat, 0, [.exit0, .each (cats r) .cat], some (.closes [9]), { op := 3, fd := 9 }, false⟩
def cX : M := ⟨sCat, 0, [], none, { op := 20, n := 0 }, true⟩

theorem sF_ne : (sF.toList == [45]) = false := by simp
theorem szF : sF.size = 2 := rfl
theorem szCat : sCat.size = 3 := rfl

theorem cats_succ (r : Nat) : cats (r + 1) = sF :: cats r := rfl

theorem tS (r : Nat) : next 10 (cS (r + 1)) {} = cO (r + 1) := by
  simp [next, cS, cO, m0, M.push, turn, runK, runD, cats_succ, runEach, runE, M.tries, M.sys]
theorem kS (r : Nat) : okNext 10 (cS (r + 1)) {} := by
  simp [okNext, cS, m0, M.push, okTurn, okK, okD, runK, runD, cats_succ, okEach, okE, runEach, runE, M.tries, M.sys]
theorem tO (r : Nat) : next 10 (cO r) { n := 9 } = cR r := by
  simp [next, cO, cR, turn, runR, M.tried, M.pours, M.sys]
theorem kO (r : Nat) : okNext 10 (cO r) { n := 9 } := by
  simp [okNext, cO, okTurn, okR, runR, M.tried, M.pours, M.sys, szF, szCat]
theorem tRt (r : Nat) (t : ByteArray) (h : (t.toList == []) = false) : next 10 (cR r) { text := t } = cW r t := by
  simp [next, cR, cW, turn, runR, M.poured, M.say, M.sys, h]
theorem kRt (r : Nat) (t : ByteArray) (h : (t.toList == []) = false) : okNext 10 (cR r) { text := t } := by
  simp [okNext, cR, okTurn, okR, okK, runR, M.poured, M.say, M.sys, h]
theorem tRe (r : Nat) : next 10 (cR r) {} = cC r := by
  simp [next, cR, cC, turn, runR, runK, M.poured, M.closes, M.sys, ByteArray.toList_eq]
theorem kRe (r : Nat) : okNext 10 (cR r) {} := by
  simp [okNext, cR, okTurn, okR, okK, runR, runK, M.poured, M.closes, M.sys, ByteArray.toList_eq]
theorem tWe (r : Nat) (t : ByteArray) (n : Int) (h : n ≥ t.size) : next 10 (cW r t) { n := n } = cR r := by
  simp [next, cW, cR, turn, runR, runK, M.said, M.pours, M.sys, h]
theorem kWe (r : Nat) (t : ByteArray) (n : Int) : okNext 10 (cW r t) { n := n } := by
  simp only [okNext, cW, okR, okK, runR, runK, M.said, M.pours, M.sys, M.say]
  simp
  split <;> simp [okTurn]
theorem tWr (r : Nat) (t : ByteArray) (n : Int) (h1 : 1 ≤ n) (h : n < t.size) : next 10 (cW r t) { n := n } = cW r (rest t n) := by
  have h2 : ¬ n < 1 := by omega
  have h3 : ¬ (t.size : Int) ≤ n := by omega
  simp [next, cW, turn, runR, M.said, M.say, M.sys, h2, h3]
theorem tC1 : next 10 (cC 1) {} = cX := by
  simp [next, cC, cX, cats, turn, runR, runK, runEach, M.closes, M.exit]; decide
theorem kC1 : okNext 10 (cC 1) {} := by
  simp [okNext, cC, cats, okTurn, okR, okK, okEach, runR, runK, runEach, M.closes, M.exit]
theorem tC2 (r : Nat) : next 10 (cC (r + 2)) {} = cO (r + 1) := by
  simp [next, cC, cO, cats_succ, turn, runR, runK, runEach, runE, M.closes, M.push, M.tries, M.sys]
theorem kC2 (r : Nat) : okNext 10 (cC (r + 2)) {} := by
  simp [okNext, cC, cats_succ, okTurn, okR, okK, okEach, okE, runR, runK, runEach, runE, M.closes, M.push, M.tries, M.sys]

end Go.Proofs.YtoihipolfdhhnaaGreatDoor

namespace Go.Proofs.YtoihipolfdhhnaaGreatDoor

/-- A slice of slices of texts. -/
structure FilesAt (B : Nat) (w : World) (a : Option Addr) (n c : Nat) (l : List (List ByteArray)) : Prop where
  len : n = l.length
  cap : n ≤ c
  at_ : ∀ j x, l[j]? = some x → ∃ ad a' n' c', a = some ad ∧ w.cell? (ad.add j) = some (.slice a' n' c') ∧ ad.block < B ∧ n' = x.length ∧ n' ≤ c' ∧
    ∀ i s, x[i]? = some s → ∃ ad', a' = some ad' ∧ w.cell? (ad'.add i) = some (.string s) ∧ ad'.block < B

theorem cell_new {w w' : World} (hn : New w w') {a : Addr} {v : Value} (h : w.cell? a = some v) : w'.cell? a = some v := by
  rw [World.cell?_of_block (hn.block _ (World.block_lt_of_cell? w a h))]; exact h

theorem FilesAt.fresh {B : Nat} {w w' : World} {a : Option Addr} {n c : Nat} {l : List (List ByteArray)} (h : FilesAt B w a n c l) (hn : New w w') : FilesAt B w' a n c l :=
  ⟨h.len, h.cap, fun j x hj => by
    obtain ⟨ad, a', n', c', h1, h2, h3, h4, h5, h6⟩ := h.at_ j x hj
    exact ⟨ad, a', n', c', h1, cell_new hn h2, h3, h4, h5, fun i s hi => by obtain ⟨ad', g1, g2, g3⟩ := h6 i s hi; exact ⟨ad', g1, cell_new hn g2, g3⟩⟩⟩

noncomputable def cats0 : List Item := (run Tab Tryz.f4.ntmps 20 (code Tryz.f4) (ini [.e (.c (.sl none 0 0))] [] [])).1
noncomputable def cats1 : List Item := (run Tab Tryz.f4.ntmps 60 (popX cats0) { tl := [(0, .e (.c (.sl none 0 0))), (16, .e (.c (.bool true)))], bs := [], orc := [false] }).1
noncomputable def catsH1 : List Item := (loopX cats1).getD []
noncomputable def cats2 : List Item := (run Tab Tryz.f4.ntmps 60 catsH1 { tl := [(0, .e (.c (.sl (some ⟨0, 0, none⟩) 1 1))), (3, .e (.c (.bool true))), (4, .e (.c (.sl none 0 0))), (5, .e (.c (.str ⟨#[]⟩))), (6, .e (.c (.int .i64 0)))], bs := [], orc := [true, false], ext := [.e (.c (.sl none 0 0))] }).1
noncomputable def cats3 : List Item := (run Tab Tryz.f4.ntmps 60 (popX cats2) { tl := [(38, .e (.c (.sl none 0 0))), (0, .e (.c (.sl (some ⟨0, 0, none⟩) 1 1))), (3, .e (.c (.bool true))), (5, .e (.c (.str ⟨#[]⟩))), (6, .e (.c (.int .i64 0)))], bs := [] }).1
noncomputable def catsH2 : List Item := (loopX cats3).getD []

def addAll : ByteArray → List ByteArray → ByteArray := List.foldl (· ++ ·)

theorem addAll_size : ∀ (l : List ByteArray) (s : ByteArray), (∀ x ∈ l, x.size ≤ 256) → (addAll s l).size ≤ s.size + 256 * l.length
  | [], s, _ => by simp [addAll]
  | x :: l, s, h => by
    have h1 := addAll_size l (s ++ x) (fun y hy => h y (List.mem_cons_of_mem _ hy))
    have h2 := h x (List.mem_cons_self ..)
    simp only [addAll, List.foldl_cons, List.length_cons] at h1 ⊢
    rw [ByteArray.size_append] at h1
    omega

abbrev C1 (w0 w : World) (a : Act) (af : Option Addr) (nf cf : Nat) (ap : Option Addr) (np cp : Nat) (want : ByteArray) (i : Nat) : Prop :=
  CRel (lenv w0.heap.size w []) Tryz.f4.ntmps { tl := [(0, .e (.c (.sl af nf cf))), (3, .e (.c (.bool true))), (4, .e (.c (.sl ap np cp))), (5, .e (.c (.str want))), (6, .e (.c (.int .i64 (i : Int))))], bs := [] } a w
abbrev C2 (w0 w : World) (a : Act) (af : Option Addr) (nf cf : Nat) (ap : Option Addr) (np cp : Nat) (want : ByteArray) (i k : Nat) : Prop :=
  CRel (lenv w0.heap.size w []) Tryz.f4.ntmps { tl := [(0, .e (.c (.sl af nf cf))), (3, .e (.c (.bool true))), (4, .e (.c (.sl ap np cp))), (5, .e (.c (.str want))), (6, .e (.c (.int .i64 (i : Int)))), (7, .e (.c (.int .i64 (k : Int))))], bs := [] } a w

abbrev CatR (w0 : World) : Ending → World → Prop := Gives (.bool true) (fun _ => True) w0

def Good (s : ByteArray) : Prop := (s.toList == []) = false ∧ s.size ≤ 256

theorem wrap_nat {n : Nat} (h : n ≤ 9223372036854775807) : IntKind.i64.wrap (n : Int) = (n : Int) := wrap_small (by omega) (by omega)
theorem wrap_succ {n : Nat} (h : n ≤ 1000000) : IntKind.i64.wrap ((n : Int) + 1) = ((n + 1 : Nat) : Int) := wrap_small (by omega) (by omega)

theorem cats_in (w0 : World) (ad : Addr) (nf cf : Nat) (files : List (List ByteArray)) (hf : FilesAt w0.heap.size w0 (some ad) nf cf files) (i : Nat) (hi10 : i < 10) (l : List ByteArray) (hl : files[i]? = some l) (hl10 : l.length ≤ 10) (np : Nat) (args : List ByteArray)
    (tot : ByteArray) (hcont : (∀ s ∈ l, Good s) → ∀ w a ap cp, New w0 w → Row w0.heap.size w ap np cp args → C1 w0 w a (some ad) nf cf ap np cp tot (i + 1) → Gets Tryz.prog 4 catsH1 a w (CatR w0)) :
    ∀ (ls pre : List ByteArray), l = pre ++ ls → (∀ s ∈ pre, Good s) → ∀ (want : ByteArray) (w : World) (a : Act) (ap : Option Addr) (cp : Nat), want.size + 256 * ls.length ≤ 1000000 → addAll want ls = tot → New w0 w → Row w0.heap.size w ap np cp args → C2 w0 w a (some ad) nf cf ap np cp want i pre.length → Gets Tryz.prog 4 catsH2 a w (CatR w0) := by
  intro ls
  induction ls with
  | nil =>
    intro pre hpre hg want w a ap cp _ htot hN hrow hc
    obtain ⟨ad0, a', n', c', e0, h2, h3, h4, h5, h6⟩ := (hf.fresh hN).at_ i l hl
    cases e0
    have hA : oro w0.heap.size w (ad.add ((i : Int).toNat * 1)) = some (.slice a' n' c') := oro_of (by rw [addr_add_block]; exact h3) (by simpa using h2)
    have hin : 0 ≤ (i : Int) ∧ (i : Int) < (nf : Int) := ⟨by omega, by have := (List.getElem?_eq_some_iff.1 hl).1; have := hf.len; omega⟩
    have hlt : decide ((pre.length : Int) < (n' : Int)) = false := by rw [h4, hpre]; simp
    refine gets_run tab_ok 60 (hc.feed [false] [.e (.c (.sl a' n' c'))]) (holds_of (obs := [fun _ => (0 : Int) ≤ (↑i : Int) ∧ (↑i : Int) < (↑nf : Int), fun ε => Env.ro ε (Addr.add ad (Int.toNat (↑i : Int) * (1 : Nat))) = some (C.real (Env.ρ ε) (C.sl a' n' c')), fun _ => decide ((↑(List.length pre) : Int) < (↑n' : Int)) = false]) (by kernel_rfl) ⟨hin, (by assumption), hlt, trivial⟩) (fun a1 w1 hc1 => ?_)
    replace hc1 := hc1.pickx [(0, .e (.c (.sl (some ad) nf cf))), (3, .e (.c (.bool true))), (4, .e (.c (.sl ap np cp))), (5, .e (.c (.str want))), (6, .e (.c (.int .i64 (IntKind.wrap IntKind.i64 ((↑i : Int) + (1 : Int)))))), (7, .e (.c (.int .i64 ((↑(List.length pre) : Int))))), (27, .e (.c (.int .i64 ((↑i : Int))))), (28, .e (.c (.int .i64 (IntKind.wrap IntKind.i64 ((↑i : Int) + (1 : Int)))))), (39, .e (.c (.int .i64 ((↑(List.length pre) : Int))))), (40, .e (.c (.sl (some ad) nf cf))), (41, .e (.c (.int .i64 ((↑i : Int))))), (42, .e (.c (.rp (Addr.add ad (Int.toNat (↑i : Int) * (1 : Nat)))))), (43, .e (.c (.sl a' n' c'))), (44, .e (.c (.int .i64 ((↑n' : Int))))), (45, .e (.c (.bool false)))] [] [] (by kernel_rfl) (by kernel_rfl)
    have hN1 := hN.trans ((Over.lenv (New.refl w) (by simp)).rel hc1.mem)
    have hc2 := hc1.anchor0 w0.heap.size [(0, .e (.c (.sl (some ad) nf cf))), (3, .e (.c (.bool true))), (4, .e (.c (.sl ap np cp))), (5, .e (.c (.str want))), (6, .e (.c (.int .i64 ((i + 1 : Nat) : Int))))] [] [] ⟨rfl, rfl, rfl, rfl, by show some (Value.int .i64 (IntKind.i64.wrap ((i : Int) + 1))) = _; rw [wrap_succ (by omega)]; rfl, trivial⟩
    refine gets_loop (k' := catsH1) (by kernel_rfl) ?_
    simp only [addAll, List.foldl_nil] at htot
    subst htot
    exact hcont (by rw [hpre]; simpa using hg) w1 a1 ap cp hN1 (hrow.fresh ((Over.lenv (New.refl w) (by simp)).rel hc1.mem)) hc2
  | cons s ls ih =>
    intro pre hpre hg want w a ap cp hsz htot hN hrow hc
    obtain ⟨ad0, a', n', c', e0, h2, h3, h4, h5, h6⟩ := (hf.fresh hN).at_ i l hl
    cases e0
    have hls : l[pre.length]? = some s := by rw [hpre]; simp
    obtain ⟨ad', rfl, g2, g3⟩ := h6 pre.length s hls
    have hll : l.length = pre.length + (ls.length + 1) := by rw [hpre]; simp
    have hA : oro w0.heap.size w (ad.add ((i : Int).toNat * 1)) = some (.slice (some ad') n' c') := oro_of (by rw [addr_add_block]; exact h3) (by simpa using h2)
    have hS : oro w0.heap.size w (ad'.add ((pre.length : Int).toNat * 1)) = some (.string s) := oro_of (by rw [addr_add_block]; exact g3) (by simpa using g2)
    have hin : 0 ≤ (i : Int) ∧ (i : Int) < (nf : Int) := ⟨by omega, by have := (List.getElem?_eq_some_iff.1 hl).1; have := hf.len; omega⟩
    have hin2 : 0 ≤ (pre.length : Int) ∧ (pre.length : Int) < (n' : Int) := ⟨by omega, by omega⟩
    have hlt : decide ((pre.length : Int) < (n' : Int)) = true := by rw [h4, hll]; simp; omega
    have hem : (⟨#[]⟩ : ByteArray).toList = [] := by rw [ByteArray.toList_eq]
    by_cases he : (s.toList == []) = true
    · have he' : (s.toList == (⟨#[]⟩ : ByteArray).toList) = true := by rw [hem]; exact he
      refine gets_run tab_ok 90 (hc.feed [true, true] [.e (.c (.sl (some ad') n' c')), .e (.c (.sl (some ad') n' c')), .e (.c (.str s))]) (holds_of (obs := [fun _ => (0 : Int) ≤ (↑i : Int) ∧ (↑i : Int) < (↑nf : Int), fun ε => Env.ro ε (Addr.add ad (Int.toNat (↑i : Int) * (1 : Nat))) = some (C.real (Env.ρ ε) (C.sl (some ad') n' c')), fun _ => decide ((↑(List.length pre) : Int) < (↑n' : Int)) = true, fun _ => (0 : Int) ≤ (↑i : Int) ∧ (↑i : Int) < (↑nf : Int), fun ε => Env.ro ε (Addr.add ad (Int.toNat (↑i : Int) * (1 : Nat))) = some (C.real (Env.ρ ε) (C.sl (some ad') n' c')), fun _ => (0 : Int) ≤ (↑(List.length pre) : Int) ∧ (↑(List.length pre) : Int) < (↑n' : Int), fun ε => Env.ro ε (Addr.add ad' (Int.toNat (↑(List.length pre) : Int) * (1 : Nat))) = some (C.real (Env.ρ ε) (C.str s)), fun _ => (ByteArray.toList s == ByteArray.toList { data := #[] }) = true]) (by kernel_rfl) ⟨hin, (by assumption), hlt, hin, (by assumption), hin2, (by assumption), he', trivial⟩) (fun a1 w1 hc1 => ?_)
      replace hc1 := hc1.pickx [(0, .e (.c (.sl (some ad) nf cf))), (2, .e (.c (.bool true))), (3, .e (.c (.bool true))), (4, .e (.c (.sl ap np cp))), (5, .e (.c (.str want))), (6, .e (.c (.int .i64 ((↑i : Int))))), (7, .e (.c (.int .i64 ((↑(List.length pre) : Int))))), (39, .e (.c (.int .i64 ((↑(List.length pre) : Int))))), (40, .e (.c (.sl (some ad) nf cf))), (41, .e (.c (.int .i64 ((↑i : Int))))), (42, .e (.c (.rp (Addr.add ad (Int.toNat (↑i : Int) * (1 : Nat)))))), (43, .e (.c (.sl (some ad') n' c'))), (44, .e (.c (.int .i64 ((↑n' : Int))))), (45, .e (.c (.bool true))), (48, .e (.c (.sl (some ad) nf cf))), (49, .e (.c (.int .i64 ((↑i : Int))))), (50, .e (.c (.rp (Addr.add ad (Int.toNat (↑i : Int) * (1 : Nat)))))), (51, .e (.c (.sl (some ad') n' c'))), (52, .e (.c (.int .i64 ((↑(List.length pre) : Int))))), (53, .e (.c (.rp (Addr.add ad' (Int.toNat (↑(List.length pre) : Int) * (1 : Nat)))))), (54, .e (.c (.str s))), (55, .e (.c (.bool true))), (56, .e (.c (.bool true))), (66, .e (.c (.bool true))), (67, .e (.c (.bool true)))] [] [] (by kernel_rfl) (by kernel_rfl)
      exact gets_fin tab_ok (l := [.c (.bool true)]) hc1 Tryz.func4 (by kernel_rfl) (by kernel_rfl) ⟨rfl, hN.trans ((Over.lenv (New.refl w) (by simp)).rel hc1.mem), trivial⟩
    · have he' : (s.toList == (⟨#[]⟩ : ByteArray).toList) = false := by rw [hem]; simpa using he
      by_cases hb : s.size ≤ 256
      · have hb' : decide ((s.size : Int) > 256) = false := by simp; omega
        have hso : ((want.size + s.size : Nat) : Int) ≤ 9223372036854775807 := by simp only [List.length_cons] at hsz; omega
        refine gets_run tab_ok 120 (hc.feed [true, false, false] [.e (.c (.sl (some ad') n' c')), .e (.c (.sl (some ad') n' c')), .e (.c (.str s)), .e (.c (.sl (some ad') n' c')), .e (.c (.str s)), .e (.c (.sl (some ad') n' c')), .e (.c (.str s))]) (holds_of (obs := [fun _ => (0 : Int) ≤ (↑i : Int) ∧ (↑i : Int) < (↑nf : Int), fun ε => Env.ro ε (Addr.add ad (Int.toNat (↑i : Int) * (1 : Nat))) = some (C.real (Env.ρ ε) (C.sl (some ad') n' c')), fun _ => decide ((↑(List.length pre) : Int) < (↑n' : Int)) = true, fun _ => (0 : Int) ≤ (↑i : Int) ∧ (↑i : Int) < (↑nf : Int), fun ε => Env.ro ε (Addr.add ad (Int.toNat (↑i : Int) * (1 : Nat))) = some (C.real (Env.ρ ε) (C.sl (some ad') n' c')), fun _ => (0 : Int) ≤ (↑(List.length pre) : Int) ∧ (↑(List.length pre) : Int) < (↑n' : Int), fun ε => Env.ro ε (Addr.add ad' (Int.toNat (↑(List.length pre) : Int) * (1 : Nat))) = some (C.real (Env.ρ ε) (C.str s)), fun _ => (ByteArray.toList s == ByteArray.toList { data := #[] }) = false, fun _ => (0 : Int) ≤ (↑i : Int) ∧ (↑i : Int) < (↑nf : Int), fun ε => Env.ro ε (Addr.add ad (Int.toNat (↑i : Int) * (1 : Nat))) = some (C.real (Env.ρ ε) (C.sl (some ad') n' c')), fun _ => (0 : Int) ≤ (↑(List.length pre) : Int) ∧ (↑(List.length pre) : Int) < (↑n' : Int), fun ε => Env.ro ε (Addr.add ad' (Int.toNat (↑(List.length pre) : Int) * (1 : Nat))) = some (C.real (Env.ρ ε) (C.str s)), fun _ => decide ((↑(ByteArray.size s) : Int) > (256 : Int)) = false, fun _ => (0 : Int) ≤ (↑i : Int) ∧ (↑i : Int) < (↑nf : Int), fun ε => Env.ro ε (Addr.add ad (Int.toNat (↑i : Int) * (1 : Nat))) = some (C.real (Env.ρ ε) (C.sl (some ad') n' c')), fun _ => (0 : Int) ≤ (↑(List.length pre) : Int) ∧ (↑(List.length pre) : Int) < (↑n' : Int), fun ε => Env.ro ε (Addr.add ad' (Int.toNat (↑(List.length pre) : Int) * (1 : Nat))) = some (C.real (Env.ρ ε) (C.str s)), fun _ => (↑(ByteArray.size want + ByteArray.size s) : Int) ≤ (9223372036854775807 : Int)]) (by kernel_rfl) ⟨hin, (by assumption), hlt, hin, (by assumption), hin2, (by assumption), he', hin, (by assumption), hin2, (by assumption), hb', hin, (by assumption), hin2, (by assumption), hso, trivial⟩) (fun a1 w1 hc1 => ?_)
        replace hc1 := hc1.pickx [(0, .e (.c (.sl (some ad) nf cf))), (3, .e (.c (.bool true))), (4, .e (.c (.sl ap np cp))), (5, .e (.c (.str (want ++ s)))), (6, .e (.c (.int .i64 ((↑i : Int))))), (7, .e (.c (.int .i64 (IntKind.wrap IntKind.i64 ((↑(List.length pre) : Int) + (1 : Int)))))), (39, .e (.c (.int .i64 ((↑(List.length pre) : Int))))), (40, .e (.c (.sl (some ad) nf cf))), (41, .e (.c (.int .i64 ((↑i : Int))))), (42, .e (.c (.rp (Addr.add ad (Int.toNat (↑i : Int) * (1 : Nat)))))), (43, .e (.c (.sl (some ad') n' c'))), (44, .e (.c (.int .i64 ((↑n' : Int))))), (45, .e (.c (.bool true))), (46, .e (.c (.int .i64 ((↑(List.length pre) : Int))))), (47, .e (.c (.int .i64 (IntKind.wrap IntKind.i64 ((↑(List.length pre) : Int) + (1 : Int)))))), (48, .e (.c (.sl (some ad) nf cf))), (49, .e (.c (.int .i64 ((↑i : Int))))), (50, .e (.c (.rp (Addr.add ad (Int.toNat (↑i : Int) * (1 : Nat)))))), (51, .e (.c (.sl (some ad') n' c'))), (52, .e (.c (.int .i64 ((↑(List.length pre) : Int))))), (53, .e (.c (.rp (Addr.add ad' (Int.toNat (↑(List.length pre) : Int) * (1 : Nat)))))), (54, .e (.c (.str s))), (55, .e (.c (.bool false))), (56, .e (.c (.bool false))), (57, .e (.c (.sl (some ad) nf cf))), (58, .e (.c (.int .i64 ((↑i : Int))))), (59, .e (.c (.rp (Addr.add ad (Int.toNat (↑i : Int) * (1 : Nat)))))), (60, .e (.c (.sl (some ad') n' c'))), (61, .e (.c (.int .i64 ((↑(List.length pre) : Int))))), (62, .e (.c (.rp (Addr.add ad' (Int.toNat (↑(List.length pre) : Int) * (1 : Nat)))))), (63, .e (.c (.str s))), (64, .e (.c (.int .i64 ((↑(ByteArray.size s) : Int))))), (65, .e (.c (.bool false))), (66, .e (.c (.bool false))), (68, .e (.c (.str want))), (69, .e (.c (.sl (some ad) nf cf))), (70, .e (.c (.int .i64 ((↑i : Int))))), (71, .e (.c (.rp (Addr.add ad (Int.toNat (↑i : Int) * (1 : Nat)))))), (72, .e (.c (.sl (some ad') n' c'))), (73, .e (.c (.int .i64 ((↑(List.length pre) : Int))))), (74, .e (.c (.rp (Addr.add ad' (Int.toNat (↑(List.length pre) : Int) * (1 : Nat)))))), (75, .e (.c (.str s))), (76, .e (.c (.str (want ++ s))))] [] [] (by kernel_rfl) (by kernel_rfl)
        have hN1 := hN.trans ((Over.lenv (New.refl w) (by simp)).rel hc1.mem)
        have hc2 := hc1.anchor0 w0.heap.size [(0, .e (.c (.sl (some ad) nf cf))), (3, .e (.c (.bool true))), (4, .e (.c (.sl ap np cp))), (5, .e (.c (.str (want ++ s)))), (6, .e (.c (.int .i64 (i : Int)))), (7, .e (.c (.int .i64 ((pre.length + 1 : Nat) : Int))))] [] [] ⟨rfl, rfl, rfl, rfl, rfl, by show some (Value.int .i64 (IntKind.i64.wrap ((pre.length : Int) + 1))) = _; rw [wrap_succ (by omega)]; rfl, trivial⟩
        refine gets_loop (k' := catsH2) (by kernel_rfl) ?_
        have hpl : (pre ++ [s]).length = pre.length + 1 := by simp
        refine ih (pre ++ [s]) (by rw [hpre]; simp) (fun x hx => ?_) (want ++ s) w1 a1 ap cp (by rw [ByteArray.size_append]; simp only [List.length_cons] at hsz; omega) htot hN1 (hrow.fresh ((Over.lenv (New.refl w) (by simp)).rel hc1.mem)) (by rw [hpl]; exact hc2)
        rcases List.mem_append.1 hx with hx | hx
        · exact hg x hx
        · simp only [List.mem_singleton] at hx
          subst hx
          exact ⟨by simpa using he, hb⟩
      · have hb' : decide ((s.size : Int) > 256) = true := by simp; omega
        refine gets_run tab_ok 120 (hc.feed [true, false, true] [.e (.c (.sl (some ad') n' c')), .e (.c (.sl (some ad') n' c')), .e (.c (.str s)), .e (.c (.sl (some ad') n' c')), .e (.c (.str s))]) (holds_of (obs := [fun _ => (0 : Int) ≤ (↑i : Int) ∧ (↑i : Int) < (↑nf : Int), fun ε => Env.ro ε (Addr.add ad (Int.toNat (↑i : Int) * (1 : Nat))) = some (C.real (Env.ρ ε) (C.sl (some ad') n' c')), fun _ => decide ((↑(List.length pre) : Int) < (↑n' : Int)) = true, fun _ => (0 : Int) ≤ (↑i : Int) ∧ (↑i : Int) < (↑nf : Int), fun ε => Env.ro ε (Addr.add ad (Int.toNat (↑i : Int) * (1 : Nat))) = some (C.real (Env.ρ ε) (C.sl (some ad') n' c')), fun _ => (0 : Int) ≤ (↑(List.length pre) : Int) ∧ (↑(List.length pre) : Int) < (↑n' : Int), fun ε => Env.ro ε (Addr.add ad' (Int.toNat (↑(List.length pre) : Int) * (1 : Nat))) = some (C.real (Env.ρ ε) (C.str s)), fun _ => (ByteArray.toList s == ByteArray.toList { data := #[] }) = false, fun _ => (0 : Int) ≤ (↑i : Int) ∧ (↑i : Int) < (↑nf : Int), fun ε => Env.ro ε (Addr.add ad (Int.toNat (↑i : Int) * (1 : Nat))) = some (C.real (Env.ρ ε) (C.sl (some ad') n' c')), fun _ => (0 : Int) ≤ (↑(List.length pre) : Int) ∧ (↑(List.length pre) : Int) < (↑n' : Int), fun ε => Env.ro ε (Addr.add ad' (Int.toNat (↑(List.length pre) : Int) * (1 : Nat))) = some (C.real (Env.ρ ε) (C.str s)), fun _ => decide ((↑(ByteArray.size s) : Int) > (256 : Int)) = true]) (by kernel_rfl) ⟨hin, (by assumption), hlt, hin, (by assumption), hin2, (by assumption), he', hin, (by assumption), hin2, (by assumption), hb', trivial⟩) (fun a1 w1 hc1 => ?_)
        replace hc1 := hc1.pickx [(0, .e (.c (.sl (some ad) nf cf))), (2, .e (.c (.bool true))), (3, .e (.c (.bool true))), (4, .e (.c (.sl ap np cp))), (5, .e (.c (.str want))), (6, .e (.c (.int .i64 ((↑i : Int))))), (7, .e (.c (.int .i64 ((↑(List.length pre) : Int))))), (39, .e (.c (.int .i64 ((↑(List.length pre) : Int))))), (40, .e (.c (.sl (some ad) nf cf))), (41, .e (.c (.int .i64 ((↑i : Int))))), (42, .e (.c (.rp (Addr.add ad (Int.toNat (↑i : Int) * (1 : Nat)))))), (43, .e (.c (.sl (some ad') n' c'))), (44, .e (.c (.int .i64 ((↑n' : Int))))), (45, .e (.c (.bool true))), (48, .e (.c (.sl (some ad) nf cf))), (49, .e (.c (.int .i64 ((↑i : Int))))), (50, .e (.c (.rp (Addr.add ad (Int.toNat (↑i : Int) * (1 : Nat)))))), (51, .e (.c (.sl (some ad') n' c'))), (52, .e (.c (.int .i64 ((↑(List.length pre) : Int))))), (53, .e (.c (.rp (Addr.add ad' (Int.toNat (↑(List.length pre) : Int) * (1 : Nat)))))), (54, .e (.c (.str s))), (55, .e (.c (.bool false))), (56, .e (.c (.bool false))), (57, .e (.c (.sl (some ad) nf cf))), (58, .e (.c (.int .i64 ((↑i : Int))))), (59, .e (.c (.rp (Addr.add ad (Int.toNat (↑i : Int) * (1 : Nat)))))), (60, .e (.c (.sl (some ad') n' c'))), (61, .e (.c (.int .i64 ((↑(List.length pre) : Int))))), (62, .e (.c (.rp (Addr.add ad' (Int.toNat (↑(List.length pre) : Int) * (1 : Nat)))))), (63, .e (.c (.str s))), (64, .e (.c (.int .i64 ((↑(ByteArray.size s) : Int))))), (65, .e (.c (.bool true))), (66, .e (.c (.bool true))), (67, .e (.c (.bool true)))] [] [] (by kernel_rfl) (by kernel_rfl)
        exact gets_fin tab_ok (l := [.c (.bool true)]) hc1 Tryz.func4 (by kernel_rfl) (by kernel_rfl) ⟨rfl, hN.trans ((Over.lenv (New.refl w) (by simp)).rel hc1.mem), trivial⟩

def GoodF (l : List ByteArray) : Prop := l.length ≤ 10 ∧ ∀ s ∈ l, Good s

def addFiles : ByteArray → List (List ByteArray) → ByteArray := List.foldl addAll

theorem cats_out (w0 : World) (ad : Addr) (nf cf : Nat) (files : List (List ByteArray)) (hf : FilesAt w0.heap.size w0 (some ad) nf cf files) (h10 : files.length ≤ 10) (tot : ByteArray)
    (hcont : (∀ l ∈ files, GoodF l) → ∀ w a ap cp, New w0 w → Row w0.heap.size w ap (files.length + 1) cp (sCat :: cats files.length) → C1 w0 w a (some ad) nf cf ap (files.length + 1) cp tot files.length → Gets Tryz.prog 4 catsH1 a w (CatR w0)) :
    ∀ (fs pre : List (List ByteArray)), files = pre ++ fs → (∀ l ∈ pre, GoodF l) → ∀ (want : ByteArray) (w : World) (a : Act) (ap : Option Addr) (cp : Nat), want.size + 2560 * fs.length ≤ 100000 → addFiles want fs = tot → New w0 w → Row w0.heap.size w ap (pre.length + 1) cp (sCat :: cats pre.length) → C1 w0 w a (some ad) nf cf ap (pre.length + 1) cp want pre.length → Gets Tryz.prog 4 catsH1 a w (CatR w0) := by
  intro fs
  induction fs with
  | nil =>
    intro pre hpre hg want w a ap cp hsz htot hN hrow hc
    have hpre' : files = pre := by simpa using hpre
    subst hpre'
    simp only [addFiles, List.foldl_nil] at htot
    subst htot
    exact hcont hg w a ap cp hN hrow hc
  | cons l fs ih =>
    intro pre hpre hg want w a ap cp hsz htot hN hrow hc
    have hfl : files.length = pre.length + (fs.length + 1) := by rw [hpre]; simp
    have hl : files[pre.length]? = some l := by rw [hpre]; simp
    obtain ⟨ad0, a', n', c', e0, h2, h3, h4, h5, h6⟩ := (hf.fresh hN).at_ pre.length l hl
    cases e0
    have hA : oro w0.heap.size w (ad.add ((pre.length : Int).toNat * 1)) = some (.slice a' n' c') := oro_of (by rw [addr_add_block]; exact h3) (by simpa using h2)
    have hin : 0 ≤ (pre.length : Int) ∧ (pre.length : Int) < (nf : Int) := ⟨by omega, by have := hf.len; omega⟩
    have hlt : decide ((pre.length : Int) < (nf : Int)) = true := by have := hf.len; simp; omega
    by_cases h11 : l.length ≤ 10
    · have h11' : decide ((n' : Int) > 10) = false := by rw [h4]; simp; omega
      refine gets_run tab_ok 60 (hc.feed [true, false] [.e (.c (.sl a' n' c'))]) (holds_of (obs := [fun _ => decide ((↑(List.length pre) : Int) < (↑nf : Int)) = true, fun _ => (0 : Int) ≤ (↑(List.length pre) : Int) ∧ (↑(List.length pre) : Int) < (↑nf : Int), fun ε => Env.ro ε (Addr.add ad (Int.toNat (↑(List.length pre) : Int) * (1 : Nat))) = some (C.real (Env.ρ ε) (C.sl a' n' c')), fun _ => decide ((↑n' : Int) > (10 : Int)) = false]) (by kernel_rfl) ⟨hlt, hin, (by assumption), h11', trivial⟩) (fun a1 w1 hc1 => ?_)
      replace hc1 := hc1.pickx [(0, .e (.c (.sl (some ad) nf cf))), (3, .e (.c (.bool true))), (4, .e (.c (.sl ap (List.length pre + (1 : Nat)) cp))), (5, .e (.c (.str want))), (6, .e (.c (.int .i64 ((↑(List.length pre) : Int))))), (23, .e (.c (.int .i64 ((↑(List.length pre) : Int))))), (24, .e (.c (.sl (some ad) nf cf))), (25, .e (.c (.int .i64 ((↑nf : Int))))), (26, .e (.c (.bool true))), (29, .e (.c (.sl (some ad) nf cf))), (30, .e (.c (.int .i64 ((↑(List.length pre) : Int))))), (31, .e (.c (.rp (Addr.add ad (Int.toNat (↑(List.length pre) : Int) * (1 : Nat)))))), (32, .e (.c (.sl a' n' c'))), (33, .e (.c (.int .i64 ((↑n' : Int))))), (34, .e (.c (.bool false))), (36, .e (.c (.sl ap (List.length pre + (1 : Nat)) cp))), (37, .e (.c (.nsl 0 0 1 1)))] [⟨9, [.str ⟨#[47, 102]⟩]⟩] [] (by kernel_rfl) (by kernel_rfl)
      have hN1 := hN.trans ((Over.lenv (New.refl w) (by simp)).rel hc1.mem)
      have hrow1 := hrow.fresh ((Over.lenv (New.refl w) (by simp)).rel hc1.mem)
      refine gets_append9 38 36 37 0 ap (pre.length + 1) cp (sCat :: cats pre.length) sF [(0, .e (.c (.sl (some ad) nf cf))), (3, .e (.c (.bool true))), (5, .e (.c (.str want))), (6, .e (.c (.int .i64 (pre.length : Int))))] hN1 rfl hc1 (by kernel_rfl) (by kernel_rfl) (by kernel_rfl) (by kernel_rfl) hrow1 (by omega) (by kernel_rfl) (fun ρ' => ⟨rfl, rfl, rfl, rfl, trivial⟩) (fun a2 w2 ap2 cp2 hN2 hrow2 hc2 => ?_)
      refine gets_run tab_ok 60 hc2 (holds_of (obs := []) (by kernel_rfl) trivial) (fun a3 w3 hc3 => ?_)
      replace hc3 := hc3.pickx [(0, .e (.c (.sl (some ad) nf cf))), (3, .e (.c (.bool true))), (4, .e (.c (.sl ap2 (List.length pre + (1 : Nat) + (1 : Nat)) cp2))), (5, .e (.c (.str want))), (6, .e (.c (.int .i64 ((↑(List.length pre) : Int))))), (7, .e (.c (.int .i64 0))), (38, .e (.c (.sl ap2 (List.length pre + (1 : Nat) + (1 : Nat)) cp2)))] [] [] (by kernel_rfl) (by kernel_rfl)
      have hn3 := (Over.lenv (New.refl w2) (by simp)).rel hc3.mem
      have hN3 := hN2.trans hn3
      have hc4 := hc3.anchor0 w0.heap.size [(0, .e (.c (.sl (some ad) nf cf))), (3, .e (.c (.bool true))), (4, .e (.c (.sl ap2 (pre.length + 1 + 1) cp2))), (5, .e (.c (.str want))), (6, .e (.c (.int .i64 (pre.length : Int)))), (7, .e (.c (.int .i64 ((([] : List ByteArray).length : Nat) : Int))))] [] [] ⟨rfl, rfl, rfl, rfl, rfl, rfl, trivial⟩
      refine gets_loop (k' := catsH2) (by kernel_rfl) ?_
      have hargs : sCat :: cats pre.length ++ [sF] = sCat :: cats (pre.length + 1) := by
        simp only [cats, List.cons_append, List.replicate_succ']
      rw [hargs] at hrow2
      refine cats_in w0 ad nf cf files hf pre.length (by omega) l hl h11 (pre.length + 1 + 1) (sCat :: cats (pre.length + 1)) (addAll want l) (fun hgood w5 a5 ap5 cp5 hN5 hrow5 hc5 => ?_) l [] rfl (fun _ h => by cases h) want w3 a3 ap2 cp2 (by simp only [List.length_cons] at hsz; omega) rfl hN3 (hrow2.fresh hn3) hc4
      have hpl : (pre ++ [l]).length = pre.length + 1 := by simp
      have hw5 := addAll_size l want (fun x hx => (hgood x hx).2)
      refine ih (pre ++ [l]) (by rw [hpre]; simp) (fun x hx => ?_) (addAll want l) w5 a5 ap5 cp5 (by simp only [List.length_cons] at hsz; omega) htot hN5 (by rw [hpl]; exact hrow5) (by rw [hpl]; exact hc5)
      rcases List.mem_append.1 hx with hx | hx
      · exact hg x hx
      · simp only [List.mem_singleton] at hx
        subst hx
        exact ⟨h11, hgood⟩
    · have h11' : decide ((n' : Int) > 10) = true := by rw [h4]; simp; omega
      refine gets_run tab_ok 90 (hc.feed [true, true] [.e (.c (.sl a' n' c'))]) (holds_of (obs := [fun _ => decide ((↑(List.length pre) : Int) < (↑nf : Int)) = true, fun _ => (0 : Int) ≤ (↑(List.length pre) : Int) ∧ (↑(List.length pre) : Int) < (↑nf : Int), fun ε => Env.ro ε (Addr.add ad (Int.toNat (↑(List.length pre) : Int) * (1 : Nat))) = some (C.real (Env.ρ ε) (C.sl a' n' c')), fun _ => decide ((↑n' : Int) > (10 : Int)) = true]) (by kernel_rfl) ⟨hlt, hin, (by assumption), h11', trivial⟩) (fun a1 w1 hc1 => ?_)
      replace hc1 := hc1.pickx [(0, .e (.c (.sl (some ad) nf cf))), (2, .e (.c (.bool true))), (3, .e (.c (.bool true))), (4, .e (.c (.sl ap (List.length pre + (1 : Nat)) cp))), (5, .e (.c (.str want))), (6, .e (.c (.int .i64 ((↑(List.length pre) : Int))))), (23, .e (.c (.int .i64 ((↑(List.length pre) : Int))))), (24, .e (.c (.sl (some ad) nf cf))), (25, .e (.c (.int .i64 ((↑nf : Int))))), (26, .e (.c (.bool true))), (29, .e (.c (.sl (some ad) nf cf))), (30, .e (.c (.int .i64 ((↑(List.length pre) : Int))))), (31, .e (.c (.rp (Addr.add ad (Int.toNat (↑(List.length pre) : Int) * (1 : Nat)))))), (32, .e (.c (.sl a' n' c'))), (33, .e (.c (.int .i64 ((↑n' : Int))))), (34, .e (.c (.bool true))), (35, .e (.c (.bool true)))] [] [] (by kernel_rfl) (by kernel_rfl)
      exact gets_fin tab_ok (l := [.c (.bool true)]) hc1 Tryz.func4 (by kernel_rfl) (by kernel_rfl) ⟨rfl, hN.trans ((Over.lenv (New.refl w) (by simp)).rel hc1.mem), trivial⟩

end Go.Proofs.YtoihipolfdhhnaaGreatDoor

namespace Go.Proofs.YtoihipolfdhhnaaGreatDoor

abbrev sCp : ByteArray := ⟨#[99, 112]⟩
abbrev sB : ByteArray := ⟨#[47, 98]⟩

def low9 (mode : Int) : Int := IntKind.i64.wrap (BitVec.ofInt 64 mode &&& BitVec.ofInt 64 511).toNat

def pT : List Fn := [.exit0, .each [sA] (.place sB false .cop)]
def pS : M := (m0 sCp).push (.start .cp [sA, sB])
def p1 : M := ⟨sCp, 0, [.exit0], some (.places [sA, sB] 1 sB .cop), { op := 8, path := sB }, false⟩
def p2 : M := ⟨sCp, 0, pT, some (.tries sA (.copies1 sA sB)), { op := 8, path := sA }, false⟩
def p3 (mode : Int) : M := ⟨sCp, 0, pT, some (.tries sA (.copies2 sB (low9 mode))), { op := 2, path := sA, want := 4 }, false⟩
def p4 (mode : Int) : M := ⟨sCp, 0, pT, some (.copies3 sB { n := 3 }), { op := 2, path := sB, want := 2, make := true, empty := true, hmode := low9 mode }, false⟩
def pR : M := ⟨sCp, 0, pT, some (.pours 3 4 (.closes [3, 4])), { op := 4, fd := 3, n := 256 }, false⟩
def pW (t : ByteArray) : M := ⟨sCp, 0, pT, some (.say 4 t (.pours 3 4 (.closes [3, 4]))), { op := 5, fd := 4, text := t }, false⟩
def pC1 : M := ⟨sCp, 0, pT, some (.closes [3, 4]), { op := 3, fd := 3 }, false⟩
def pC2 : M := ⟨sCp, 0, pT, some (.closes [4]), { op := 3, fd := 4 }, false⟩
def pX : M := ⟨sCp, 0, [], none, { op := 20, n := 0 }, true⟩

theorem prog_cp : progOf sCp = some .cp := by simp [progOf]
theorem szCp : sCp.size = 2 := rfl
theorem szA : sA.size = 2 := rfl
theorem szB : sB.size = 2 := rfl

theorem cp_uS : next 10 pS {} = p1 := by
  simp [next, pS, p1, m0, M.push, turn, runK, runD, runPlaces, lastOf, M.sys]
theorem cp_vS : okNext 10 pS {} := by
  simp [okNext, pS, m0, M.push, okTurn, okK, okD, runK, runD, runPlaces, lastOf, M.sys, szCp]
theorem cp_u1 : next 10 p1 { err := 3 } = p2 := by
  simp [next, p1, p2, pT, turn, runR, runPlace, isDir, runEach, runE, M.push, M.bring, M.tries, M.sys]
theorem cp_v1 : okNext 10 p1 { err := 3 } := by
  simp [okNext, p1, okTurn, okR, okEach, okE, runR, runPlace, isDir, runEach, runE, M.push, M.bring, M.tries, M.sys, szCp]
theorem cp_u2 (mode : Int) : next 10 p2 { info := { mode := mode } } = p3 mode := by
  simp [next, p2, p3, pT, turn, runR, M.tried, M.copied1, M.tries, M.sys, low9]
theorem cp_v2 (mode : Int) : okNext 10 p2 { info := { mode := mode } } := by
  simp [okNext, p2, okTurn, okR, runR, M.tried, M.copied1, M.tries, M.sys, szCp, szA]
theorem cp_u3 (mode : Int) : next 10 (p3 mode) { n := 3 } = p4 mode := by
  simp [next, p3, p4, turn, runR, M.tried, M.sys]
theorem cp_v3 (mode : Int) : okNext 10 (p3 mode) { n := 3 } := by
  simp [okNext, p3, okTurn, okR, runR, M.tried, M.sys, szCp, szA]
theorem cp_u4 (mode : Int) : next 10 (p4 mode) { n := 4 } = pR := by
  simp [next, p4, pR, turn, runR, M.copied3, M.pours, M.sys]
theorem cp_v4 (mode : Int) : okNext 10 (p4 mode) { n := 4 } := by
  simp [okNext, p4, pT, okTurn, okR, runR, M.copied3, M.pours, M.sys, szCp, szB]
theorem cp_uRt (t : ByteArray) (h : (t.toList == []) = false) : next 10 pR { text := t } = pW t := by
  simp [next, pR, pW, turn, runR, M.poured, M.say, M.sys, h]
theorem cp_vRt (t : ByteArray) (h : (t.toList == []) = false) : okNext 10 pR { text := t } := by
  simp [okNext, pR, okTurn, okR, okK, runR, M.poured, M.say, M.sys, h]
theorem cp_uRe : next 10 pR {} = pC1 := by
  simp [next, pR, pC1, turn, runR, runK, M.poured, M.closes, M.sys, ByteArray.toList_eq]
theorem cp_vRe : okNext 10 pR {} := by
  simp [okNext, pR, okTurn, okR, okK, runR, runK, M.poured, M.closes, M.sys, ByteArray.toList_eq]
theorem cp_uW (t : ByteArray) : next 10 (pW t) { n := t.size } = pR := by
  simp [next, pW, pR, turn, runR, runK, M.said, M.pours, M.sys]
theorem cp_vW (t : ByteArray) : okNext 10 (pW t) { n := t.size } := by
  simp [okNext, pW, okTurn, okR, okK, runR, runK, M.said, M.pours, M.sys]
theorem cp_uC1 : next 10 pC1 {} = pC2 := by
  simp [next, pC1, pC2, turn, runR, M.closes, M.sys]
theorem cp_vC1 : okNext 10 pC1 {} := by
  simp [okNext, pC1, okTurn, okR, runR, M.closes, M.sys]
theorem cp_uC2 : next 10 pC2 {} = pX := by
  simp [next, pC2, pX, pT, turn, runR, runK, runEach, M.closes, M.exit]; decide
theorem cp_vC2 : okNext 10 pC2 {} := by
  simp [okNext, pC2, pT, okTurn, okR, okK, okEach, runR, runK, runEach, M.closes, M.exit]

end Go.Proofs.YtoihipolfdhhnaaGreatDoor

namespace Go.Proofs.YtoihipolfdhhnaaGreatDoor

noncomputable def cats5 : List Item := (run Tab Tryz.f4.ntmps 60 catsH1 { tl := [(0, .e (.c (.sl (some ⟨0, 0, none⟩) 1 1))), (3, .e (.c (.bool true))), (4, .e (.c (.sl none 0 0))), (5, .e (.c (.str ⟨#[]⟩))), (6, .e (.c (.int .i64 0)))], bs := [], orc := [false, false] }).1
noncomputable def cats6 : List Item := (run Tab Tryz.f4.ntmps 60 (popX cats5) { tl := [(82, .e (.c (.rp ⟨0, 0, none⟩))), (0, .e (.c (.sl (some ⟨0, 0, none⟩) 1 1))), (3, .e (.c (.bool true))), (5, .e (.c (.str ⟨#[]⟩)))], bs := [] }).1
noncomputable def catsH3 : List Item := (loopX cats6).getD []

abbrev C3tl (af : Option Addr) (nf cf : Nat) (want : ByteArray) (ku : Nat) (got : ByteArray) (file piece opn : Int) (n : Nat) : List (Nat × SV) :=
  [(0, .e (.c (.sl af nf cf))), (3, .e (.c (.bool true))), (5, .e (.c (.str want))), (8, .e (.c (.rp ⟨ku, 0, none⟩))), (9, .e (.c (.str got))), (10, .e (.c (.int .i64 file))), (11, .e (.c (.int .i64 piece))), (12, .e (.c (.int .i64 opn))), (13, .e (.c (.p 0 0))), (14, .e (.c (.int .i64 (n : Int))))]

/-- What holds at the loop's head. -/
structure K3 (w0 : World) (af : Option Addr) (nf cf : Nat) (want : ByteArray) (ku b kr : Nat) (m : M) (r : Res) (got : ByteArray) (file piece opn : Int) (n : Nat) (w : World) (a : Act) : Prop where
  new : New w0 w
  lu : LU ⟨w0.heap.size, [kr]⟩ w0 w ku b m
  kr0 : w0.heap.size ≤ kr
  nm : r.names = []
  rel : CRel (lenv w0.heap.size w [kr]) Tryz.f4.ntmps { tl := C3tl af nf cf want ku got file piece opn n, bs := [⟨35, r.cs none 0 0⟩] } a w

theorem cats_end (w0 : World) (af : Option Addr) (nf cf : Nat) (want : ByteArray) (ku b kr : Nat) (m : M) (r : Res) (got : ByteArray) (file piece opn : Int) (w : World) (a : Act) (h : K3 w0 af nf cf want ku b kr m r got file piece opn 400 w a) : Gets Tryz.prog 4 catsH3 a w (CatR w0) := by
  obtain ⟨hN, hu, hkr, hnm, hc⟩ := h
  have hlt : decide (((400 : Nat) : Int) < 400) = false := by decide
  refine gets_run tab_ok 60 (hc.feed [false] []) (holds_of (obs := [fun _ => decide ((↑(400 : Nat) : Int) < (400 : Int)) = false]) (by kernel_rfl) ⟨rfl, trivial⟩) (fun a1 w1 hc1 => ?_)
  replace hc1 := hc1.pickx [(2, .e (.c (.bool true)))] [⟨35, [.int .i64 (Res.err r), .int .i64 (Res.n r), .int .i64 (Res.m r), .str (Res.text r), .sl (none) 0 0, .int .i64 (InfoD.ino (Res.info r)), .int .i64 (InfoD.kind (Res.info r)), .int .i64 (InfoD.mode (Res.info r)), .int .i64 (InfoD.owner (Res.info r)), .int .i64 (InfoD.group (Res.info r)), .int .i64 (InfoD.links (Res.info r)), .int .i64 (InfoD.size (Res.info r)), .int .i64 (InfoD.tty (Res.info r)), .int .i64 (Res.may r), .int .i64 (CredD.real_ (Res.cred r)), .int .i64 (CredD.eff (Res.cred r)), .int .i64 (CredD.saved (Res.cred r)), .int .i64 (CredD.group (Res.cred r)), .int .i64 (CredD.effGroup (Res.cred r))]⟩] [] (by kernel_rfl) (by kernel_rfl)
  exact gets_fin tab_ok (l := [.c (.bool true)]) hc1 Tryz.func4 (by kernel_rfl) (by kernel_rfl) ⟨rfl, (Over.lenv hN (by simpa using hkr)).rel hc1.mem, trivial⟩

noncomputable def catsK : List Item := (run Tab Tryz.f4.ntmps 60 catsH3 { tl := C3tl none 0 0 ⟨#[]⟩ 0 ⟨#[]⟩ 0 0 0 0, bs := [⟨35, ({} : Res).cs none 0 0⟩], orc := [true] }).1

theorem cats_to (w0 : World) (af : Option Addr) (nf cf : Nat) (want : ByteArray) (ku b kr : Nat) (m m' : M) (r : Res) (got : ByteArray) (file piece opn : Int) (n : Nat) (w : World) (a : Act) (h : K3 w0 af nf cf want ku b kr m r got file piece opn n w a) (hn : n < 400) (hm : next 10 m r = m') (hok : okNext 10 m r)
    (hk : ∀ w' a', New w0 w' → LU ⟨w0.heap.size, [kr]⟩ w0 w' ku b m' → CRel (lenv w0.heap.size w' [kr]) Tryz.f4.ntmps { tl := (92, .e (.a m'.call.cs)) :: C3tl af nf cf want ku got file piece opn n, bs := [⟨35, r.cs none 0 0⟩] } a' w' → Gets Tryz.prog 4 (popX catsK) a' w' (CatR w0)) :
    Gets Tryz.prog 4 catsH3 a w (CatR w0) := by
  obtain ⟨hN, hu, hkr, hnm, hc⟩ := h
  have hlt : decide ((n : Int) < 400) = true := by simp; omega
  refine gets_run tab_ok 60 (hc.feed [true] []) (holds_of (obs := [fun _ => decide ((n : Int) < (400 : Int)) = true]) (by kernel_rfl) ⟨hlt, trivial⟩) (fun a1 w1 hc1 => ?_)
  have hn1 := hc.mem.same (hc1.mem.bs (bs' := [⟨35, r.cs none 0 0⟩]) (by kernel_rfl))
  refine law_next1 (m' := m') 10 92 r ku b 0 ⟨35, r.cs none 0 0⟩ (C3tl af nf cf want ku got file piece opn n) (ad := none) (nn := 0) (cp := 0) (rs := r.cs none 0 0) (hN.trans hn1) hc1 (hu.fresh hn1) (by kernel_rfl) (congrArg Value.agg (map_plain _ rfl)) (by rw [hnm]; exact strsAt_nil _ _) (by kernel_rfl) (by kernel_rfl) (by kernel_rfl) rfl (by show (35 : Nat) ≠ 66; decide) (by show (35 : Nat) ≠ 84; decide) (by show w0.heap.size ≤ kr; exact hkr) (fun w' => ⟨by rfl, by rfl, by rfl, by rfl, by rfl, by rfl, by rfl, by rfl, by rfl, by rfl, trivial⟩) hm hok (fun a2 w2 hN2 hu2 hc2 => ?_)
  exact hk w2 a2 hN2 hu2 hc2

theorem wrap_int {x : Int} (h0 : -1000000 ≤ x) (h1 : x ≤ 1000000) : IntKind.i64.wrap x = x := by
  simp only [IntKind.wrap, IntKind.bits, IntKind.signed]
  simp
  omega

/-- From the loop's end to its head. -/
theorem cats_back (w0 : World) (af : Option Addr) (nf cf : Nat) (want : ByteArray) (ku b kr : Nat) (m : M) (r : Res) (got : ByteArray) (file piece opn : Int) (n : Nat) (w0' w : World) (a : Act) (σ : St) (hN : New w0 w) (hu : LU ⟨w0.heap.size, [kr]⟩ w0 w ku b m) (hkr : w0.heap.size ≤ kr) (hnm : r.names = [])
    (hc : CRel (lenv w0.heap.size w0' [kr]) Tryz.f4.ntmps σ a w) (hb : σ.bs[0]? = some ⟨35, r.cs none 0 0⟩) (hT : AllT (lenv w0.heap.size w0' [kr]).ρ (lenv w0.heap.size w [kr]).ρ σ.tl (C3tl af nf cf want ku got file piece opn n)) : K3 w0 af nf cf want ku b kr m r got file piece opn n w a :=
  ⟨hN, hu, hkr, hnm, hc.anchor1 w0.heap.size 0 ⟨35, r.cs none 0 0⟩ hb rfl hkr _ [] [] hT⟩

theorem cats_open (w0 : World) (af : Option Addr) (nf cf : Nat) (want : ByteArray) (ku b kr : Nat) (m : M) (x : Nat) (r : Res) (got : ByteArray) (file piece opn : Int) (n : Nat) (w : World) (a : Act) (h : K3 w0 af nf cf want ku b kr m r got file piece opn n w a) (hn : n < 400) (hm : next 10 m r = cO x) (hok : okNext 10 m r)
    (hf : -1 ≤ file ∧ file ≤ 1000) (ho : -1 ≤ opn ∧ opn ≤ 1000) (hk : ∀ w' a', K3 w0 af nf cf want ku b kr (cO x) { n := 9 } got (file + 1) 0 (opn + 1) (n + 1) w' a' → Gets Tryz.prog 4 catsH3 a' w' (CatR w0)) : Gets Tryz.prog 4 catsH3 a w (CatR w0) := by
  refine cats_to w0 af nf cf want ku b kr m _ r got file piece opn n w a h hn hm hok (fun w2 a2 hN2 hu2 hc2 => ?_)
  replace hc2 : CRel (lenv w0.heap.size w2 [kr]) Tryz.f4.ntmps { tl := (92, .e (.a ({ op := 2, path := sF, want := 4 } : CallD).cs)) :: C3tl af nf cf want ku got file piece opn n, bs := [⟨35, r.cs none 0 0⟩] } a2 w2 := hc2
  refine gets_run tab_ok 120 (hc2.feed [false, true] []) (holds_of (obs := [fun _ => ((2 : Int) == (20 : Int)) = false, fun _ => ((2 : Int) == (2 : Int)) = true]) (by kernel_rfl) ⟨rfl, rfl, trivial⟩) (fun a3 w3 hc3 => ?_)
  replace hc3 := hc3.pickx [(0, .e (.c (.sl af nf cf))), (3, .e (.c (.bool true))), (5, .e (.c (.str want))), (8, .e (.c (.rp ⟨ku, 0, none⟩))), (9, .e (.c (.str got))), (10, .e (.c (.int .i64 (IntKind.wrap IntKind.i64 (file + (1 : Int)))))), (11, .e (.c (.int .i64 0))), (12, .e (.c (.int .i64 (IntKind.wrap IntKind.i64 (opn + (1 : Int)))))), (13, .e (.c (.p 0 0))), (14, .e (.c (.int .i64 (IntKind.wrap IntKind.i64 ((↑n : Int) + (1 : Int)))))), (15, .e (.c (.p 1 0))), (88, .e (.c (.int .i64 ((↑n : Int))))), (89, .e (.c (.int .i64 (IntKind.wrap IntKind.i64 ((↑n : Int) + (1 : Int)))))), (92, .e (.a (CallD.cs { op := (2 : Int), path := sF, want := (4 : Int) }))), (93, .e (.a [.int .i64 0, .int .i64 0, .int .i64 0, .str ⟨#[]⟩, .sl (none) 0 0, .int .i64 0, .int .i64 0, .int .i64 0, .int .i64 0, .int .i64 0, .int .i64 0, .int .i64 0, .int .i64 0, .int .i64 0, .int .i64 0, .int .i64 0, .int .i64 0, .int .i64 0, .int .i64 0])), (94, .e (.c (.p 1 0))), (95, .e (.c (.int .i64 2))), (96, .e (.c (.bool false))), (97, .e (.c (.bool false))), (120, .e (.c (.bool true))), (121, .e (.c (.bool true))), (122, .e (.c (.int .i64 file))), (123, .e (.c (.int .i64 (IntKind.wrap IntKind.i64 (file + (1 : Int)))))), (124, .e (.c (.int .i64 opn))), (125, .e (.c (.int .i64 (IntKind.wrap IntKind.i64 (opn + (1 : Int)))))), (126, .e (.c (.p 0 1)))] [⟨35, [.int .i64 0, .int .i64 9, .int .i64 0, .str ⟨#[]⟩, .sl (none) 0 0, .int .i64 0, .int .i64 0, .int .i64 0, .int .i64 0, .int .i64 0, .int .i64 0, .int .i64 0, .int .i64 0, .int .i64 0, .int .i64 0, .int .i64 0, .int .i64 0, .int .i64 0, .int .i64 0]⟩, ⟨39, [.int .i64 2, .str ⟨#[47, 102]⟩, .str ⟨#[]⟩, .str ⟨#[]⟩, .int .i64 0, .int .i64 0, .int .i64 0, .int .i64 0, .int .i64 0, .int .i64 0, .int .i64 4, .bool false, .bool false, .bool false, .bool false, .int .i64 0, .bool false, .bool false, .sl (none) 0 0, .sl (none) 0 0]⟩] [] (by kernel_rfl) (by kernel_rfl)
  have hN3 := (Over.lenv hN2 (by simpa using h.kr0)).rel hc3.mem
  have hu3 := hu2.rel35 h.kr0 (List.mem_singleton.2 rfl) (hc2.mem.cells 0 _ rfl) hc3.mem
  refine gets_loop (k' := catsH3) (by kernel_rfl) ?_
  refine hk w3 a3 (cats_back w0 af nf cf want ku b kr (cO x) { n := 9 } got (file + 1) 0 (opn + 1) (n + 1) w2 w3 a3 _ hN3 hu3 h.kr0 rfl hc3 rfl ⟨by rfl, by rfl, by rfl, by rfl, by rfl, ?_, by rfl, ?_, by rfl, ?_, trivial⟩)
  · show some (Value.int .i64 (IntKind.i64.wrap (file + 1))) = _; rw [wrap_int (by omega) (by omega)]; rfl
  · show some (Value.int .i64 (IntKind.i64.wrap (opn + 1))) = _; rw [wrap_int (by omega) (by omega)]; rfl
  · show some (Value.int .i64 (IntKind.i64.wrap ((n : Int) + 1))) = _; rw [wrap_succ (by omega)]; rfl

theorem cats_read (w0 : World) (ad : Addr) (nf cf : Nat) (files : List (List ByteArray)) (hff : FilesAt w0.heap.size w0 (some ad) nf cf files) (i k : Nat) (l : List ByteArray) (hl : files[i]? = some l) (hi : i < 1000) (hkk : k < 1000)
    (want : ByteArray) (ku b kr : Nat) (m : M) (x : Nat) (r : Res) (got : ByteArray) (opn : Int) (n : Nat) (w : World) (a : Act) (h : K3 w0 (some ad) nf cf want ku b kr m r got (i : Int) (k : Int) opn n w a) (hn : n < 400) (hm : next 10 m r = cR x) (hok : okNext 10 m r)
    (hk : ∀ w' a' (r' : Res) (k' : Nat), (match l[k]? with | some s => r' = { text := s } ∧ k' = k + 1 | none => r' = {} ∧ k' = k) → K3 w0 (some ad) nf cf want ku b kr (cR x) r' got (i : Int) (k' : Int) opn (n + 1) w' a' → Gets Tryz.prog 4 catsH3 a' w' (CatR w0)) : Gets Tryz.prog 4 catsH3 a w (CatR w0) := by
  refine cats_to w0 (some ad) nf cf want ku b kr m _ r got (i : Int) (k : Int) opn n w a h hn hm hok (fun w2 a2 hN2 hu2 hc2 => ?_)
  replace hc2 : CRel (lenv w0.heap.size w2 [kr]) Tryz.f4.ntmps { tl := (92, .e (.a ({ op := 4, fd := 9, n := 256 } : CallD).cs)) :: C3tl (some ad) nf cf want ku got (i : Int) (k : Int) opn n, bs := [⟨35, r.cs none 0 0⟩] } a2 w2 := hc2
  obtain ⟨ad0, a', n', c', e0, h2, h3, h4, h5, h6⟩ := (hff.fresh hN2).at_ i l hl
  cases e0
  have hA : oro w0.heap.size w2 (ad.add ((i : Int).toNat * 1)) = some (.slice a' n' c') := oro_of (by rw [addr_add_block]; exact h3) (by simpa using h2)
  have hil : i < nf := by have := (List.getElem?_eq_some_iff.1 hl).1; have := hff.len; omega
  have hin : 0 ≤ (i : Int) ∧ (i : Int) < (nf : Int) := ⟨by omega, by omega⟩
  have o1 : decide ((i : Int) ≥ 0) = true := by simp
  have o2 : decide ((i : Int) < (nf : Int)) = true := by simp; omega
  cases hlk : l[k]? with
  | some s =>
    obtain ⟨ad', rfl, g2, g3⟩ := h6 k s hlk
    have hkl := (List.getElem?_eq_some_iff.1 hlk).1
    have o3 : decide ((k : Int) < (n' : Int)) = true := by simp; omega
    have hin2 : 0 ≤ (k : Int) ∧ (k : Int) < (n' : Int) := ⟨by omega, by omega⟩
    have hS : oro w0.heap.size w2 (ad'.add ((k : Int).toNat * 1)) = some (.string s) := oro_of (by rw [addr_add_block]; exact g3) (by simpa using g2)
    refine gets_run tab_ok 160 (hc2.feed [false, false, false, true, true, true, true] [.e (.c (.sl (some ad') n' c')), .e (.c (.sl (some ad') n' c')), .e (.c (.str s))]) (holds_of (obs := [fun _ => ((4 : Int) == (20 : Int)) = false, fun _ => ((4 : Int) == (2 : Int)) = false, fun _ => ((4 : Int) == (3 : Int)) = false, fun _ => ((4 : Int) == (4 : Int)) = true, fun _ => decide ((↑i : Int) ≥ (0 : Int)) = true, fun _ => decide ((↑i : Int) < (↑nf : Int)) = true, fun _ => (0 : Int) ≤ (↑i : Int) ∧ (↑i : Int) < (↑nf : Int), fun ε => Env.ro ε (Addr.add ad (Int.toNat (↑i : Int) * (1 : Nat))) = some (C.real (Env.ρ ε) (C.sl (some ad') n' c')), fun _ => decide ((↑k : Int) < (↑n' : Int)) = true, fun _ => (0 : Int) ≤ (↑i : Int) ∧ (↑i : Int) < (↑nf : Int), fun ε => Env.ro ε (Addr.add ad (Int.toNat (↑i : Int) * (1 : Nat))) = some (C.real (Env.ρ ε) (C.sl (some ad') n' c')), fun _ => (0 : Int) ≤ (↑k : Int) ∧ (↑k : Int) < (↑n' : Int), fun ε => Env.ro ε (Addr.add ad' (Int.toNat (↑k : Int) * (1 : Nat))) = some (C.real (Env.ρ ε) (C.str s))]) (by kernel_rfl) ⟨rfl, rfl, rfl, rfl, rfl, o2, hin, (by assumption), o3, hin, (by assumption), hin2, (by assumption), trivial⟩) (fun a3 w3 hc3 => ?_)
    replace hc3 := hc3.pickx [(0, .e (.c (.sl (some ad) nf cf))), (3, .e (.c (.bool true))), (5, .e (.c (.str want))), (8, .e (.c (.rp ⟨ku, 0, none⟩))), (9, .e (.c (.str got))), (10, .e (.c (.int .i64 ((↑i : Int))))), (11, .e (.c (.int .i64 (IntKind.wrap IntKind.i64 ((↑k : Int) + (1 : Int)))))), (12, .e (.c (.int .i64 opn))), (13, .e (.c (.p 0 0))), (14, .e (.c (.int .i64 (IntKind.wrap IntKind.i64 ((↑n : Int) + (1 : Int)))))), (15, .e (.c (.p 1 0))), (88, .e (.c (.int .i64 ((↑n : Int))))), (89, .e (.c (.int .i64 (IntKind.wrap IntKind.i64 ((↑n : Int) + (1 : Int)))))), (92, .e (.a (CallD.cs { op := (4 : Int), fd := (9 : Int), n := (256 : Int) }))), (93, .e (.a [.int .i64 0, .int .i64 0, .int .i64 0, .str ⟨#[]⟩, .sl (none) 0 0, .int .i64 0, .int .i64 0, .int .i64 0, .int .i64 0, .int .i64 0, .int .i64 0, .int .i64 0, .int .i64 0, .int .i64 0, .int .i64 0, .int .i64 0, .int .i64 0, .int .i64 0, .int .i64 0])), (94, .e (.c (.p 1 0))), (95, .e (.c (.int .i64 4))), (96, .e (.c (.bool false))), (97, .e (.c (.bool false))), (120, .e (.c (.bool false))), (121, .e (.c (.bool false))), (127, .e (.c (.bool false))), (128, .e (.c (.bool false))), (131, .e (.c (.bool true))), (132, .e (.c (.bool true))), (133, .e (.c (.int .i64 ((↑i : Int))))), (134, .e (.c (.bool true))), (135, .e (.c (.bool true))), (136, .e (.c (.int .i64 ((↑i : Int))))), (137, .e (.c (.sl (some ad) nf cf))), (138, .e (.c (.int .i64 ((↑nf : Int))))), (139, .e (.c (.bool true))), (140, .e (.c (.bool true))), (141, .e (.c (.bool true))), (142, .e (.c (.int .i64 ((↑k : Int))))), (143, .e (.c (.sl (some ad) nf cf))), (144, .e (.c (.int .i64 ((↑i : Int))))), (145, .e (.c (.rp (Addr.add ad (Int.toNat (↑i : Int) * (1 : Nat)))))), (146, .e (.c (.sl (some ad') n' c'))), (147, .e (.c (.int .i64 ((↑n' : Int))))), (148, .e (.c (.bool true))), (149, .e (.c (.bool true))), (150, .e (.c (.sl (some ad) nf cf))), (151, .e (.c (.int .i64 ((↑i : Int))))), (152, .e (.c (.rp (Addr.add ad (Int.toNat (↑i : Int) * (1 : Nat)))))), (153, .e (.c (.sl (some ad') n' c'))), (154, .e (.c (.int .i64 ((↑k : Int))))), (155, .e (.c (.rp (Addr.add ad' (Int.toNat (↑k : Int) * (1 : Nat)))))), (156, .e (.c (.str s))), (157, .e (.c (.p 0 3))), (158, .e (.c (.int .i64 ((↑k : Int))))), (159, .e (.c (.int .i64 (IntKind.wrap IntKind.i64 ((↑k : Int) + (1 : Int))))))] [⟨35, [.int .i64 0, .int .i64 0, .int .i64 0, .str s, .sl (none) 0 0, .int .i64 0, .int .i64 0, .int .i64 0, .int .i64 0, .int .i64 0, .int .i64 0, .int .i64 0, .int .i64 0, .int .i64 0, .int .i64 0, .int .i64 0, .int .i64 0, .int .i64 0, .int .i64 0]⟩, ⟨39, [.int .i64 4, .str ⟨#[]⟩, .str ⟨#[]⟩, .str ⟨#[]⟩, .int .i64 9, .int .i64 0, .int .i64 256, .int .i64 0, .int .i64 0, .int .i64 0, .int .i64 0, .bool false, .bool false, .bool false, .bool false, .int .i64 0, .bool false, .bool false, .sl (none) 0 0, .sl (none) 0 0]⟩] [] (by kernel_rfl) (by kernel_rfl)
    have hN3 := (Over.lenv hN2 (by simpa using h.kr0)).rel hc3.mem
    have hu3 := hu2.rel35 h.kr0 (List.mem_singleton.2 rfl) (hc2.mem.cells 0 _ rfl) hc3.mem
    refine gets_loop (k' := catsH3) (by kernel_rfl) ?_
    refine hk w3 a3 { text := s } (k + 1) (by rw [hlk]; exact ⟨rfl, rfl⟩) (cats_back w0 (some ad) nf cf want ku b kr (cR x) { text := s } got (i : Int) ((k + 1 : Nat) : Int) opn (n + 1) w2 w3 a3 _ hN3 hu3 h.kr0 rfl hc3 rfl ⟨by rfl, by rfl, by rfl, by rfl, by rfl, by rfl, ?_, by rfl, by rfl, ?_, trivial⟩)
    · show some (Value.int .i64 (IntKind.i64.wrap ((k : Int) + 1))) = _; rw [wrap_succ (by omega)]; rfl
    · show some (Value.int .i64 (IntKind.i64.wrap ((n : Int) + 1))) = _; rw [wrap_succ (by omega)]; rfl
  | none =>
    have hkl : l.length ≤ k := List.getElem?_eq_none_iff.1 hlk
    have o3 : decide ((k : Int) < (n' : Int)) = false := by simp; omega
    refine gets_run tab_ok 160 (hc2.feed [false, false, false, true, true, true, false] [.e (.c (.sl a' n' c'))]) (holds_of (obs := [fun _ => ((4 : Int) == (20 : Int)) = false, fun _ => ((4 : Int) == (2 : Int)) = false, fun _ => ((4 : Int) == (3 : Int)) = false, fun _ => ((4 : Int) == (4 : Int)) = true, fun _ => decide ((↑i : Int) ≥ (0 : Int)) = true, fun _ => decide ((↑i : Int) < (↑nf : Int)) = true, fun _ => (0 : Int) ≤ (↑i : Int) ∧ (↑i : Int) < (↑nf : Int), fun ε => Env.ro ε (Addr.add ad (Int.toNat (↑i : Int) * (1 : Nat))) = some (C.real (Env.ρ ε) (C.sl a' n' c')), fun _ => decide ((↑k : Int) < (↑n' : Int)) = false]) (by kernel_rfl) ⟨rfl, rfl, rfl, rfl, rfl, o2, hin, (by assumption), o3, trivial⟩) (fun a3 w3 hc3 => ?_)
    replace hc3 := hc3.pickx [(0, .e (.c (.sl (some ad) nf cf))), (3, .e (.c (.bool true))), (5, .e (.c (.str want))), (8, .e (.c (.rp ⟨ku, 0, none⟩))), (9, .e (.c (.str got))), (10, .e (.c (.int .i64 ((↑i : Int))))), (11, .e (.c (.int .i64 ((↑k : Int))))), (12, .e (.c (.int .i64 opn))), (13, .e (.c (.p 0 0))), (14, .e (.c (.int .i64 (IntKind.wrap IntKind.i64 ((↑n : Int) + (1 : Int)))))), (15, .e (.c (.p 1 0))), (88, .e (.c (.int .i64 ((↑n : Int))))), (89, .e (.c (.int .i64 (IntKind.wrap IntKind.i64 ((↑n : Int) + (1 : Int)))))), (92, .e (.a (CallD.cs { op := (4 : Int), fd := (9 : Int), n := (256 : Int) }))), (93, .e (.a [.int .i64 0, .int .i64 0, .int .i64 0, .str ⟨#[]⟩, .sl (none) 0 0, .int .i64 0, .int .i64 0, .int .i64 0, .int .i64 0, .int .i64 0, .int .i64 0, .int .i64 0, .int .i64 0, .int .i64 0, .int .i64 0, .int .i64 0, .int .i64 0, .int .i64 0, .int .i64 0])), (94, .e (.c (.p 1 0))), (95, .e (.c (.int .i64 4))), (96, .e (.c (.bool false))), (97, .e (.c (.bool false))), (120, .e (.c (.bool false))), (121, .e (.c (.bool false))), (127, .e (.c (.bool false))), (128, .e (.c (.bool false))), (131, .e (.c (.bool true))), (132, .e (.c (.bool true))), (133, .e (.c (.int .i64 ((↑i : Int))))), (134, .e (.c (.bool true))), (135, .e (.c (.bool true))), (136, .e (.c (.int .i64 ((↑i : Int))))), (137, .e (.c (.sl (some ad) nf cf))), (138, .e (.c (.int .i64 ((↑nf : Int))))), (139, .e (.c (.bool true))), (140, .e (.c (.bool true))), (141, .e (.c (.bool true))), (142, .e (.c (.int .i64 ((↑k : Int))))), (143, .e (.c (.sl (some ad) nf cf))), (144, .e (.c (.int .i64 ((↑i : Int))))), (145, .e (.c (.rp (Addr.add ad (Int.toNat (↑i : Int) * (1 : Nat)))))), (146, .e (.c (.sl a' n' c'))), (147, .e (.c (.int .i64 ((↑n' : Int))))), (148, .e (.c (.bool false))), (149, .e (.c (.bool false)))] [⟨35, [.int .i64 0, .int .i64 0, .int .i64 0, .str ⟨#[]⟩, .sl (none) 0 0, .int .i64 0, .int .i64 0, .int .i64 0, .int .i64 0, .int .i64 0, .int .i64 0, .int .i64 0, .int .i64 0, .int .i64 0, .int .i64 0, .int .i64 0, .int .i64 0, .int .i64 0, .int .i64 0]⟩, ⟨39, [.int .i64 4, .str ⟨#[]⟩, .str ⟨#[]⟩, .str ⟨#[]⟩, .int .i64 9, .int .i64 0, .int .i64 256, .int .i64 0, .int .i64 0, .int .i64 0, .int .i64 0, .bool false, .bool false, .bool false, .bool false, .int .i64 0, .bool false, .bool false, .sl (none) 0 0, .sl (none) 0 0]⟩] [] (by kernel_rfl) (by kernel_rfl)
    have hN3 := (Over.lenv hN2 (by simpa using h.kr0)).rel hc3.mem
    have hu3 := hu2.rel35 h.kr0 (List.mem_singleton.2 rfl) (hc2.mem.cells 0 _ rfl) hc3.mem
    refine gets_loop (k' := catsH3) (by kernel_rfl) ?_
    refine hk w3 a3 {} k (by rw [hlk]; exact ⟨rfl, rfl⟩) (cats_back w0 (some ad) nf cf want ku b kr (cR x) {} got (i : Int) (k : Int) opn (n + 1) w2 w3 a3 _ hN3 hu3 h.kr0 rfl hc3 rfl ⟨by rfl, by rfl, by rfl, by rfl, by rfl, by rfl, by rfl, by rfl, by rfl, ?_, trivial⟩)
    show some (Value.int .i64 (IntKind.i64.wrap ((n : Int) + 1))) = _; rw [wrap_succ (by omega)]; rfl

theorem cats_close (w0 : World) (af : Option Addr) (nf cf : Nat) (want : ByteArray) (ku b kr : Nat) (m : M) (x : Nat) (r : Res) (got : ByteArray) (file piece opn : Int) (n : Nat) (w : World) (a : Act) (h : K3 w0 af nf cf want ku b kr m r got file piece opn n w a) (hn : n < 400) (hm : next 10 m r = cC x) (hok : okNext 10 m r)
    (ho : -1 ≤ opn ∧ opn ≤ 1000) (hk : ∀ w' a', K3 w0 af nf cf want ku b kr (cC x) {} got file piece (opn - 1) (n + 1) w' a' → Gets Tryz.prog 4 catsH3 a' w' (CatR w0)) : Gets Tryz.prog 4 catsH3 a w (CatR w0) := by
  refine cats_to w0 af nf cf want ku b kr m _ r got file piece opn n w a h hn hm hok (fun w2 a2 hN2 hu2 hc2 => ?_)
  replace hc2 : CRel (lenv w0.heap.size w2 [kr]) Tryz.f4.ntmps { tl := (92, .e (.a ({ op := 3, fd := 9 } : CallD).cs)) :: C3tl af nf cf want ku got file piece opn n, bs := [⟨35, r.cs none 0 0⟩] } a2 w2 := hc2
  refine gets_run tab_ok 120 (hc2.feed [false, false, true] []) (holds_of (obs := [fun _ => ((3 : Int) == (20 : Int)) = false, fun _ => ((3 : Int) == (2 : Int)) = false, fun _ => ((3 : Int) == (3 : Int)) = true]) (by kernel_rfl) ⟨rfl, rfl, rfl, trivial⟩) (fun a3 w3 hc3 => ?_)
  replace hc3 := hc3.pickx [(0, .e (.c (.sl af nf cf))), (3, .e (.c (.bool true))), (5, .e (.c (.str want))), (8, .e (.c (.rp ⟨ku, 0, none⟩))), (9, .e (.c (.str got))), (10, .e (.c (.int .i64 file))), (11, .e (.c (.int .i64 piece))), (12, .e (.c (.int .i64 (IntKind.wrap IntKind.i64 (opn - (1 : Int)))))), (13, .e (.c (.p 0 0))), (14, .e (.c (.int .i64 (IntKind.wrap IntKind.i64 ((↑n : Int) + (1 : Int)))))), (15, .e (.c (.p 1 0))), (88, .e (.c (.int .i64 ((↑n : Int))))), (89, .e (.c (.int .i64 (IntKind.wrap IntKind.i64 ((↑n : Int) + (1 : Int)))))), (92, .e (.a (CallD.cs { op := (3 : Int), fd := (9 : Int) }))), (93, .e (.a [.int .i64 0, .int .i64 0, .int .i64 0, .str ⟨#[]⟩, .sl (none) 0 0, .int .i64 0, .int .i64 0, .int .i64 0, .int .i64 0, .int .i64 0, .int .i64 0, .int .i64 0, .int .i64 0, .int .i64 0, .int .i64 0, .int .i64 0, .int .i64 0, .int .i64 0, .int .i64 0])), (94, .e (.c (.p 1 0))), (95, .e (.c (.int .i64 3))), (96, .e (.c (.bool false))), (97, .e (.c (.bool false))), (120, .e (.c (.bool false))), (121, .e (.c (.bool false))), (127, .e (.c (.bool true))), (128, .e (.c (.bool true))), (129, .e (.c (.int .i64 opn))), (130, .e (.c (.int .i64 (IntKind.wrap IntKind.i64 (opn - (1 : Int))))))] [⟨35, [.int .i64 0, .int .i64 0, .int .i64 0, .str ⟨#[]⟩, .sl (none) 0 0, .int .i64 0, .int .i64 0, .int .i64 0, .int .i64 0, .int .i64 0, .int .i64 0, .int .i64 0, .int .i64 0, .int .i64 0, .int .i64 0, .int .i64 0, .int .i64 0, .int .i64 0, .int .i64 0]⟩, ⟨39, [.int .i64 3, .str ⟨#[]⟩, .str ⟨#[]⟩, .str ⟨#[]⟩, .int .i64 9, .int .i64 0, .int .i64 0, .int .i64 0, .int .i64 0, .int .i64 0, .int .i64 0, .bool false, .bool false, .bool false, .bool false, .int .i64 0, .bool false, .bool false, .sl (none) 0 0, .sl (none) 0 0]⟩] [] (by kernel_rfl) (by kernel_rfl)
  have hN3 := (Over.lenv hN2 (by simpa using h.kr0)).rel hc3.mem
  have hu3 := hu2.rel35 h.kr0 (List.mem_singleton.2 rfl) (hc2.mem.cells 0 _ rfl) hc3.mem
  refine gets_loop (k' := catsH3) (by kernel_rfl) ?_
  refine hk w3 a3 (cats_back w0 af nf cf want ku b kr (cC x) {} got file piece (opn - 1) (n + 1) w2 w3 a3 _ hN3 hu3 h.kr0 rfl hc3 rfl ⟨by rfl, by rfl, by rfl, by rfl, by rfl, by rfl, by rfl, ?_, by rfl, ?_, trivial⟩)
  · show some (Value.int .i64 (IntKind.i64.wrap (opn - 1))) = _; rw [wrap_int (by omega) (by omega)]; rfl
  · show some (Value.int .i64 (IntKind.i64.wrap ((n : Int) + 1))) = _; rw [wrap_succ (by omega)]; rfl

/-- How many bytes are taken. -/
def some1 (t : ByteArray) : Int := if (t.size : Int).tdiv 2 > 1 then (t.size : Int).tdiv 2 else 1

theorem cats_write (w0 : World) (af : Option Addr) (nf cf : Nat) (want : ByteArray) (ku b kr : Nat) (m : M) (x : Nat) (t : ByteArray) (r : Res) (got : ByteArray) (file piece opn : Int) (n : Nat) (w : World) (a : Act) (h : K3 w0 af nf cf want ku b kr m r got file piece opn n w a) (hn : n < 400) (hm : next 10 m r = cW x t) (hok : okNext 10 m r)
    (ht : t.size ≤ 256) (ht1 : 1 ≤ t.size) (hg : got.size ≤ 1000000) (hk : ∀ w' a', K3 w0 af nf cf want ku b kr (cW x t) { n := some1 t } (got ++ t.extract 0 (some1 t).toNat) file piece opn (n + 1) w' a' → Gets Tryz.prog 4 catsH3 a' w' (CatR w0)) : Gets Tryz.prog 4 catsH3 a w (CatR w0) := by
  refine cats_to w0 af nf cf want ku b kr m _ r got file piece opn n w a h hn hm hok (fun w2 a2 hN2 hu2 hc2 => ?_)
  replace hc2 : CRel (lenv w0.heap.size w2 [kr]) Tryz.f4.ntmps { tl := (92, .e (.a ({ op := 5, fd := 1, text := t } : CallD).cs)) :: C3tl af nf cf want ku got file piece opn n, bs := [⟨35, r.cs none 0 0⟩] } a2 w2 := hc2
  have hq : IntKind.i64.wrap ((t.size : Int).tdiv 2) = (t.size : Int).tdiv 2 := wrap_int (by rw [Int.tdiv_eq_ediv_of_nonneg (by omega)]; omega) (by rw [Int.tdiv_eq_ediv_of_nonneg (by omega)]; omega)
  have hb : 1 ≤ some1 t ∧ some1 t ≤ t.size := by
    unfold some1
    rw [Int.tdiv_eq_ediv_of_nonneg (by omega)]
    split <;> omega
  have hM : (if (if (t.size : Int).tdiv 2 > 1 then (t.size : Int).tdiv 2 else 1) < (t.size : Int) then (if (t.size : Int).tdiv 2 > 1 then (t.size : Int).tdiv 2 else 1) else (t.size : Int)) = some1 t := by
    show (if some1 t < _ then some1 t else _) = _
    split <;> omega
  have hex : (t.extract 0 (some1 t).toNat).size ≤ 256 := by rw [ByteArray.size_extract]; omega
  refine gets_run tab_ok 160 (hc2.feed [false, false, false, false, true, false] []) (holds_of (obs := [fun _ => ((5 : Int) == (20 : Int)) = false, fun _ => ((5 : Int) == (2 : Int)) = false, fun _ => ((5 : Int) == (3 : Int)) = false, fun _ => ((5 : Int) == (4 : Int)) = false, fun _ => ((5 : Int) == (5 : Int)) = true, fun _ => ((1 : Int) != (1 : Int)) = false, fun _ => (2 : Int) ≠ (0 : Int), fun _ => okLo (some (if (if IntKind.wrap IntKind.i64 (Int.tdiv (↑(ByteArray.size t) : Int) (2 : Int)) > (1 : Int) then IntKind.wrap IntKind.i64 (Int.tdiv (↑(ByteArray.size t) : Int) (2 : Int)) else (1 : Int)) < (↑(ByteArray.size t) : Int) then if IntKind.wrap IntKind.i64 (Int.tdiv (↑(ByteArray.size t) : Int) (2 : Int)) > (1 : Int) then IntKind.wrap IntKind.i64 (Int.tdiv (↑(ByteArray.size t) : Int) (2 : Int)) else (1 : Int) else (↑(ByteArray.size t) : Int))) (ByteArray.size t) ∧ okLo none (hiOf (some (if (if IntKind.wrap IntKind.i64 (Int.tdiv (↑(ByteArray.size t) : Int) (2 : Int)) > (1 : Int) then IntKind.wrap IntKind.i64 (Int.tdiv (↑(ByteArray.size t) : Int) (2 : Int)) else (1 : Int)) < (↑(ByteArray.size t) : Int) then if IntKind.wrap IntKind.i64 (Int.tdiv (↑(ByteArray.size t) : Int) (2 : Int)) > (1 : Int) then IntKind.wrap IntKind.i64 (Int.tdiv (↑(ByteArray.size t) : Int) (2 : Int)) else (1 : Int) else (↑(ByteArray.size t) : Int))) (ByteArray.size t)), fun _ => (↑(ByteArray.size got + ByteArray.size (ByteArray.extract t (loOf none) (hiOf (some (if (if IntKind.wrap IntKind.i64 (Int.tdiv (↑(ByteArray.size t) : Int) (2 : Int)) > (1 : Int) then IntKind.wrap IntKind.i64 (Int.tdiv (↑(ByteArray.size t) : Int) (2 : Int)) else (1 : Int)) < (↑(ByteArray.size t) : Int) then if IntKind.wrap IntKind.i64 (Int.tdiv (↑(ByteArray.size t) : Int) (2 : Int)) > (1 : Int) then IntKind.wrap IntKind.i64 (Int.tdiv (↑(ByteArray.size t) : Int) (2 : Int)) else (1 : Int) else (↑(ByteArray.size t) : Int))) (ByteArray.size t)))) : Int) ≤ (9223372036854775807 : Int)]) (by kernel_rfl) ⟨rfl, rfl, rfl, rfl, rfl, rfl, (by simp), (by simp only [hq, hM, okLo, hiOf]; exact ⟨⟨by omega, by omega⟩, trivial⟩), (by simp only [hq, hM, loOf, hiOf, Option.getD_none]; simp only [Int.toNat_zero]; omega), trivial⟩) (fun a3 w3 hc3 => ?_)
  replace hc3 := hc3.pickx [(0, .e (.c (.sl af nf cf))), (3, .e (.c (.bool true))), (5, .e (.c (.str want))), (8, .e (.c (.rp ⟨ku, 0, none⟩))), (9, .e (.c (.str (got ++ ByteArray.extract t (loOf none) (hiOf (some (if (if IntKind.wrap IntKind.i64 (Int.tdiv (↑(ByteArray.size t) : Int) (2 : Int)) > (1 : Int) then IntKind.wrap IntKind.i64 (Int.tdiv (↑(ByteArray.size t) : Int) (2 : Int)) else (1 : Int)) < (↑(ByteArray.size t) : Int) then if IntKind.wrap IntKind.i64 (Int.tdiv (↑(ByteArray.size t) : Int) (2 : Int)) > (1 : Int) then IntKind.wrap IntKind.i64 (Int.tdiv (↑(ByteArray.size t) : Int) (2 : Int)) else (1 : Int) else (↑(ByteArray.size t) : Int))) (ByteArray.size t)))))), (10, .e (.c (.int .i64 file))), (11, .e (.c (.int .i64 piece))), (12, .e (.c (.int .i64 opn))), (13, .e (.c (.p 0 0))), (14, .e (.c (.int .i64 (IntKind.wrap IntKind.i64 ((↑n : Int) + (1 : Int)))))), (15, .e (.c (.p 1 0))), (88, .e (.c (.int .i64 ((↑n : Int))))), (89, .e (.c (.int .i64 (IntKind.wrap IntKind.i64 ((↑n : Int) + (1 : Int)))))), (92, .e (.a (CallD.cs { op := (5 : Int), text := t, fd := (1 : Int) }))), (93, .e (.a [.int .i64 0, .int .i64 0, .int .i64 0, .str ⟨#[]⟩, .sl (none) 0 0, .int .i64 0, .int .i64 0, .int .i64 0, .int .i64 0, .int .i64 0, .int .i64 0, .int .i64 0, .int .i64 0, .int .i64 0, .int .i64 0, .int .i64 0, .int .i64 0, .int .i64 0, .int .i64 0])), (94, .e (.c (.p 1 0))), (95, .e (.c (.int .i64 ((5 : Int))))), (96, .e (.c (.bool false))), (97, .e (.c (.bool false))), (120, .e (.c (.bool false))), (121, .e (.c (.bool false))), (127, .e (.c (.bool false))), (128, .e (.c (.bool false))), (131, .e (.c (.bool false))), (132, .e (.c (.bool false))), (160, .e (.c (.bool true))), (161, .e (.c (.bool true))), (162, .e (.c (.p 1 4))), (163, .e (.c (.int .i64 ((1 : Int))))), (164, .e (.c (.bool false))), (165, .e (.c (.p 1 3))), (166, .e (.c (.str t))), (167, .e (.c (.int .i64 ((↑(ByteArray.size t) : Int))))), (168, .e (.c (.int .i64 (IntKind.wrap IntKind.i64 (Int.tdiv (↑(ByteArray.size t) : Int) (2 : Int)))))), (169, .e (.c (.int .i64 (if IntKind.wrap IntKind.i64 (Int.tdiv (↑(ByteArray.size t) : Int) (2 : Int)) > (1 : Int) then IntKind.wrap IntKind.i64 (Int.tdiv (↑(ByteArray.size t) : Int) (2 : Int)) else (1 : Int))))), (170, .e (.c (.p 0 1))), (171, .e (.c (.str got))), (172, .e (.c (.p 1 3))), (173, .e (.c (.str t))), (174, .e (.c (.p 1 3))), (175, .e (.c (.str t))), (176, .e (.c (.int .i64 ((↑(ByteArray.size t) : Int))))), (177, .e (.c (.p 0 1))), (178, .e (.c (.int .i64 (if IntKind.wrap IntKind.i64 (Int.tdiv (↑(ByteArray.size t) : Int) (2 : Int)) > (1 : Int) then IntKind.wrap IntKind.i64 (Int.tdiv (↑(ByteArray.size t) : Int) (2 : Int)) else (1 : Int))))), (179, .e (.c (.int .i64 (if (if IntKind.wrap IntKind.i64 (Int.tdiv (↑(ByteArray.size t) : Int) (2 : Int)) > (1 : Int) then IntKind.wrap IntKind.i64 (Int.tdiv (↑(ByteArray.size t) : Int) (2 : Int)) else (1 : Int)) < (↑(ByteArray.size t) : Int) then if IntKind.wrap IntKind.i64 (Int.tdiv (↑(ByteArray.size t) : Int) (2 : Int)) > (1 : Int) then IntKind.wrap IntKind.i64 (Int.tdiv (↑(ByteArray.size t) : Int) (2 : Int)) else (1 : Int) else (↑(ByteArray.size t) : Int))))), (180, .e (.c (.str (ByteArray.extract t (loOf none) (hiOf (some (if (if IntKind.wrap IntKind.i64 (Int.tdiv (↑(ByteArray.size t) : Int) (2 : Int)) > (1 : Int) then IntKind.wrap IntKind.i64 (Int.tdiv (↑(ByteArray.size t) : Int) (2 : Int)) else (1 : Int)) < (↑(ByteArray.size t) : Int) then if IntKind.wrap IntKind.i64 (Int.tdiv (↑(ByteArray.size t) : Int) (2 : Int)) > (1 : Int) then IntKind.wrap IntKind.i64 (Int.tdiv (↑(ByteArray.size t) : Int) (2 : Int)) else (1 : Int) else (↑(ByteArray.size t) : Int))) (ByteArray.size t)))))), (181, .e (.c (.str (got ++ ByteArray.extract t (loOf none) (hiOf (some (if (if IntKind.wrap IntKind.i64 (Int.tdiv (↑(ByteArray.size t) : Int) (2 : Int)) > (1 : Int) then IntKind.wrap IntKind.i64 (Int.tdiv (↑(ByteArray.size t) : Int) (2 : Int)) else (1 : Int)) < (↑(ByteArray.size t) : Int) then if IntKind.wrap IntKind.i64 (Int.tdiv (↑(ByteArray.size t) : Int) (2 : Int)) > (1 : Int) then IntKind.wrap IntKind.i64 (Int.tdiv (↑(ByteArray.size t) : Int) (2 : Int)) else (1 : Int) else (↑(ByteArray.size t) : Int))) (ByteArray.size t))))))] [⟨35, [.int .i64 0, .int .i64 (if IntKind.wrap IntKind.i64 (Int.tdiv (↑(ByteArray.size t) : Int) (2 : Int)) > (1 : Int) then IntKind.wrap IntKind.i64 (Int.tdiv (↑(ByteArray.size t) : Int) (2 : Int)) else (1 : Int)), .int .i64 0, .str ⟨#[]⟩, .sl (none) 0 0, .int .i64 0, .int .i64 0, .int .i64 0, .int .i64 0, .int .i64 0, .int .i64 0, .int .i64 0, .int .i64 0, .int .i64 0, .int .i64 0, .int .i64 0, .int .i64 0, .int .i64 0, .int .i64 0]⟩, ⟨39, [.int .i64 ((5 : Int)), .str ({ data := #[] }), .str ({ data := #[] }), .str t, .int .i64 ((1 : Int)), .int .i64 ((0 : Int)), .int .i64 ((0 : Int)), .int .i64 ((0 : Int)), .int .i64 ((0 : Int)), .int .i64 ((0 : Int)), .int .i64 ((0 : Int)), .bool false, .bool false, .bool false, .bool false, .int .i64 ((0 : Int)), .bool false, .bool false, .sl (none) 0 0, .sl (none) 0 0]⟩] [] (by kernel_rfl) (by kernel_rfl)
  have hN3 := (Over.lenv hN2 (by simpa using h.kr0)).rel hc3.mem
  have hu3 := hu2.rel35 h.kr0 (List.mem_singleton.2 rfl) (hc2.mem.cells 0 _ rfl) hc3.mem
  refine gets_loop (k' := catsH3) (by kernel_rfl) ?_
  simp only [hq, hM, loOf, hiOf, Option.getD_none, Int.toNat_zero] at hc3
  refine hk w3 a3 (cats_back w0 af nf cf want ku b kr (cW x t) { n := some1 t } (got ++ t.extract 0 (some1 t).toNat) file piece opn (n + 1) w2 w3 a3 _ hN3 hu3 h.kr0 rfl hc3 rfl ⟨by rfl, by rfl, by rfl, by rfl, by rfl, by rfl, by rfl, by rfl, by rfl, ?_, trivial⟩)
  show some (Value.int .i64 (IntKind.i64.wrap ((n : Int) + 1))) = _; rw [wrap_succ (by omega)]; rfl

theorem cats_exit (w0 : World) (af : Option Addr) (nf cf : Nat) (want : ByteArray) (ku b kr : Nat) (m : M) (r : Res) (got : ByteArray) (file piece opn : Int) (n : Nat) (w : World) (a : Act) (h : K3 w0 af nf cf want ku b kr m r got file piece opn n w a) (hn : n < 400) (hm : next 10 m r = cX) (hok : okNext 10 m r)
    (hg : got = want) (ho : opn = 0) (hf : file = (nf : Int) - 1) (hnf : nf ≤ 1000) : Gets Tryz.prog 4 catsH3 a w (CatR w0) := by
  refine cats_to w0 af nf cf want ku b kr m _ r got file piece opn n w a h hn hm hok (fun w2 a2 hN2 hu2 hc2 => ?_)
  replace hc2 : CRel (lenv w0.heap.size w2 [kr]) Tryz.f4.ntmps { tl := (92, .e (.a ({ op := 20, n := 0 } : CallD).cs)) :: C3tl af nf cf want ku got file piece opn n, bs := [⟨35, r.cs none 0 0⟩] } a2 w2 := hc2
  have hw : IntKind.i64.wrap ((nf : Int) - 1) = (nf : Int) - 1 := wrap_int (by omega) (by omega)
  have o1 : (got.toList == want.toList) = true := by rw [hg]; simp
  have o2 : (file == IntKind.i64.wrap ((nf : Int) - 1)) = true := by rw [hw, hf]; simp
  have o3 : (opn == (0 : Int)) = true := by rw [ho]; rfl
  refine gets_run tab_ok 160 (hc2.feed [true, true, true, true, true] []) (holds_of (obs := [fun _ => ((20 : Int) == (20 : Int)) = true, fun _ => (ByteArray.toList got == ByteArray.toList want) = true, fun _ => (opn == (0 : Int)) = true, fun _ => ((0 : Int) == (0 : Int)) = true, fun _ => (file == IntKind.wrap IntKind.i64 ((↑nf : Int) - (1 : Int))) = true]) (by kernel_rfl) ⟨rfl, o1, o3, rfl, o2, trivial⟩) (fun a3 w3 hc3 => ?_)
  replace hc3 := hc3.pickx [(0, .e (.c (.sl af nf cf))), (2, .e (.c (.bool true))), (3, .e (.c (.bool true))), (5, .e (.c (.str want))), (8, .e (.c (.rp ⟨ku, 0, none⟩))), (9, .e (.c (.str got))), (10, .e (.c (.int .i64 file))), (11, .e (.c (.int .i64 piece))), (12, .e (.c (.int .i64 opn))), (13, .e (.c (.p 0 0))), (14, .e (.c (.int .i64 ((↑n : Int))))), (15, .e (.c (.p 1 0))), (92, .e (.a (CallD.cs { op := (20 : Int) }))), (93, .e (.a [.int .i64 0, .int .i64 0, .int .i64 0, .str ⟨#[]⟩, .sl (none) 0 0, .int .i64 0, .int .i64 0, .int .i64 0, .int .i64 0, .int .i64 0, .int .i64 0, .int .i64 0, .int .i64 0, .int .i64 0, .int .i64 0, .int .i64 0, .int .i64 0, .int .i64 0, .int .i64 0])), (94, .e (.c (.p 1 0))), (95, .e (.c (.int .i64 20))), (96, .e (.c (.bool true))), (97, .e (.c (.bool true))), (98, .e (.c (.bool true))), (99, .e (.c (.bool true))), (100, .e (.c (.str got))), (101, .e (.c (.str want))), (102, .e (.c (.bool true))), (103, .e (.c (.bool true))), (104, .e (.c (.bool true))), (105, .e (.c (.int .i64 opn))), (106, .e (.c (.bool true))), (107, .e (.c (.bool true))), (108, .e (.c (.bool true))), (109, .e (.c (.p 1 6))), (110, .e (.c (.int .i64 0))), (111, .e (.c (.bool true))), (112, .e (.c (.bool true))), (113, .e (.c (.bool true))), (114, .e (.c (.int .i64 file))), (115, .e (.c (.sl af nf cf))), (116, .e (.c (.int .i64 ((↑nf : Int))))), (117, .e (.c (.int .i64 (IntKind.wrap IntKind.i64 ((↑nf : Int) - (1 : Int)))))), (118, .e (.c (.bool true))), (119, .e (.c (.bool true)))] [⟨35, [.int .i64 0, .int .i64 0, .int .i64 0, .str ⟨#[]⟩, .sl (none) 0 0, .int .i64 0, .int .i64 0, .int .i64 0, .int .i64 0, .int .i64 0, .int .i64 0, .int .i64 0, .int .i64 0, .int .i64 0, .int .i64 0, .int .i64 0, .int .i64 0, .int .i64 0, .int .i64 0]⟩, ⟨39, [.int .i64 20, .str ⟨#[]⟩, .str ⟨#[]⟩, .str ⟨#[]⟩, .int .i64 0, .int .i64 0, .int .i64 0, .int .i64 0, .int .i64 0, .int .i64 0, .int .i64 0, .bool false, .bool false, .bool false, .bool false, .int .i64 0, .bool false, .bool false, .sl (none) 0 0, .sl (none) 0 0]⟩] [] (by kernel_rfl) (by kernel_rfl)
  exact gets_fin tab_ok (l := [.c (.bool true)]) hc3 Tryz.func4 (by kernel_rfl) (by kernel_rfl) ⟨rfl, (Over.lenv hN2 (by simpa using h.kr0)).rel hc3.mem, trivial⟩

end Go.Proofs.YtoihipolfdhhnaaGreatDoor

namespace Go.Proofs.YtoihipolfdhhnaaGreatDoor

abbrev e0 : ByteArray := ⟨#[]⟩

inductive Ph (files : List (List ByteArray)) : M → Res → ByteArray → Int → Int → Int → Prop where
  | start : Ph files (cS files.length) {} e0 (-1) 0 0
  | opn (pre : List (List ByteArray)) (l : List ByteArray) (post : List (List ByteArray)) : files = pre ++ l :: post → Ph files (cO (post.length + 1)) { n := 9 } (addFiles e0 pre) (pre.length : Nat) ((0 : Nat) : Int) 1
  | rd (pre : List (List ByteArray)) (l : List ByteArray) (post : List (List ByteArray)) (p : List ByteArray) (s : ByteArray) (q : List ByteArray) : files = pre ++ l :: post → l = p ++ s :: q → Ph files (cR (post.length + 1)) { text := s } (addAll (addFiles e0 pre) p) (pre.length : Nat) ((p.length + 1 : Nat) : Int) 1
  | fin (pre : List (List ByteArray)) (l : List ByteArray) (post : List (List ByteArray)) : files = pre ++ l :: post → Ph files (cR (post.length + 1)) {} (addAll (addFiles e0 pre) l) (pre.length : Nat) ((l.length : Nat) : Int) 1
  | wr (pre : List (List ByteArray)) (l : List ByteArray) (post : List (List ByteArray)) (p : List ByteArray) (s : ByteArray) (q : List ByteArray) (t got : ByteArray) : files = pre ++ l :: post → l = p ++ s :: q → 1 ≤ t.size → t.size ≤ 256 → got ++ rest t (some1 t) = addAll (addFiles e0 pre) (p ++ [s]) →
      Ph files (cW (post.length + 1) t) { n := some1 t } got (pre.length : Nat) ((p.length + 1 : Nat) : Int) 1
  | cl (pre : List (List ByteArray)) (l : List ByteArray) (post : List (List ByteArray)) (piece : Int) : files = pre ++ l :: post → Ph files (cC (post.length + 1)) {} (addFiles e0 (pre ++ [l])) (pre.length : Nat) piece 0

theorem addFiles_size : ∀ (fs : List (List ByteArray)) (s : ByteArray), (∀ l ∈ fs, GoodF l) → (addFiles s fs).size ≤ s.size + 2560 * fs.length
  | [], s, _ => by simp [addFiles]
  | l :: fs, s, h => by
    have h1 := addFiles_size fs (addAll s l) (fun y hy => h y (List.mem_cons_of_mem _ hy))
    have h2 := h l (List.mem_cons_self ..)
    have h3 := addAll_size l s (fun x hx => (h2.2 x hx).2)
    have h4 := h2.1
    simp only [addFiles, List.foldl_cons, List.length_cons] at h1 ⊢
    omega

theorem addAll_snoc (s : ByteArray) (p : List ByteArray) (x : ByteArray) : addAll s (p ++ [x]) = addAll s p ++ x := by simp [addAll]
theorem addFiles_snoc (s : ByteArray) (p : List (List ByteArray)) (x : List ByteArray) : addFiles s (p ++ [x]) = addAll (addFiles s p) x := by simp [addFiles]

theorem halves (t : ByteArray) (n : Nat) (h : n ≤ t.size) : t.extract 0 n ++ t.extract n t.size = t := by
  rw [ByteArray.extract_append_extract]
  simp [Nat.min_eq_left, h]

theorem some1_ok {t : ByteArray} (h : 1 ≤ t.size) : 1 ≤ some1 t ∧ some1 t ≤ t.size := by
  unfold some1
  rw [Int.tdiv_eq_ediv_of_nonneg (by omega)]
  split <;> omega

theorem good_size {s : ByteArray} (h : Good s) : 1 ≤ s.size := by
  rcases Nat.lt_or_ge 0 s.size with h1 | h1
  · exact h1
  · have h2 : s = ⟨#[]⟩ := by
      apply ByteArray.ext
      have : s.data.size = 0 := by rw [ByteArray.size_data]; omega
      simpa using Array.size_eq_zero_iff.1 this
    have := h.1
    rw [h2, ByteArray.toList_eq] at this
    simp at this

theorem cats_main (w0 : World) (ad : Addr) (nf cf : Nat) (files : List (List ByteArray)) (hff : FilesAt w0.heap.size w0 (some ad) nf cf files) (hg : ∀ l ∈ files, GoodF l) (h10 : files.length ≤ 10) (hne : files ≠ []) (ku b kr : Nat) :
    ∀ (f n : Nat), n + f = 400 → ∀ (m : M) (r : Res) (got : ByteArray) (file piece opn : Int) (w : World) (a : Act), Ph files m r got file piece opn → K3 w0 (some ad) nf cf (addFiles e0 files) ku b kr m r got file piece opn n w a → Gets Tryz.prog 4 catsH3 a w (CatR w0) := by
  intro f
  induction f with
  | zero =>
    intro n hn m r got file piece opn w a _ hk
    have : n = 400 := by omega
    subst this
    exact cats_end w0 _ nf cf _ ku b kr m r got file piece opn w a hk
  | succ f ih =>
    intro n hn m r got file piece opn w a hph hk
    have hn4 : n < 400 := by omega
    have hn1 : n + 1 + f = 400 := by omega
    have hnf := hff.len
    -- what is read next
    have hread : ∀ (pre : List (List ByteArray)) (l : List ByteArray) (post : List (List ByteArray)) (k : Nat) (got : ByteArray) (m : M) (r : Res), files = pre ++ l :: post → k ≤ l.length → got = addAll (addFiles e0 pre) (l.take k) → next 10 m r = cR (post.length + 1) → okNext 10 m r →
        K3 w0 (some ad) nf cf (addFiles e0 files) ku b kr m r got (pre.length : Nat) (k : Nat) 1 n w a → Gets Tryz.prog 4 catsH3 a w (CatR w0) := by
      intro pre l post k got m r hf hkl hgot hm hok hk
      have hl : files[pre.length]? = some l := by rw [hf]; simp
      have hll := (hg l (by rw [hf]; simp)).1
      have hlen : files.length = pre.length + (post.length + 1) := by rw [hf]; simp
      refine cats_read w0 ad nf cf files hff pre.length k l hl (by omega) (by omega) _ ku b kr m (post.length + 1) r got 1 n w a hk hn4 hm hok (fun w' a' r' k' hr hk' => ?_)
      cases hlk : l[k]? with
      | some s =>
        rw [hlk] at hr
        obtain ⟨rfl, rfl⟩ := hr
        have hkl' := (List.getElem?_eq_some_iff.1 hlk)
        obtain ⟨h1, h2⟩ := hkl'
        have hsplit : l = l.take k ++ s :: l.drop (k + 1) := by
          rw [← h2, ← List.drop_eq_getElem_cons, List.take_append_drop]
        have htl : (l.take k).length = k := by rw [List.length_take]; omega
        refine ih (n + 1) hn1 _ _ _ _ _ _ w' a' (Ph.rd pre l post (l.take k) s (l.drop (k + 1)) hf hsplit) ?_
        rw [htl, ← hgot]
        exact hk'
      | none =>
        rw [hlk] at hr
        obtain ⟨rfl, rfl⟩ := hr
        have hkl' : l.length ≤ k' := List.getElem?_eq_none_iff.1 hlk
        have hke : k' = l.length := by omega
        have htk : l.take k' = l := List.take_of_length_le hkl'
        refine ih (n + 1) hn1 _ _ _ _ _ _ w' a' (Ph.fin pre l post hf) ?_
        rw [htk] at hgot
        rw [← hgot, ← hke]
        exact hk'
    cases hph with
    | start =>
      cases hfs : files with
      | nil => exact absurd hfs hne
      | cons l post =>
        have hl1 : files.length = post.length + 1 := by rw [hfs]; rfl
        rw [hl1] at hk
        refine cats_open w0 _ nf cf _ ku b kr _ (post.length + 1) _ _ _ _ _ n w a hk hn4 (tS _) (kS _) (by omega) (by omega) (fun w' a' hk' => ?_)
        exact ih (n + 1) hn1 _ _ _ _ _ _ w' a' (Ph.opn [] l post hfs) hk'
    | opn pre l post hf =>
      exact hread pre l post 0 _ _ _ hf (Nat.zero_le _) (by simp [addAll]) (tO _) (kO _) hk
    | rd pre l post p s q hf hl =>
      have hlm : l ∈ files := by rw [hf]; simp
      have hgs : Good s := (hg l hlm).2 s (by rw [hl]; simp)
      have h1 := good_size hgs
      have hlen : files.length = pre.length + (post.length + 1) := by rw [hf]; simp
      have hb1 := addFiles_size pre e0 (fun x hx => hg x (by rw [hf]; simp [hx]))
      have hb2 := addAll_size p (addFiles e0 pre) (fun x hx => ((hg l hlm).2 x (by rw [hl]; simp [hx])).2)
      have hpl : p.length ≤ 10 := by have := (hg l hlm).1; rw [hl] at this; simp at this; omega
      have he0 : e0.size = 0 := rfl
      refine cats_write w0 _ nf cf _ ku b kr _ (post.length + 1) s _ _ _ _ _ n w a hk hn4 (tRt _ s hgs.1) (kRt _ s hgs.1) hgs.2 h1 (by omega) (fun w' a' hk' => ?_)
      refine ih (n + 1) hn1 _ _ _ _ _ _ w' a' (Ph.wr pre l post p s q s _ hf hl h1 hgs.2 ?_) hk'
      have h2 := some1_ok h1
      rw [addAll_snoc, ByteArray.append_assoc]
      unfold rest
      rw [halves s _ (by omega)]
    | fin pre l post hf =>
      refine cats_close w0 _ nf cf _ ku b kr _ (post.length + 1) _ _ _ _ _ n w a hk hn4 (tRe _) (kRe _) (by omega) (fun w' a' hk' => ?_)
      rw [← addFiles_snoc] at hk'
      exact ih (n + 1) hn1 _ _ _ _ _ _ w' a' (Ph.cl pre l post _ hf) hk'
    | wr pre l post p s q t _ hf hl h1 h256 hgot =>
      have hlm : l ∈ files := by rw [hf]; simp
      have h2 := some1_ok h1
      have hlen : files.length = pre.length + (post.length + 1) := by rw [hf]; simp
      by_cases hlt : some1 t < t.size
      · have hrs : (rest t (some1 t)).size = t.size - (some1 t).toNat := by unfold rest; rw [ByteArray.size_extract]; omega
        have hb1 := addFiles_size pre e0 (fun x hx => hg x (by rw [hf]; simp [hx]))
        have hb2 := addAll_size (p ++ [s]) (addFiles e0 pre) (fun x hx => ((hg l hlm).2 x (by rw [hl]; simp at hx ⊢; rcases hx with hx | hx <;> simp [hx])).2)
        have hpl : p.length ≤ 10 := by have := (hg l hlm).1; rw [hl] at this; simp at this; omega
        have he0 : e0.size = 0 := rfl
        have hgs : got.size ≤ 1000000 := by
          have := congrArg ByteArray.size hgot
          rw [ByteArray.size_append] at this
          simp only [List.length_append, List.length_cons, List.length_nil] at hb2
          omega
        refine cats_write w0 _ nf cf _ ku b kr _ (post.length + 1) (rest t (some1 t)) _ _ _ _ _ n w a hk hn4 (tWr _ t _ h2.1 hlt) (kWe _ t _) (by omega) (by omega) hgs (fun w' a' hk' => ?_)
        refine ih (n + 1) hn1 _ _ _ _ _ _ w' a' (Ph.wr pre l post p s q _ _ hf hl (by omega) (by omega) ?_) hk'
        rw [← hgot, ByteArray.append_assoc]
        congr 1
        have h3 := some1_ok (t := rest t (some1 t)) (by omega)
        exact halves _ _ (by omega)
      · have heq : (some1 t).toNat = t.size := by omega
        have hre : rest t (some1 t) = e0 := by
          unfold rest
          rw [heq]
          exact ByteArray.extract_eq_empty_iff.2 (by omega)
        rw [hre] at hgot
        have hge : got = addAll (addFiles e0 pre) (p ++ [s]) := by rw [← hgot]; exact (ByteArray.append_empty).symm
        refine hread pre l post (p.length + 1) _ _ _ hf (by rw [hl]; simp) ?_ (tWe _ t _ (by omega)) (kWe _ t _) hk
        have htk : l.take (p.length + 1) = p ++ [s] := by
          rw [hl, show p ++ s :: q = (p ++ [s]) ++ q by simp]
          exact List.take_left' (by simp)
        rw [hge, htk]
    | cl pre l post piece hf =>
      cases post with
      | nil =>
        refine cats_exit w0 _ nf cf _ ku b kr _ _ _ _ _ _ n w a hk hn4 tC1 kC1 (by rw [hf]) rfl ?_ (by omega)
        rw [hnf, hf]
        simp
      | cons l' post =>
        have hlen : files.length = pre.length + (post.length + 2) := by rw [hf]; simp
        refine cats_open w0 _ nf cf _ ku b kr _ (post.length + 1) _ _ _ _ _ n w a hk hn4 (tC2 _) (kC2 _) (by omega) (by omega) (fun w' a' hk' => ?_)
        have hpl : ((pre.length : Nat) : Int) + 1 = ((pre ++ [l]).length : Nat) := by simp
        rw [hpl] at hk'
        exact ih (n + 1) hn1 _ _ _ _ _ _ w' a' (Ph.opn (pre ++ [l]) l' post (by rw [hf]; simp)) hk'

end Go.Proofs.YtoihipolfdhhnaaGreatDoor

namespace Go.Proofs.YtoihipolfdhhnaaGreatDoor

/-- A slice of texts in old memory. -/
structure OldStrs (B : Nat) (w : World) (a : Option Addr) (n c : Nat) (l : List ByteArray) : Prop where
  len : n = l.length
  cap : n ≤ c
  at_ : ∀ i s, l[i]? = some s → ∃ ad, a = some ad ∧ w.cell? (ad.add i) = some (.string s) ∧ ad.block < B

theorem OldStrs.fresh {B : Nat} {w w' : World} {a : Option Addr} {n c : Nat} {l : List ByteArray} (h : OldStrs B w a n c l) (hn : New w w') : OldStrs B w' a n c l :=
  ⟨h.len, h.cap, fun i s hi => by obtain ⟨ad, g1, g2, g3⟩ := h.at_ i s hi; exact ⟨ad, g1, cell_new hn g2, g3⟩⟩

noncomputable def copy0 : List Item := (run Tab Tryz.f5.ntmps 20 (code Tryz.f5) (ini [.e (.c (.sl none 0 0)), .e (.c (.int .i64 0))] [] [])).1
noncomputable def copy1 : List Item := (run Tab Tryz.f5.ntmps 60 (popX copy0) { tl := [(0, .e (.c (.sl none 0 0))), (18, .e (.c (.bool true)))], bs := [], orc := [false] }).1
noncomputable def copyH1 : List Item := (loopX copy1).getD []

abbrev D1tl (af : Option Addr) (nf cf : Nat) (mode : Int) (want : ByteArray) (i : Nat) : List (Nat × SV) :=
  [(0, .e (.c (.sl af nf cf))), (1, .e (.c (.int .i64 mode))), (5, .e (.c (.bool true))), (6, .e (.c (.str want))), (7, .e (.c (.int .i64 (i : Int))))]
abbrev D1 (w0 w : World) (a : Act) (af : Option Addr) (nf cf : Nat) (mode : Int) (want : ByteArray) (i : Nat) : Prop :=
  CRel (lenv w0.heap.size w []) Tryz.f5.ntmps { tl := D1tl af nf cf mode want i, bs := [] } a w

theorem copies_in (w0 : World) (af : Option Addr) (nf cf : Nat) (mode : Int) (l : List ByteArray) (hf : OldStrs w0.heap.size w0 af nf cf l) (hl20 : l.length ≤ 20) (tot : ByteArray)
    (hcont : (∀ s ∈ l, Good s) → ∀ w a, New w0 w → D1 w0 w a af nf cf mode tot l.length → Gets Tryz.prog 5 copyH1 a w (CatR w0)) :
    ∀ (ls pre : List ByteArray), l = pre ++ ls → (∀ s ∈ pre, Good s) → ∀ (want : ByteArray) (w : World) (a : Act), want.size + 256 * ls.length ≤ 1000000 → addAll want ls = tot → New w0 w → D1 w0 w a af nf cf mode want pre.length → Gets Tryz.prog 5 copyH1 a w (CatR w0) := by
  intro ls
  induction ls with
  | nil =>
    intro pre hpre hg want w a _ htot hN hc
    have hpre' : l = pre := by simpa using hpre
    subst hpre'
    simp only [addAll, List.foldl_nil] at htot
    subst htot
    exact hcont hg w a hN hc
  | cons s ls ih =>
    intro pre hpre hg want w a hsz htot hN hc
    have hls : l[pre.length]? = some s := by rw [hpre]; simp
    obtain ⟨ad, rfl, g2, g3⟩ := (hf.fresh hN).at_ pre.length s hls
    have hll : l.length = pre.length + (ls.length + 1) := by rw [hpre]; simp
    have hnf := hf.len
    have hS : oro w0.heap.size w (ad.add ((pre.length : Int).toNat * 1)) = some (.string s) := oro_of (by rw [addr_add_block]; exact g3) (by simpa using g2)
    have hin2 : 0 ≤ (pre.length : Int) ∧ (pre.length : Int) < (nf : Int) := ⟨by omega, by omega⟩
    have hlt : decide ((pre.length : Int) < (nf : Int)) = true := by simp; omega
    have hem : (⟨#[]⟩ : ByteArray).toList = [] := by rw [ByteArray.toList_eq]
    by_cases he : (s.toList == []) = true
    · have he' : (s.toList == (⟨#[]⟩ : ByteArray).toList) = true := by rw [hem]; exact he
      refine gets_run tab_ok 90 (hc.feed [true, true] [.e (.c (.str s))]) (holds_of (obs := [fun _ => decide ((↑(List.length pre) : Int) < (↑nf : Int)) = true, fun _ => (0 : Int) ≤ (↑(List.length pre) : Int) ∧ (↑(List.length pre) : Int) < (↑nf : Int), fun ε => Env.ro ε (Addr.add ad (Int.toNat (↑(List.length pre) : Int) * (1 : Nat))) = some (Value.string s), fun _ => (ByteArray.toList s == ByteArray.toList { data := #[] }) = true]) (by kernel_rfl) ⟨hlt, hin2, hS, he', trivial⟩) (fun a1 w1 hc1 => ?_)
      replace hc1 := hc1.pickx [(0, .e (.c (.sl (some ad) nf cf))), (1, .e (.c (.int .i64 mode))), (4, .e (.c (.bool true))), (5, .e (.c (.bool true))), (6, .e (.c (.str want))), (7, .e (.c (.int .i64 ((↑(List.length pre) : Int))))), (24, .e (.c (.int .i64 ((↑(List.length pre) : Int))))), (25, .e (.c (.sl (some ad) nf cf))), (26, .e (.c (.int .i64 ((↑nf : Int))))), (27, .e (.c (.bool true))), (30, .e (.c (.sl (some ad) nf cf))), (31, .e (.c (.int .i64 ((↑(List.length pre) : Int))))), (32, .e (.c (.rp (Addr.add ad (Int.toNat (↑(List.length pre) : Int) * (1 : Nat)))))), (33, .e (.c (.str s))), (34, .e (.c (.bool true))), (35, .e (.c (.bool true))), (42, .e (.c (.bool true))), (43, .e (.c (.bool true)))] [] [] (by kernel_rfl) (by kernel_rfl)
      exact gets_fin tab_ok (l := [.c (.bool true)]) hc1 Tryz.func5 (by kernel_rfl) (by kernel_rfl) ⟨rfl, hN.trans ((Over.lenv (New.refl w) (by simp)).rel hc1.mem), trivial⟩
    · have he' : (s.toList == (⟨#[]⟩ : ByteArray).toList) = false := by rw [hem]; simpa using he
      by_cases hb : s.size ≤ 256
      · have hb' : decide ((s.size : Int) > 256) = false := by simp; omega
        have hso : ((want.size + s.size : Nat) : Int) ≤ 9223372036854775807 := by simp only [List.length_cons] at hsz; omega
        refine gets_run tab_ok 120 (hc.feed [true, false, false] [.e (.c (.str s)), .e (.c (.str s)), .e (.c (.str s))]) (holds_of (obs := [fun _ => decide ((↑(List.length pre) : Int) < (↑nf : Int)) = true, fun _ => (0 : Int) ≤ (↑(List.length pre) : Int) ∧ (↑(List.length pre) : Int) < (↑nf : Int), fun ε => Env.ro ε (Addr.add ad (Int.toNat (↑(List.length pre) : Int) * (1 : Nat))) = some (Value.string s), fun _ => (ByteArray.toList s == ByteArray.toList { data := #[] }) = false, fun _ => (0 : Int) ≤ (↑(List.length pre) : Int) ∧ (↑(List.length pre) : Int) < (↑nf : Int), fun ε => Env.ro ε (Addr.add ad (Int.toNat (↑(List.length pre) : Int) * (1 : Nat))) = some (Value.string s), fun _ => decide ((↑(ByteArray.size s) : Int) > (256 : Int)) = false, fun _ => (0 : Int) ≤ (↑(List.length pre) : Int) ∧ (↑(List.length pre) : Int) < (↑nf : Int), fun ε => Env.ro ε (Addr.add ad (Int.toNat (↑(List.length pre) : Int) * (1 : Nat))) = some (Value.string s), fun _ => (↑(ByteArray.size want + ByteArray.size s) : Int) ≤ (9223372036854775807 : Int)]) (by kernel_rfl) ⟨hlt, hin2, hS, he', hin2, hS, hb', hin2, hS, hso, trivial⟩) (fun a1 w1 hc1 => ?_)
        replace hc1 := hc1.pickx [(0, .e (.c (.sl (some ad) nf cf))), (1, .e (.c (.int .i64 mode))), (5, .e (.c (.bool true))), (6, .e (.c (.str (want ++ s)))), (7, .e (.c (.int .i64 (IntKind.wrap IntKind.i64 ((↑(List.length pre) : Int) + (1 : Int)))))), (24, .e (.c (.int .i64 ((↑(List.length pre) : Int))))), (25, .e (.c (.sl (some ad) nf cf))), (26, .e (.c (.int .i64 ((↑nf : Int))))), (27, .e (.c (.bool true))), (28, .e (.c (.int .i64 ((↑(List.length pre) : Int))))), (29, .e (.c (.int .i64 (IntKind.wrap IntKind.i64 ((↑(List.length pre) : Int) + (1 : Int)))))), (30, .e (.c (.sl (some ad) nf cf))), (31, .e (.c (.int .i64 ((↑(List.length pre) : Int))))), (32, .e (.c (.rp (Addr.add ad (Int.toNat (↑(List.length pre) : Int) * (1 : Nat)))))), (33, .e (.c (.str s))), (34, .e (.c (.bool false))), (35, .e (.c (.bool false))), (36, .e (.c (.sl (some ad) nf cf))), (37, .e (.c (.int .i64 ((↑(List.length pre) : Int))))), (38, .e (.c (.rp (Addr.add ad (Int.toNat (↑(List.length pre) : Int) * (1 : Nat)))))), (39, .e (.c (.str s))), (40, .e (.c (.int .i64 ((↑(ByteArray.size s) : Int))))), (41, .e (.c (.bool false))), (42, .e (.c (.bool false))), (44, .e (.c (.str want))), (45, .e (.c (.sl (some ad) nf cf))), (46, .e (.c (.int .i64 ((↑(List.length pre) : Int))))), (47, .e (.c (.rp (Addr.add ad (Int.toNat (↑(List.length pre) : Int) * (1 : Nat)))))), (48, .e (.c (.str s))), (49, .e (.c (.str (want ++ s))))] [] [] (by kernel_rfl) (by kernel_rfl)
        have hN1 := hN.trans ((Over.lenv (New.refl w) (by simp)).rel hc1.mem)
        have hc2 := hc1.anchor0 w0.heap.size (D1tl (some ad) nf cf mode (want ++ s) (pre.length + 1)) [] [] ⟨by rfl, by rfl, by rfl, by rfl, by show some (Value.int .i64 (IntKind.i64.wrap ((pre.length : Int) + 1))) = _; rw [wrap_succ (by omega)]; rfl, trivial⟩
        refine gets_loop (k' := copyH1) (by kernel_rfl) ?_
        have hpl : (pre ++ [s]).length = pre.length + 1 := by simp
        refine ih (pre ++ [s]) (by rw [hpre]; simp) (fun x hx => ?_) (want ++ s) w1 a1 (by rw [ByteArray.size_append]; simp only [List.length_cons] at hsz; omega) htot hN1 (by rw [hpl]; exact hc2)
        rcases List.mem_append.1 hx with hx | hx
        · exact hg x hx
        · simp only [List.mem_singleton] at hx
          subst hx
          exact ⟨by simpa using he, hb⟩
      · have hb' : decide ((s.size : Int) > 256) = true := by simp; omega
        refine gets_run tab_ok 120 (hc.feed [true, false, true] [.e (.c (.str s)), .e (.c (.str s))]) (holds_of (obs := [fun _ => decide ((↑(List.length pre) : Int) < (↑nf : Int)) = true, fun _ => (0 : Int) ≤ (↑(List.length pre) : Int) ∧ (↑(List.length pre) : Int) < (↑nf : Int), fun ε => Env.ro ε (Addr.add ad (Int.toNat (↑(List.length pre) : Int) * (1 : Nat))) = some (Value.string s), fun _ => (ByteArray.toList s == ByteArray.toList { data := #[] }) = false, fun _ => (0 : Int) ≤ (↑(List.length pre) : Int) ∧ (↑(List.length pre) : Int) < (↑nf : Int), fun ε => Env.ro ε (Addr.add ad (Int.toNat (↑(List.length pre) : Int) * (1 : Nat))) = some (Value.string s), fun _ => decide ((↑(ByteArray.size s) : Int) > (256 : Int)) = true]) (by kernel_rfl) ⟨hlt, hin2, hS, he', hin2, hS, hb', trivial⟩) (fun a1 w1 hc1 => ?_)
        replace hc1 := hc1.pickx [(0, .e (.c (.sl (some ad) nf cf))), (1, .e (.c (.int .i64 mode))), (4, .e (.c (.bool true))), (5, .e (.c (.bool true))), (6, .e (.c (.str want))), (7, .e (.c (.int .i64 ((↑(List.length pre) : Int))))), (24, .e (.c (.int .i64 ((↑(List.length pre) : Int))))), (25, .e (.c (.sl (some ad) nf cf))), (26, .e (.c (.int .i64 ((↑nf : Int))))), (27, .e (.c (.bool true))), (30, .e (.c (.sl (some ad) nf cf))), (31, .e (.c (.int .i64 ((↑(List.length pre) : Int))))), (32, .e (.c (.rp (Addr.add ad (Int.toNat (↑(List.length pre) : Int) * (1 : Nat)))))), (33, .e (.c (.str s))), (34, .e (.c (.bool false))), (35, .e (.c (.bool false))), (36, .e (.c (.sl (some ad) nf cf))), (37, .e (.c (.int .i64 ((↑(List.length pre) : Int))))), (38, .e (.c (.rp (Addr.add ad (Int.toNat (↑(List.length pre) : Int) * (1 : Nat)))))), (39, .e (.c (.str s))), (40, .e (.c (.int .i64 ((↑(ByteArray.size s) : Int))))), (41, .e (.c (.bool true))), (42, .e (.c (.bool true))), (43, .e (.c (.bool true)))] [] [] (by kernel_rfl) (by kernel_rfl)
        exact gets_fin tab_ok (l := [.c (.bool true)]) hc1 Tryz.func5 (by kernel_rfl) (by kernel_rfl) ⟨rfl, hN.trans ((Over.lenv (New.refl w) (by simp)).rel hc1.mem), trivial⟩

abbrev D3tl (af : Option Addr) (nf cf : Nat) (want : ByteArray) (ku : Nat) (got : ByteArray) (i n : Nat) : List (Nat × SV) :=
  [(0, .e (.c (.sl af nf cf))), (5, .e (.c (.bool true))), (6, .e (.c (.str want))), (8, .e (.c (.rp ⟨ku, 0, none⟩))), (13, .e (.c (.str got))), (14, .e (.c (.int .i64 (i : Int)))), (15, .e (.c (.p 0 0))), (16, .e (.c (.int .i64 (n : Int))))]

theorem Rel.newer {ε : Env} {bs bs' : List NB} {w w' : World} (h : Rel ε bs w) (h' : Rel ε bs' w') {i : Nat} (h1 : bs.length ≤ i) (h2 : i < bs'.length) : w.heap.size ≤ ε.ρ i ∧ ε.ρ i < w'.heap.size := by
  have a1 := h.n0
  have a2 := h.size
  have a3 := h'.size
  rw [h.new i (by omega)]
  omega

/-- What holds at the head of the loop that plays. -/
structure L3 (w0 : World) (af : Option Addr) (nf cf : Nat) (want : ByteArray) (ku b kr : Nat) (m : M) (r : Res) (got : ByteArray) (i n : Nat) (w : World) (a : Act) : Prop where
  new : New w0 w
  lu : LU ⟨w0.heap.size, [kr]⟩ w0 w ku b m
  kr0 : w0.heap.size ≤ kr
  nm : r.names = []
  rel : CRel (lenv w0.heap.size w [kr]) Tryz.f5.ntmps { tl := D3tl af nf cf want ku got i n, bs := [⟨35, r.cs none 0 0⟩] } a w

noncomputable def copy2 : List Item := (run Tab Tryz.f5.ntmps 60 copyH1 { tl := D1tl none 0 0 0 ⟨#[]⟩ 0, bs := [], orc := [false] }).1
noncomputable def copy3 : List Item := (run Tab Tryz.f5.ntmps 40 (popX copy2) { tl := (51, .e (.c (.rp ⟨0, 0, none⟩))) :: D1tl none 0 0 0 ⟨#[]⟩ 0, bs := [] }).1
noncomputable def copy4 : List Item := (run Tab Tryz.f5.ntmps 40 (popX copy3) { tl := (56, .e (.a ({} : CallD).cs)) :: (8, .e (.c (.rp ⟨0, 0, none⟩))) :: D1tl none 0 0 0 ⟨#[]⟩ 0, bs := [] }).1
noncomputable def copy5 : List Item := (run Tab Tryz.f5.ntmps 40 (popX copy4) { tl := (59, .e (.a ({} : CallD).cs)) :: (8, .e (.c (.rp ⟨0, 0, none⟩))) :: D1tl none 0 0 0 ⟨#[]⟩ 0, bs := [] }).1
noncomputable def copy6 : List Item := (run Tab Tryz.f5.ntmps 40 (popX copy5) { tl := (64, .e (.a ({} : CallD).cs)) :: (8, .e (.c (.rp ⟨0, 0, none⟩))) :: D1tl none 0 0 0 ⟨#[]⟩ 0, bs := [] }).1
noncomputable def copy7 : List Item := (run Tab Tryz.f5.ntmps 400 (popX copy6) { tl := (67, .e (.a ({ empty := true, make := true } : CallD).cs)) :: (9, .e (.c (.p 0 0))) :: (10, .e (.c (.p 0 0))) :: (11, .e (.c (.p 0 0))) :: (8, .e (.c (.rp ⟨0, 0, none⟩))) :: D1tl none 0 0 0 ⟨#[]⟩ 0, bs := [⟨39, ({ empty := true, make := true } : CallD).cs⟩], orc := [false, false, false, false, false, false, false, false, false] }).1
noncomputable def copyH3 : List Item := (loopX copy7).getD []

theorem copies_play (w0 : World) (hB : Base w0) (af : Option Addr) (nf cf : Nat) (mode : Int) (want : ByteArray) (i : Nat) (w : World) (a : Act) (hN : New w0 w) (hge : nf ≤ i) (hc : D1 w0 w a af nf cf mode want i)
    (hH : ∀ ku b kr w' a', L3 w0 af nf cf want ku b kr (p4 mode) { n := 4 } e0 0 0 w' a' → Gets Tryz.prog 5 copyH3 a' w' (CatR w0)) : Gets Tryz.prog 5 copyH1 a w (CatR w0) := by
  have hlt : decide ((i : Int) < (nf : Int)) = false := by simp; omega
  have hG : GlobOk ⟨w0.heap.size, []⟩ w0 := GlobOk.start hB
  refine gets_run tab_ok 60 (hc.feed [false] []) (holds_of (obs := [fun _ => decide ((↑i : Int) < (↑nf : Int)) = false]) (by kernel_rfl) ⟨hlt, trivial⟩) (fun a1 w1 hc1 => ?_)
  replace hc1 := hc1.pickx [(0, .e (.c (.sl af nf cf))), (1, .e (.c (.int .i64 mode))), (5, .e (.c (.bool true))), (6, .e (.c (.str want))), (50, .e (.c (.nsl 0 0 3 3)))] [⟨9, [.str ⟨#[99, 112]⟩, .str ⟨#[47, 97]⟩, .str ⟨#[47, 98]⟩]⟩] [] (by kernel_rfl) (by kernel_rfl)
  have hn1 := (Over.lenv (New.refl w) (by simp)).rel hc1.mem
  have hN1 := hN.trans hn1
  refine gets_new (B := ⟨w0.heap.size, []⟩) 51 [] sCp [sCp, sA, sB] (.c (.nsl 0 0 3 3)) _ 3 3 .cp hc1 (hG.keep (hN1.keep _)) (by kernel_rfl) rfl (strsAt_new hc1.mem 0 [sCp, sA, sB] rfl) (by simp) prog_cp (by kernel_rfl) (by kernel_rfl) (by kernel_rfl) (by kernel_rfl) (fun a2 w2 ku b hn2 hku hu hown hc2 => ?_)
  have hN2 := hN1.trans hn2
  have hc3 := hc2.anchor0 w0.heap.size [(0, .e (.c (.sl af nf cf))), (1, .e (.c (.int .i64 mode))), (5, .e (.c (.bool true))), (6, .e (.c (.str want))), (51, .e (.c (.rp ⟨ku, 0, none⟩)))] [] [] ⟨by rfl, by rfl, by rfl, by rfl, by rfl, trivial⟩
  clear hc2 hc1
  have hov3 : Over w0 (lenv w0.heap.size w2 []) := Over.lenv hN2 (by simp)
  have hL2 : LU ⟨w0.heap.size, []⟩ w0 w2 ku b pS := ⟨hu, fun j ho => Nat.le_trans hN1.size (hown j ho)⟩
  refine law_next 40 10 56 [] {} ku b [(0, .e (.c (.sl af nf cf))), (1, .e (.c (.int .i64 mode))), (5, .e (.c (.bool true))), (6, .e (.c (.str want))), (8, .e (.c (.rp ⟨ku, 0, none⟩)))] [] (rs := ({} : Res).cs none 0 0) (ad := none) (nn := 0) (cp := 0) (obs := []) hov3 hc3 hL2 (by kernel_rfl) trivial (by kernel_rfl) (by kernel_rfl) (by kernel_rfl) rfl (strsAt_nil _ w2) (by kernel_rfl) (by kernel_rfl) (by kernel_rfl) (by kernel_rfl) (by kernel_rfl) cp_uS cp_vS
    (fun ε4 a4 w4 hov4 hL4 _ hc4 => ?_)
  refine law_next 40 10 59 [] { err := 3 } ku b [(0, .e (.c (.sl af nf cf))), (1, .e (.c (.int .i64 mode))), (5, .e (.c (.bool true))), (6, .e (.c (.str want))), (8, .e (.c (.rp ⟨ku, 0, none⟩))), (9, .e (.c (.p 0 0)))] [⟨39, p1.call.cs⟩] (rs := ({ err := 3 } : Res).cs none 0 0) (ad := none) (nn := 0) (cp := 0) (obs := []) hov4 hc4 hL4 (by kernel_rfl) trivial (by kernel_rfl) (by kernel_rfl) (by kernel_rfl) rfl (strsAt_nil _ w4) (by kernel_rfl) (by kernel_rfl) (by kernel_rfl) (by kernel_rfl) (by kernel_rfl) cp_u1 cp_v1
    (fun ε5 a5 w5 hov5 hL5 _ hc5 => ?_)
  refine law_next 40 10 64 [] { info := { mode := mode } } ku b [(0, .e (.c (.sl af nf cf))), (1, .e (.c (.int .i64 mode))), (5, .e (.c (.bool true))), (6, .e (.c (.str want))), (8, .e (.c (.rp ⟨ku, 0, none⟩))), (9, .e (.c (.p 0 0))), (10, .e (.c (.p 1 0)))] [⟨39, p2.call.cs⟩] (rs := ({ info := { mode := mode } } : Res).cs none 0 0) (ad := none) (nn := 0) (cp := 0) (obs := []) hov5 hc5 hL5 (by kernel_rfl) trivial (by kernel_rfl) (by kernel_rfl) (by kernel_rfl) rfl (strsAt_nil _ w5) (by kernel_rfl) (by kernel_rfl) (by kernel_rfl) (by kernel_rfl) (by kernel_rfl) (cp_u2 mode) (cp_v2 mode)
    (fun ε6 a6 w6 hov6 hL6 _ hc6 => ?_)
  refine law_next 40 10 67 [] { n := 3 } ku b [(0, .e (.c (.sl af nf cf))), (1, .e (.c (.int .i64 mode))), (5, .e (.c (.bool true))), (6, .e (.c (.str want))), (8, .e (.c (.rp ⟨ku, 0, none⟩))), (9, .e (.c (.p 0 0))), (10, .e (.c (.p 1 0))), (11, .e (.c (.p 2 0)))] [⟨39, (p3 mode).call.cs⟩] (rs := ({ n := 3 } : Res).cs none 0 0) (ad := none) (nn := 0) (cp := 0) (obs := []) hov6 hc6 hL6 (by kernel_rfl) trivial (by kernel_rfl) (by kernel_rfl) (by kernel_rfl) rfl (strsAt_nil _ w6) (by kernel_rfl) (by kernel_rfl) (by kernel_rfl) (by kernel_rfl) (by kernel_rfl) (cp_u3 mode) (cp_v3 mode)
    (fun ε7 a7 w7 hov7 hL7 _ hc7 => ?_)
  have hq : (low9 mode != low9 mode) = false := by simp
  refine gets_run tab_ok 400 (hc7.feed [false, false, false, false, false, false, false, false, false] []) (holds_of (obs := [fun _ => ((8 : Int) != (8 : Int)) = false, fun _ => (!ByteArray.toList sB == ByteArray.toList { data := #[(47 : UInt8), (98 : UInt8)] }) = false, fun _ => ((8 : Int) != (8 : Int)) = false, fun _ => (!ByteArray.toList sA == ByteArray.toList { data := #[(47 : UInt8), (97 : UInt8)] }) = false, fun _ => ((2 : Int) != (2 : Int)) = false, fun _ => (!ByteArray.toList sA == ByteArray.toList { data := #[(47 : UInt8), (97 : UInt8)] }) = false, fun _ => ((2 : Int) != (2 : Int)) = false, fun _ => (!ByteArray.toList sB == ByteArray.toList { data := #[(47 : UInt8), (98 : UInt8)] }) = false, fun _ => (low9 mode != IntKind.wrap IntKind.i64 (↑(BitVec.toNat (BitVec.ofInt (IntKind.bits IntKind.i64) mode &&& BitVec.ofInt (IntKind.bits IntKind.i64) (511 : Int))) : Int)) = false]) (by kernel_rfl) ⟨rfl, (by simp), rfl, (by simp), rfl, (by simp), rfl, (by simp), hq, trivial⟩) (fun a8 w8 hc8 => ?_)
  replace hc8 := hc8.pickx [(0, .e (.c (.sl af nf cf))), (5, .e (.c (.bool true))), (6, .e (.c (.str want))), (8, .e (.c (.rp ⟨ku, 0, none⟩))), (13, .e (.c (.str ⟨#[]⟩))), (14, .e (.c (.int .i64 0))), (15, .e (.c (.p 4 0))), (16, .e (.c (.int .i64 0)))] [⟨39, [.int .i64 8, .str ⟨#[47, 98]⟩, .str ⟨#[]⟩, .str ⟨#[]⟩, .int .i64 0, .int .i64 0, .int .i64 0, .int .i64 0, .int .i64 0, .int .i64 0, .int .i64 0, .bool false, .bool false, .bool false, .bool false, .int .i64 0, .bool false, .bool false, .sl (none) 0 0, .sl (none) 0 0]⟩, ⟨39, [.int .i64 8, .str ⟨#[47, 97]⟩, .str ⟨#[]⟩, .str ⟨#[]⟩, .int .i64 0, .int .i64 0, .int .i64 0, .int .i64 0, .int .i64 0, .int .i64 0, .int .i64 0, .bool false, .bool false, .bool false, .bool false, .int .i64 0, .bool false, .bool false, .sl (none) 0 0, .sl (none) 0 0]⟩, ⟨39, [.int .i64 ((2 : Int)), .str (sA), .str ({ data := #[] }), .str ({ data := #[] }), .int .i64 ((0 : Int)), .int .i64 ((0 : Int)), .int .i64 ((0 : Int)), .int .i64 ((0 : Int)), .int .i64 ((0 : Int)), .int .i64 ((0 : Int)), .int .i64 ((4 : Int)), .bool false, .bool false, .bool false, .bool false, .int .i64 ((0 : Int)), .bool false, .bool false, .sl (none) 0 0, .sl (none) 0 0]⟩, ⟨39, [.int .i64 ((2 : Int)), .str (sB), .str ({ data := #[] }), .str ({ data := #[] }), .int .i64 ((0 : Int)), .int .i64 ((0 : Int)), .int .i64 ((0 : Int)), .int .i64 ((0 : Int)), .int .i64 ((0 : Int)), .int .i64 ((0 : Int)), .int .i64 ((2 : Int)), .bool true, .bool false, .bool true, .bool false, .int .i64 (low9 mode), .bool false, .bool false, .sl (none) 0 0, .sl (none) 0 0]⟩, ⟨35, [.int .i64 0, .int .i64 4, .int .i64 0, .str ⟨#[]⟩, .sl (none) 0 0, .int .i64 0, .int .i64 0, .int .i64 0, .int .i64 0, .int .i64 0, .int .i64 0, .int .i64 0, .int .i64 0, .int .i64 0, .int .i64 0, .int .i64 0, .int .i64 0, .int .i64 0, .int .i64 0]⟩] [] (by kernel_rfl) (by kernel_rfl)
  have hr7 := hc7.mem.bs (bs' := [⟨39, p1.call.cs⟩, ⟨39, p2.call.cs⟩, ⟨39, (p3 mode).call.cs⟩]) (by kernel_rfl)
  have hr8 := hc8.mem.bs (bs' := [⟨39, p1.call.cs⟩, ⟨39, p2.call.cs⟩, ⟨39, (p3 mode).call.cs⟩] ++ [⟨39, (p4 mode).call.cs⟩, ⟨35, ({ n := 4 } : Res).cs none 0 0⟩]) (by kernel_rfl)
  have hn8 := hr7.grow hr8
  obtain ⟨hge8, hlt8⟩ := hr7.newer hr8 (i := 4) (Nat.le_of_ble_eq_true rfl) (Nat.le_of_ble_eq_true rfl)
  have hN8 : New w0 w8 := hov7.rel hr8
  have hL8 : LU ⟨w0.heap.size, [ε7.ρ 4]⟩ w0 w8 ku b (p4 mode) := hL7.excl hn8 hge8 hlt8
  have hkr : w0.heap.size ≤ ε7.ρ 4 := Nat.le_trans (hov7.rel hr7).size hge8
  have hc9 := hc8.anchor1 w0.heap.size 4 ⟨35, ({ n := 4 } : Res).cs none 0 0⟩ rfl rfl hkr (D3tl af nf cf want ku e0 0 0) [] [] ⟨by rfl, by rfl, by rfl, by rfl, by rfl, by rfl, by rfl, by rfl, trivial⟩
  refine gets_loop (k' := copyH3) (by kernel_rfl) ?_
  exact hH ku b (ε7.ρ 4) w8 a8 ⟨hN8, hL8, hkr, rfl, hc9⟩

end Go.Proofs.YtoihipolfdhhnaaGreatDoor
