/-
  utils.programs: the program of each name. Printed by wip/tools/progs.py.
-/
import Derived.Test.YtoihipolfdhhnaaGreatDoorUtil
namespace Go.Proofs.YtoihipolfdhhnaaGreatDoor

/-- The program of a name. -/
def progOf (s : ByteArray) : Option Dp :=
  if (s.toList == [116, 114, 117, 101]) = true then some .tru else
  if (s.toList == [102, 97, 108, 115, 101]) = true then some .fls else
  if (s.toList == [105, 100]) = true then some .id else
  if (s.toList == [119, 104, 111]) = true then some .who else
  if (s.toList == [99, 97, 116]) = true then some .cat else
  if (s.toList == [109, 107, 100, 105, 114]) = true then some .mkdir else
  if (s.toList == [114, 109, 100, 105, 114]) = true then some .rmdir else
  if (s.toList == [114, 109]) = true then some .rm else
  if (s.toList == [108, 110]) = true then some .ln else
  if (s.toList == [109, 118]) = true then some .mv else
  if (s.toList == [99, 112]) = true then some .cp else
  if (s.toList == [99, 104, 109, 111, 100]) = true then some .chmod else
  if (s.toList == [99, 104, 111, 119, 110]) = true then some .chown else
  if (s.toList == [108, 115]) = true then some .ls else
  none

/-- A program as a value. -/
def DV (w : World) : Option Dp → Value → Prop
  | none, v => v = .nilFunc
  | some d, v => ∃ f c, v = .func (.func f) #[] c ∧ RepD w d f c

def GivesD (s : ByteArray) (w : World) (e : Ending) (w' : World) : Prop := ∃ v, e = .returned v ∧ New w w' ∧ DV w' (progOf s) v

theorem simple_calls {B : Bd} (w : World) (f : FuncId) (c : Array Value) : Calls Tryz.prog 43 #[.func (.func f) #[] c] w (Gives (.func (.func 83) #[] #[bp w.heap.size]) (fun w' => Box w' w.heap.size 79 (.func (.func f) #[] c)) w) :=
  gives_end (B := B) [.e (.c (.fv f c))] [] [] 40 [⟨79, [.fv f c]⟩] (obs := []) Tryz.func43 rfl rfl rfl (by kernel_rfl) (by kernel_rfl) (by kernel_rfl) (l := [.c (.f 83 [.n 0 0])]) (by kernel_rfl) trivial rfl (fun w1 hr1 => box_of hr1 (i := 0) rfl rfl rfl)

theorem places_calls {B : Bd} (w : World) (f : FuncId) (c : Array Value) : Calls Tryz.prog 47 #[.func (.func f) #[] c] w (Gives (.func (.func 91) #[] #[bp w.heap.size]) (fun w' => Box w' w.heap.size 81 (.func (.func f) #[] c)) w) :=
  gives_end (B := B) [.e (.c (.fv f c))] [] [] 40 [⟨81, [.fv f c]⟩] (obs := []) Tryz.func47 rfl rfl rfl (by kernel_rfl) (by kernel_rfl) (by kernel_rfl) (l := [.c (.f 91 [.n 0 0])]) (by kernel_rfl) trivial rfl (fun w1 hr1 => box_of hr1 (i := 0) rfl rfl rfl)

theorem renames_calls {B : Bd} (w : World) (n : Int) : Calls Tryz.prog 48 #[.int .i64 n] w (Gives (.func (.func 96) #[] #[bp w.heap.size]) (fun w' => IntBox w' w.heap.size n) w) :=
  gives_end (B := B) [.e (.c (.int .i64 n))] [] [] 40 [⟨3, [.int .i64 n]⟩] (obs := []) Tryz.func48 rfl rfl rfl (by kernel_rfl) (by kernel_rfl) (by kernel_rfl) (l := [.c (.f 96 [.n 0 0])]) (by kernel_rfl) trivial rfl (fun w1 hr1 => box_of hr1 (i := 0) rfl rfl rfl)

theorem programs_calls {B : Bd} (w : World) (s : ByteArray) : Calls Tryz.prog 19 #[.string s] w (GivesD s w) := by
  have hx : ∀ l : List UInt8, (ByteArray.mk l.toArray).toList = l := fun l => by rw [ByteArray.toList_eq]
  by_cases h0 : (s.toList == [116, 114, 117, 101]) = true
  · have o0 : (s.toList == (⟨#[116, 114, 117, 101]⟩ : ByteArray).toList) = true := by rw [hx [116, 114, 117, 101]]; exact h0
    have hp : progOf s = some .tru := by simp only [progOf, if_pos h0]
    refine Calls.mono (gives_end (B := B) [.e (.c (.str s))] [true] [] 200 [] (obs := [fun _ => (s.toList == (⟨#[116, 114, 117, 101]⟩ : ByteArray).toList) = true]) (Q := fun _ => True) Tryz.func19 rfl rfl rfl (by kernel_rfl) (by kernel_rfl) (by kernel_rfl) (l := [.c (.f 38 [])]) (by kernel_rfl) ⟨o0, trivial⟩ rfl (fun _ _ => trivial)) (fun e w' ⟨e1, e2, _⟩ => ⟨_, e1, e2, ?_⟩)
    rw [hp]
    exact ⟨38, #[], rfl, rfl, rfl⟩
  have o0 : (s.toList == (⟨#[116, 114, 117, 101]⟩ : ByteArray).toList) = false := by rw [hx [116, 114, 117, 101]]; simpa using h0
  by_cases h1 : (s.toList == [102, 97, 108, 115, 101]) = true
  · have o1 : (s.toList == (⟨#[102, 97, 108, 115, 101]⟩ : ByteArray).toList) = true := by rw [hx [102, 97, 108, 115, 101]]; exact h1
    have hp : progOf s = some .fls := by simp only [progOf, if_neg h0, if_pos h1]
    refine Calls.mono (gives_end (B := B) [.e (.c (.str s))] [false, true] [] 200 [] (obs := [fun _ => (s.toList == (⟨#[116, 114, 117, 101]⟩ : ByteArray).toList) = false, fun _ => (s.toList == (⟨#[102, 97, 108, 115, 101]⟩ : ByteArray).toList) = true]) (Q := fun _ => True) Tryz.func19 rfl rfl rfl (by kernel_rfl) (by kernel_rfl) (by kernel_rfl) (l := [.c (.f 39 [])]) (by kernel_rfl) ⟨o0, o1, trivial⟩ rfl (fun _ _ => trivial)) (fun e w' ⟨e1, e2, _⟩ => ⟨_, e1, e2, ?_⟩)
    rw [hp]
    exact ⟨39, #[], rfl, rfl, rfl⟩
  have o1 : (s.toList == (⟨#[102, 97, 108, 115, 101]⟩ : ByteArray).toList) = false := by rw [hx [102, 97, 108, 115, 101]]; simpa using h1
  by_cases h2 : (s.toList == [105, 100]) = true
  · have o2 : (s.toList == (⟨#[105, 100]⟩ : ByteArray).toList) = true := by rw [hx [105, 100]]; exact h2
    have hp : progOf s = some .id := by simp only [progOf, if_neg h0, if_neg h1, if_pos h2]
    refine Calls.mono (gives_end (B := B) [.e (.c (.str s))] [false, false, true] [] 200 [] (obs := [fun _ => (s.toList == (⟨#[116, 114, 117, 101]⟩ : ByteArray).toList) = false, fun _ => (s.toList == (⟨#[102, 97, 108, 115, 101]⟩ : ByteArray).toList) = false, fun _ => (s.toList == (⟨#[105, 100]⟩ : ByteArray).toList) = true]) (Q := fun _ => True) Tryz.func19 rfl rfl rfl (by kernel_rfl) (by kernel_rfl) (by kernel_rfl) (l := [.c (.f 40 [])]) (by kernel_rfl) ⟨o0, o1, o2, trivial⟩ rfl (fun _ _ => trivial)) (fun e w' ⟨e1, e2, _⟩ => ⟨_, e1, e2, ?_⟩)
    rw [hp]
    exact ⟨40, #[], rfl, rfl, rfl⟩
  have o2 : (s.toList == (⟨#[105, 100]⟩ : ByteArray).toList) = false := by rw [hx [105, 100]]; simpa using h2
  by_cases h3 : (s.toList == [119, 104, 111]) = true
  · have o3 : (s.toList == (⟨#[119, 104, 111]⟩ : ByteArray).toList) = true := by rw [hx [119, 104, 111]]; exact h3
    have hp : progOf s = some .who := by simp only [progOf, if_neg h0, if_neg h1, if_neg h2, if_pos h3]
    refine Calls.mono (gives_end (B := B) [.e (.c (.str s))] [false, false, false, true] [] 200 [] (obs := [fun _ => (s.toList == (⟨#[116, 114, 117, 101]⟩ : ByteArray).toList) = false, fun _ => (s.toList == (⟨#[102, 97, 108, 115, 101]⟩ : ByteArray).toList) = false, fun _ => (s.toList == (⟨#[105, 100]⟩ : ByteArray).toList) = false, fun _ => (s.toList == (⟨#[119, 104, 111]⟩ : ByteArray).toList) = true]) (Q := fun _ => True) Tryz.func19 rfl rfl rfl (by kernel_rfl) (by kernel_rfl) (by kernel_rfl) (l := [.c (.f 41 [])]) (by kernel_rfl) ⟨o0, o1, o2, o3, trivial⟩ rfl (fun _ _ => trivial)) (fun e w' ⟨e1, e2, _⟩ => ⟨_, e1, e2, ?_⟩)
    rw [hp]
    exact ⟨41, #[], rfl, rfl, rfl⟩
  have o3 : (s.toList == (⟨#[119, 104, 111]⟩ : ByteArray).toList) = false := by rw [hx [119, 104, 111]]; simpa using h3
  by_cases h4 : (s.toList == [99, 97, 116]) = true
  · have o4 : (s.toList == (⟨#[99, 97, 116]⟩ : ByteArray).toList) = true := by rw [hx [99, 97, 116]]; exact h4
    have hp : progOf s = some .cat := by simp only [progOf, if_neg h0, if_neg h1, if_neg h2, if_neg h3, if_pos h4]
    refine Calls.mono (gives_end (B := B) [.e (.c (.str s))] [false, false, false, false, true] [] 200 [] (obs := [fun _ => (s.toList == (⟨#[116, 114, 117, 101]⟩ : ByteArray).toList) = false, fun _ => (s.toList == (⟨#[102, 97, 108, 115, 101]⟩ : ByteArray).toList) = false, fun _ => (s.toList == (⟨#[105, 100]⟩ : ByteArray).toList) = false, fun _ => (s.toList == (⟨#[119, 104, 111]⟩ : ByteArray).toList) = false, fun _ => (s.toList == (⟨#[99, 97, 116]⟩ : ByteArray).toList) = true]) (Q := fun _ => True) Tryz.func19 rfl rfl rfl (by kernel_rfl) (by kernel_rfl) (by kernel_rfl) (l := [.c (.f 42 [])]) (by kernel_rfl) ⟨o0, o1, o2, o3, o4, trivial⟩ rfl (fun _ _ => trivial)) (fun e w' ⟨e1, e2, _⟩ => ⟨_, e1, e2, ?_⟩)
    rw [hp]
    exact ⟨42, #[], rfl, rfl, rfl⟩
  have o4 : (s.toList == (⟨#[99, 97, 116]⟩ : ByteArray).toList) = false := by rw [hx [99, 97, 116]]; simpa using h4
  by_cases h5 : (s.toList == [109, 107, 100, 105, 114]) = true
  · have o5 : (s.toList == (⟨#[109, 107, 100, 105, 114]⟩ : ByteArray).toList) = true := by rw [hx [109, 107, 100, 105, 114]]; exact h5
    have hp : progOf s = some .mkdir := by simp only [progOf, if_neg h0, if_neg h1, if_neg h2, if_neg h3, if_neg h4, if_pos h5]
    refine enter (B := B) tab_ok [.e (.c (.str s))] [false, false, false, false, false, true] [] 200 Tryz.func19 rfl rfl rfl (obs := [fun _ => (s.toList == (⟨#[116, 114, 117, 101]⟩ : ByteArray).toList) = false, fun _ => (s.toList == (⟨#[102, 97, 108, 115, 101]⟩ : ByteArray).toList) = false, fun _ => (s.toList == (⟨#[105, 100]⟩ : ByteArray).toList) = false, fun _ => (s.toList == (⟨#[119, 104, 111]⟩ : ByteArray).toList) = false, fun _ => (s.toList == (⟨#[99, 97, 116]⟩ : ByteArray).toList) = false, fun _ => (s.toList == (⟨#[109, 107, 100, 105, 114]⟩ : ByteArray).toList) = true]) (by kernel_rfl) ⟨o0, o1, o2, o3, o4, o5, trivial⟩ (fun a1 w1 hc1 => ?_)
    have hn1 := (Over.env w _).rel hc1.mem
    refine gets_pure (c := ⟨43, [.c (.f 44 [])], [], #[]⟩) 16 (.e (.c (.fv 83 #[bp w1.heap.size]))) [] [] hc1 (by kernel_rfl) (by kernel_rfl) (by kernel_rfl) (by kernel_rfl) (simple_calls (B := B) w1 44 #[]) (by kernel_rfl) (by kernel_rfl) (fun a2 w2 hn2 hq2 hc2 => ?_)
    have hr2 := hc2.mem.bs (bs' := []) (by kernel_rfl)
    refine gets_run tab_ok 50 hc2 (holds_of (obs := []) (by kernel_rfl) trivial) (fun a3 w3 hc3 => ?_)
    have hn3 := hr2.same (hc3.mem.bs (bs' := []) (by kernel_rfl))
    refine gets_fin tab_ok (l := [.c (.fv 83 #[bp w1.heap.size])]) hc3 Tryz.func19 (by kernel_rfl) (by kernel_rfl) ⟨_, rfl, (hn1.trans hn2).trans hn3, ?_⟩
    rw [hp]
    exact ⟨83, _, rfl, rfl, _, rfl, Box.keep hq2 (hn3.keep B)⟩
  have o5 : (s.toList == (⟨#[109, 107, 100, 105, 114]⟩ : ByteArray).toList) = false := by rw [hx [109, 107, 100, 105, 114]]; simpa using h5
  by_cases h6 : (s.toList == [114, 109, 100, 105, 114]) = true
  · have o6 : (s.toList == (⟨#[114, 109, 100, 105, 114]⟩ : ByteArray).toList) = true := by rw [hx [114, 109, 100, 105, 114]]; exact h6
    have hp : progOf s = some .rmdir := by simp only [progOf, if_neg h0, if_neg h1, if_neg h2, if_neg h3, if_neg h4, if_neg h5, if_pos h6]
    refine enter (B := B) tab_ok [.e (.c (.str s))] [false, false, false, false, false, false, true] [] 200 Tryz.func19 rfl rfl rfl (obs := [fun _ => (s.toList == (⟨#[116, 114, 117, 101]⟩ : ByteArray).toList) = false, fun _ => (s.toList == (⟨#[102, 97, 108, 115, 101]⟩ : ByteArray).toList) = false, fun _ => (s.toList == (⟨#[105, 100]⟩ : ByteArray).toList) = false, fun _ => (s.toList == (⟨#[119, 104, 111]⟩ : ByteArray).toList) = false, fun _ => (s.toList == (⟨#[99, 97, 116]⟩ : ByteArray).toList) = false, fun _ => (s.toList == (⟨#[109, 107, 100, 105, 114]⟩ : ByteArray).toList) = false, fun _ => (s.toList == (⟨#[114, 109, 100, 105, 114]⟩ : ByteArray).toList) = true]) (by kernel_rfl) ⟨o0, o1, o2, o3, o4, o5, o6, trivial⟩ (fun a1 w1 hc1 => ?_)
    have hn1 := (Over.env w _).rel hc1.mem
    refine gets_pure (c := ⟨43, [.c (.f 45 [])], [], #[]⟩) 19 (.e (.c (.fv 83 #[bp w1.heap.size]))) [] [] hc1 (by kernel_rfl) (by kernel_rfl) (by kernel_rfl) (by kernel_rfl) (simple_calls (B := B) w1 45 #[]) (by kernel_rfl) (by kernel_rfl) (fun a2 w2 hn2 hq2 hc2 => ?_)
    have hr2 := hc2.mem.bs (bs' := []) (by kernel_rfl)
    refine gets_run tab_ok 50 hc2 (holds_of (obs := []) (by kernel_rfl) trivial) (fun a3 w3 hc3 => ?_)
    have hn3 := hr2.same (hc3.mem.bs (bs' := []) (by kernel_rfl))
    refine gets_fin tab_ok (l := [.c (.fv 83 #[bp w1.heap.size])]) hc3 Tryz.func19 (by kernel_rfl) (by kernel_rfl) ⟨_, rfl, (hn1.trans hn2).trans hn3, ?_⟩
    rw [hp]
    exact ⟨83, _, rfl, rfl, _, rfl, Box.keep hq2 (hn3.keep B)⟩
  have o6 : (s.toList == (⟨#[114, 109, 100, 105, 114]⟩ : ByteArray).toList) = false := by rw [hx [114, 109, 100, 105, 114]]; simpa using h6
  by_cases h7 : (s.toList == [114, 109]) = true
  · have o7 : (s.toList == (⟨#[114, 109]⟩ : ByteArray).toList) = true := by rw [hx [114, 109]]; exact h7
    have hp : progOf s = some .rm := by simp only [progOf, if_neg h0, if_neg h1, if_neg h2, if_neg h3, if_neg h4, if_neg h5, if_neg h6, if_pos h7]
    refine Calls.mono (gives_end (B := B) [.e (.c (.str s))] [false, false, false, false, false, false, false, true] [] 200 [] (obs := [fun _ => (s.toList == (⟨#[116, 114, 117, 101]⟩ : ByteArray).toList) = false, fun _ => (s.toList == (⟨#[102, 97, 108, 115, 101]⟩ : ByteArray).toList) = false, fun _ => (s.toList == (⟨#[105, 100]⟩ : ByteArray).toList) = false, fun _ => (s.toList == (⟨#[119, 104, 111]⟩ : ByteArray).toList) = false, fun _ => (s.toList == (⟨#[99, 97, 116]⟩ : ByteArray).toList) = false, fun _ => (s.toList == (⟨#[109, 107, 100, 105, 114]⟩ : ByteArray).toList) = false, fun _ => (s.toList == (⟨#[114, 109, 100, 105, 114]⟩ : ByteArray).toList) = false, fun _ => (s.toList == (⟨#[114, 109]⟩ : ByteArray).toList) = true]) (Q := fun _ => True) Tryz.func19 rfl rfl rfl (by kernel_rfl) (by kernel_rfl) (by kernel_rfl) (l := [.c (.f 46 [])]) (by kernel_rfl) ⟨o0, o1, o2, o3, o4, o5, o6, o7, trivial⟩ rfl (fun _ _ => trivial)) (fun e w' ⟨e1, e2, _⟩ => ⟨_, e1, e2, ?_⟩)
    rw [hp]
    exact ⟨46, #[], rfl, rfl, rfl⟩
  have o7 : (s.toList == (⟨#[114, 109]⟩ : ByteArray).toList) = false := by rw [hx [114, 109]]; simpa using h7
  by_cases h8 : (s.toList == [108, 110]) = true
  · have o8 : (s.toList == (⟨#[108, 110]⟩ : ByteArray).toList) = true := by rw [hx [108, 110]]; exact h8
    have hp : progOf s = some .ln := by simp only [progOf, if_neg h0, if_neg h1, if_neg h2, if_neg h3, if_neg h4, if_neg h5, if_neg h6, if_neg h7, if_pos h8]
    refine enter (B := B) tab_ok [.e (.c (.str s))] [false, false, false, false, false, false, false, false, true] [] 200 Tryz.func19 rfl rfl rfl (obs := [fun _ => (s.toList == (⟨#[116, 114, 117, 101]⟩ : ByteArray).toList) = false, fun _ => (s.toList == (⟨#[102, 97, 108, 115, 101]⟩ : ByteArray).toList) = false, fun _ => (s.toList == (⟨#[105, 100]⟩ : ByteArray).toList) = false, fun _ => (s.toList == (⟨#[119, 104, 111]⟩ : ByteArray).toList) = false, fun _ => (s.toList == (⟨#[99, 97, 116]⟩ : ByteArray).toList) = false, fun _ => (s.toList == (⟨#[109, 107, 100, 105, 114]⟩ : ByteArray).toList) = false, fun _ => (s.toList == (⟨#[114, 109, 100, 105, 114]⟩ : ByteArray).toList) = false, fun _ => (s.toList == (⟨#[114, 109]⟩ : ByteArray).toList) = false, fun _ => (s.toList == (⟨#[108, 110]⟩ : ByteArray).toList) = true]) (by kernel_rfl) ⟨o0, o1, o2, o3, o4, o5, o6, o7, o8, trivial⟩ (fun a1 w1 hc1 => ?_)
    have hn1 := (Over.env w _).rel hc1.mem
    refine gets_pure (c := ⟨48, [.c (.int .i64 12)], [], #[]⟩) 24 (.e (.c (.fv 96 #[bp w1.heap.size]))) [] [] hc1 (by kernel_rfl) (by kernel_rfl) (by kernel_rfl) (by kernel_rfl) (renames_calls (B := B) w1 12) (by kernel_rfl) (by kernel_rfl) (fun a2 w2 hn2 hq2 hc2 => ?_)
    have hr2 := hc2.mem.bs (bs' := []) (by kernel_rfl)
    have hov := (Over.env w (sro B w)).next hc1.mem hn2 (sro B w)
    refine gets_pure (c := ⟨47, [.c (.fv 96 #[bp w1.heap.size])], [], #[]⟩) 25 (.e (.c (.fv 91 #[bp w2.heap.size]))) [] [] hc2 (by kernel_rfl) (by kernel_rfl) (by kernel_rfl) (by kernel_rfl) (places_calls (B := B) w2 96 _) (by kernel_rfl) (by kernel_rfl) (fun a3 w3 hn3 hq3 hc3 => ?_)
    have hr3 := hc3.mem.bs (bs' := []) (by kernel_rfl)
    refine gets_run tab_ok 50 hc3 (holds_of (obs := []) (by kernel_rfl) trivial) (fun a4 w4 hc4 => ?_)
    have hn4 := hr3.same (hc4.mem.bs (bs' := []) (by kernel_rfl))
    refine gets_fin tab_ok (l := [.c (.fv 91 #[bp w2.heap.size])]) hc4 Tryz.func19 (by kernel_rfl) (by kernel_rfl) ⟨_, rfl, ((hn1.trans hn2).trans hn3).trans hn4, ?_⟩
    rw [hp]
    exact ⟨91, _, rfl, rfl, _, 96, _, rfl, Box.keep hq3 (hn4.keep B), rfl, _, rfl, Box.keep hq2 ((hn3.trans hn4).keep B)⟩
  have o8 : (s.toList == (⟨#[108, 110]⟩ : ByteArray).toList) = false := by rw [hx [108, 110]]; simpa using h8
  by_cases h9 : (s.toList == [109, 118]) = true
  · have o9 : (s.toList == (⟨#[109, 118]⟩ : ByteArray).toList) = true := by rw [hx [109, 118]]; exact h9
    have hp : progOf s = some .mv := by simp only [progOf, if_neg h0, if_neg h1, if_neg h2, if_neg h3, if_neg h4, if_neg h5, if_neg h6, if_neg h7, if_neg h8, if_pos h9]
    refine enter (B := B) tab_ok [.e (.c (.str s))] [false, false, false, false, false, false, false, false, false, true] [] 200 Tryz.func19 rfl rfl rfl (obs := [fun _ => (s.toList == (⟨#[116, 114, 117, 101]⟩ : ByteArray).toList) = false, fun _ => (s.toList == (⟨#[102, 97, 108, 115, 101]⟩ : ByteArray).toList) = false, fun _ => (s.toList == (⟨#[105, 100]⟩ : ByteArray).toList) = false, fun _ => (s.toList == (⟨#[119, 104, 111]⟩ : ByteArray).toList) = false, fun _ => (s.toList == (⟨#[99, 97, 116]⟩ : ByteArray).toList) = false, fun _ => (s.toList == (⟨#[109, 107, 100, 105, 114]⟩ : ByteArray).toList) = false, fun _ => (s.toList == (⟨#[114, 109, 100, 105, 114]⟩ : ByteArray).toList) = false, fun _ => (s.toList == (⟨#[114, 109]⟩ : ByteArray).toList) = false, fun _ => (s.toList == (⟨#[108, 110]⟩ : ByteArray).toList) = false, fun _ => (s.toList == (⟨#[109, 118]⟩ : ByteArray).toList) = true]) (by kernel_rfl) ⟨o0, o1, o2, o3, o4, o5, o6, o7, o8, o9, trivial⟩ (fun a1 w1 hc1 => ?_)
    have hn1 := (Over.env w _).rel hc1.mem
    refine gets_pure (c := ⟨48, [.c (.int .i64 13)], [], #[]⟩) 28 (.e (.c (.fv 96 #[bp w1.heap.size]))) [] [] hc1 (by kernel_rfl) (by kernel_rfl) (by kernel_rfl) (by kernel_rfl) (renames_calls (B := B) w1 13) (by kernel_rfl) (by kernel_rfl) (fun a2 w2 hn2 hq2 hc2 => ?_)
    have hr2 := hc2.mem.bs (bs' := []) (by kernel_rfl)
    have hov := (Over.env w (sro B w)).next hc1.mem hn2 (sro B w)
    refine gets_pure (c := ⟨47, [.c (.fv 96 #[bp w1.heap.size])], [], #[]⟩) 29 (.e (.c (.fv 91 #[bp w2.heap.size]))) [] [] hc2 (by kernel_rfl) (by kernel_rfl) (by kernel_rfl) (by kernel_rfl) (places_calls (B := B) w2 96 _) (by kernel_rfl) (by kernel_rfl) (fun a3 w3 hn3 hq3 hc3 => ?_)
    have hr3 := hc3.mem.bs (bs' := []) (by kernel_rfl)
    refine gets_run tab_ok 50 hc3 (holds_of (obs := []) (by kernel_rfl) trivial) (fun a4 w4 hc4 => ?_)
    have hn4 := hr3.same (hc4.mem.bs (bs' := []) (by kernel_rfl))
    refine gets_fin tab_ok (l := [.c (.fv 91 #[bp w2.heap.size])]) hc4 Tryz.func19 (by kernel_rfl) (by kernel_rfl) ⟨_, rfl, ((hn1.trans hn2).trans hn3).trans hn4, ?_⟩
    rw [hp]
    exact ⟨91, _, rfl, rfl, _, 96, _, rfl, Box.keep hq3 (hn4.keep B), rfl, _, rfl, Box.keep hq2 ((hn3.trans hn4).keep B)⟩
  have o9 : (s.toList == (⟨#[109, 118]⟩ : ByteArray).toList) = false := by rw [hx [109, 118]]; simpa using h9
  by_cases h10 : (s.toList == [99, 112]) = true
  · have o10 : (s.toList == (⟨#[99, 112]⟩ : ByteArray).toList) = true := by rw [hx [99, 112]]; exact h10
    have hp : progOf s = some .cp := by simp only [progOf, if_neg h0, if_neg h1, if_neg h2, if_neg h3, if_neg h4, if_neg h5, if_neg h6, if_neg h7, if_neg h8, if_neg h9, if_pos h10]
    refine enter (B := B) tab_ok [.e (.c (.str s))] [false, false, false, false, false, false, false, false, false, false, true] [] 200 Tryz.func19 rfl rfl rfl (obs := [fun _ => (s.toList == (⟨#[116, 114, 117, 101]⟩ : ByteArray).toList) = false, fun _ => (s.toList == (⟨#[102, 97, 108, 115, 101]⟩ : ByteArray).toList) = false, fun _ => (s.toList == (⟨#[105, 100]⟩ : ByteArray).toList) = false, fun _ => (s.toList == (⟨#[119, 104, 111]⟩ : ByteArray).toList) = false, fun _ => (s.toList == (⟨#[99, 97, 116]⟩ : ByteArray).toList) = false, fun _ => (s.toList == (⟨#[109, 107, 100, 105, 114]⟩ : ByteArray).toList) = false, fun _ => (s.toList == (⟨#[114, 109, 100, 105, 114]⟩ : ByteArray).toList) = false, fun _ => (s.toList == (⟨#[114, 109]⟩ : ByteArray).toList) = false, fun _ => (s.toList == (⟨#[108, 110]⟩ : ByteArray).toList) = false, fun _ => (s.toList == (⟨#[109, 118]⟩ : ByteArray).toList) = false, fun _ => (s.toList == (⟨#[99, 112]⟩ : ByteArray).toList) = true]) (by kernel_rfl) ⟨o0, o1, o2, o3, o4, o5, o6, o7, o8, o9, o10, trivial⟩ (fun a1 w1 hc1 => ?_)
    have hn1 := (Over.env w _).rel hc1.mem
    refine gets_pure (c := ⟨47, [.c (.f 49 [])], [], #[]⟩) 32 (.e (.c (.fv 91 #[bp w1.heap.size]))) [] [] hc1 (by kernel_rfl) (by kernel_rfl) (by kernel_rfl) (by kernel_rfl) (places_calls (B := B) w1 49 #[]) (by kernel_rfl) (by kernel_rfl) (fun a2 w2 hn2 hq2 hc2 => ?_)
    have hr2 := hc2.mem.bs (bs' := []) (by kernel_rfl)
    refine gets_run tab_ok 50 hc2 (holds_of (obs := []) (by kernel_rfl) trivial) (fun a3 w3 hc3 => ?_)
    have hn3 := hr2.same (hc3.mem.bs (bs' := []) (by kernel_rfl))
    refine gets_fin tab_ok (l := [.c (.fv 91 #[bp w1.heap.size])]) hc3 Tryz.func19 (by kernel_rfl) (by kernel_rfl) ⟨_, rfl, (hn1.trans hn2).trans hn3, ?_⟩
    rw [hp]
    exact ⟨91, _, rfl, rfl, _, 49, #[], rfl, Box.keep hq2 (hn3.keep B), rfl, rfl⟩
  have o10 : (s.toList == (⟨#[99, 112]⟩ : ByteArray).toList) = false := by rw [hx [99, 112]]; simpa using h10
  by_cases h11 : (s.toList == [99, 104, 109, 111, 100]) = true
  · have o11 : (s.toList == (⟨#[99, 104, 109, 111, 100]⟩ : ByteArray).toList) = true := by rw [hx [99, 104, 109, 111, 100]]; exact h11
    have hp : progOf s = some .chmod := by simp only [progOf, if_neg h0, if_neg h1, if_neg h2, if_neg h3, if_neg h4, if_neg h5, if_neg h6, if_neg h7, if_neg h8, if_neg h9, if_neg h10, if_pos h11]
    refine Calls.mono (gives_end (B := B) [.e (.c (.str s))] [false, false, false, false, false, false, false, false, false, false, false, true] [] 200 [] (obs := [fun _ => (s.toList == (⟨#[116, 114, 117, 101]⟩ : ByteArray).toList) = false, fun _ => (s.toList == (⟨#[102, 97, 108, 115, 101]⟩ : ByteArray).toList) = false, fun _ => (s.toList == (⟨#[105, 100]⟩ : ByteArray).toList) = false, fun _ => (s.toList == (⟨#[119, 104, 111]⟩ : ByteArray).toList) = false, fun _ => (s.toList == (⟨#[99, 97, 116]⟩ : ByteArray).toList) = false, fun _ => (s.toList == (⟨#[109, 107, 100, 105, 114]⟩ : ByteArray).toList) = false, fun _ => (s.toList == (⟨#[114, 109, 100, 105, 114]⟩ : ByteArray).toList) = false, fun _ => (s.toList == (⟨#[114, 109]⟩ : ByteArray).toList) = false, fun _ => (s.toList == (⟨#[108, 110]⟩ : ByteArray).toList) = false, fun _ => (s.toList == (⟨#[109, 118]⟩ : ByteArray).toList) = false, fun _ => (s.toList == (⟨#[99, 112]⟩ : ByteArray).toList) = false, fun _ => (s.toList == (⟨#[99, 104, 109, 111, 100]⟩ : ByteArray).toList) = true]) (Q := fun _ => True) Tryz.func19 rfl rfl rfl (by kernel_rfl) (by kernel_rfl) (by kernel_rfl) (l := [.c (.f 50 [])]) (by kernel_rfl) ⟨o0, o1, o2, o3, o4, o5, o6, o7, o8, o9, o10, o11, trivial⟩ rfl (fun _ _ => trivial)) (fun e w' ⟨e1, e2, _⟩ => ⟨_, e1, e2, ?_⟩)
    rw [hp]
    exact ⟨50, #[], rfl, rfl, rfl⟩
  have o11 : (s.toList == (⟨#[99, 104, 109, 111, 100]⟩ : ByteArray).toList) = false := by rw [hx [99, 104, 109, 111, 100]]; simpa using h11
  by_cases h12 : (s.toList == [99, 104, 111, 119, 110]) = true
  · have o12 : (s.toList == (⟨#[99, 104, 111, 119, 110]⟩ : ByteArray).toList) = true := by rw [hx [99, 104, 111, 119, 110]]; exact h12
    have hp : progOf s = some .chown := by simp only [progOf, if_neg h0, if_neg h1, if_neg h2, if_neg h3, if_neg h4, if_neg h5, if_neg h6, if_neg h7, if_neg h8, if_neg h9, if_neg h10, if_neg h11, if_pos h12]
    refine Calls.mono (gives_end (B := B) [.e (.c (.str s))] [false, false, false, false, false, false, false, false, false, false, false, false, true] [] 200 [] (obs := [fun _ => (s.toList == (⟨#[116, 114, 117, 101]⟩ : ByteArray).toList) = false, fun _ => (s.toList == (⟨#[102, 97, 108, 115, 101]⟩ : ByteArray).toList) = false, fun _ => (s.toList == (⟨#[105, 100]⟩ : ByteArray).toList) = false, fun _ => (s.toList == (⟨#[119, 104, 111]⟩ : ByteArray).toList) = false, fun _ => (s.toList == (⟨#[99, 97, 116]⟩ : ByteArray).toList) = false, fun _ => (s.toList == (⟨#[109, 107, 100, 105, 114]⟩ : ByteArray).toList) = false, fun _ => (s.toList == (⟨#[114, 109, 100, 105, 114]⟩ : ByteArray).toList) = false, fun _ => (s.toList == (⟨#[114, 109]⟩ : ByteArray).toList) = false, fun _ => (s.toList == (⟨#[108, 110]⟩ : ByteArray).toList) = false, fun _ => (s.toList == (⟨#[109, 118]⟩ : ByteArray).toList) = false, fun _ => (s.toList == (⟨#[99, 112]⟩ : ByteArray).toList) = false, fun _ => (s.toList == (⟨#[99, 104, 109, 111, 100]⟩ : ByteArray).toList) = false, fun _ => (s.toList == (⟨#[99, 104, 111, 119, 110]⟩ : ByteArray).toList) = true]) (Q := fun _ => True) Tryz.func19 rfl rfl rfl (by kernel_rfl) (by kernel_rfl) (by kernel_rfl) (l := [.c (.f 51 [])]) (by kernel_rfl) ⟨o0, o1, o2, o3, o4, o5, o6, o7, o8, o9, o10, o11, o12, trivial⟩ rfl (fun _ _ => trivial)) (fun e w' ⟨e1, e2, _⟩ => ⟨_, e1, e2, ?_⟩)
    rw [hp]
    exact ⟨51, #[], rfl, rfl, rfl⟩
  have o12 : (s.toList == (⟨#[99, 104, 111, 119, 110]⟩ : ByteArray).toList) = false := by rw [hx [99, 104, 111, 119, 110]]; simpa using h12
  by_cases h13 : (s.toList == [108, 115]) = true
  · have o13 : (s.toList == (⟨#[108, 115]⟩ : ByteArray).toList) = true := by rw [hx [108, 115]]; exact h13
    have hp : progOf s = some .ls := by simp only [progOf, if_neg h0, if_neg h1, if_neg h2, if_neg h3, if_neg h4, if_neg h5, if_neg h6, if_neg h7, if_neg h8, if_neg h9, if_neg h10, if_neg h11, if_neg h12, if_pos h13]
    refine Calls.mono (gives_end (B := B) [.e (.c (.str s))] [false, false, false, false, false, false, false, false, false, false, false, false, false, true] [] 200 [] (obs := [fun _ => (s.toList == (⟨#[116, 114, 117, 101]⟩ : ByteArray).toList) = false, fun _ => (s.toList == (⟨#[102, 97, 108, 115, 101]⟩ : ByteArray).toList) = false, fun _ => (s.toList == (⟨#[105, 100]⟩ : ByteArray).toList) = false, fun _ => (s.toList == (⟨#[119, 104, 111]⟩ : ByteArray).toList) = false, fun _ => (s.toList == (⟨#[99, 97, 116]⟩ : ByteArray).toList) = false, fun _ => (s.toList == (⟨#[109, 107, 100, 105, 114]⟩ : ByteArray).toList) = false, fun _ => (s.toList == (⟨#[114, 109, 100, 105, 114]⟩ : ByteArray).toList) = false, fun _ => (s.toList == (⟨#[114, 109]⟩ : ByteArray).toList) = false, fun _ => (s.toList == (⟨#[108, 110]⟩ : ByteArray).toList) = false, fun _ => (s.toList == (⟨#[109, 118]⟩ : ByteArray).toList) = false, fun _ => (s.toList == (⟨#[99, 112]⟩ : ByteArray).toList) = false, fun _ => (s.toList == (⟨#[99, 104, 109, 111, 100]⟩ : ByteArray).toList) = false, fun _ => (s.toList == (⟨#[99, 104, 111, 119, 110]⟩ : ByteArray).toList) = false, fun _ => (s.toList == (⟨#[108, 115]⟩ : ByteArray).toList) = true]) (Q := fun _ => True) Tryz.func19 rfl rfl rfl (by kernel_rfl) (by kernel_rfl) (by kernel_rfl) (l := [.c (.f 52 [])]) (by kernel_rfl) ⟨o0, o1, o2, o3, o4, o5, o6, o7, o8, o9, o10, o11, o12, o13, trivial⟩ rfl (fun _ _ => trivial)) (fun e w' ⟨e1, e2, _⟩ => ⟨_, e1, e2, ?_⟩)
    rw [hp]
    exact ⟨52, #[], rfl, rfl, rfl⟩
  have o13 : (s.toList == (⟨#[108, 115]⟩ : ByteArray).toList) = false := by rw [hx [108, 115]]; simpa using h13
  have hp : progOf s = none := by simp only [progOf, if_neg h0, if_neg h1, if_neg h2, if_neg h3, if_neg h4, if_neg h5, if_neg h6, if_neg h7, if_neg h8, if_neg h9, if_neg h10, if_neg h11, if_neg h12, if_neg h13]
  refine Calls.mono (gives_end (B := B) [.e (.c (.str s))] [false, false, false, false, false, false, false, false, false, false, false, false, false, false] [] 200 [] (obs := [fun _ => (s.toList == (⟨#[116, 114, 117, 101]⟩ : ByteArray).toList) = false, fun _ => (s.toList == (⟨#[102, 97, 108, 115, 101]⟩ : ByteArray).toList) = false, fun _ => (s.toList == (⟨#[105, 100]⟩ : ByteArray).toList) = false, fun _ => (s.toList == (⟨#[119, 104, 111]⟩ : ByteArray).toList) = false, fun _ => (s.toList == (⟨#[99, 97, 116]⟩ : ByteArray).toList) = false, fun _ => (s.toList == (⟨#[109, 107, 100, 105, 114]⟩ : ByteArray).toList) = false, fun _ => (s.toList == (⟨#[114, 109, 100, 105, 114]⟩ : ByteArray).toList) = false, fun _ => (s.toList == (⟨#[114, 109]⟩ : ByteArray).toList) = false, fun _ => (s.toList == (⟨#[108, 110]⟩ : ByteArray).toList) = false, fun _ => (s.toList == (⟨#[109, 118]⟩ : ByteArray).toList) = false, fun _ => (s.toList == (⟨#[99, 112]⟩ : ByteArray).toList) = false, fun _ => (s.toList == (⟨#[99, 104, 109, 111, 100]⟩ : ByteArray).toList) = false, fun _ => (s.toList == (⟨#[99, 104, 111, 119, 110]⟩ : ByteArray).toList) = false, fun _ => (s.toList == (⟨#[108, 115]⟩ : ByteArray).toList) = false]) (Q := fun _ => True) Tryz.func19 rfl rfl rfl (by kernel_rfl) (by kernel_rfl) (by kernel_rfl) (l := [.c .nilf]) (by kernel_rfl) ⟨o0, o1, o2, o3, o4, o5, o6, o7, o8, o9, o10, o11, o12, o13, trivial⟩ rfl (fun _ _ => trivial)) (fun e w' ⟨e1, e2, _⟩ => ⟨_, e1, e2, ?_⟩)
  rw [hp]
  exact rfl

end Go.Proofs.YtoihipolfdhhnaaGreatDoor
