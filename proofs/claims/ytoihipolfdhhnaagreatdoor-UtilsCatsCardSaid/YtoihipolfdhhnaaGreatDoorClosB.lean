/-
  The contracts of the functions that say, complain, try.
-/
import Derived.Test.YtoihipolfdhhnaaGreatDoorTail
import Derived.Laws.Strings
namespace Go.Proofs.YtoihipolfdhhnaaGreatDoor

/-- What a step's closure does. -/
abbrev KCalls (B : Bd) (b : Nat) (w : World) (f : FuncId) (c : Array Value) (m m' : M) : Prop :=
  ∀ w', Keep B w w' → MOk B w' b m → Calls Tryz.prog f (#[bp b] ++ c) w' (Does B b w' m')

theorem RepF.enters {B : Bd} {w : World} {k : Fn} {f : FuncId} {c : Array Value} (h : RepF B w k f c) : enters Tryz.prog f = true := by
  cases k <;> (obtain ⟨rfl, _⟩ := h; kernel_rfl)
theorem RepR.enters {B : Bd} {w : World} {k : Rn} {f : FuncId} {c : Array Value} (h : RepR B w k f c) : enters Tryz.prog f = true := by
  cases k with
  | noop g => obtain ⟨rfl, h, _⟩ := h; rcases h with rfl | rfl | rfl | rfl | rfl <;> kernel_rfl
  | _ => obtain ⟨rfl, _⟩ := h; kernel_rfl
theorem RepE.enters {B : Bd} {w : World} {k : Ef} {f : FuncId} {c : Array Value} (h : RepE B w k f c) : enters Tryz.prog f = true := by
  cases k <;> (obtain ⟨rfl, _⟩ := h; kernel_rfl)
theorem RepD.enters {w : World} {k : Dp} {f : FuncId} {c : Array Value} (h : RepD w k f c) : enters Tryz.prog f = true := by
  cases k <;> (obtain ⟨rfl, _⟩ := h; kernel_rfl)
theorem RepB.enters {w : World} {k : Bring} {f : FuncId} {c : Array Value} (h : RepB w k f c) : enters Tryz.prog f = true := by
  cases k <;> (obtain ⟨rfl, _⟩ := h; kernel_rfl)

theorem MOk.le {B : Bd} {w : World} {b : Nat} {m : M} (h : MOk B w b m) : B ≤ w.heap.size := by
  obtain ⟨a, n, c, th, row, h⟩ := h
  have := h.base
  have := lt_of_block h.cells
  omega

/-- Say, of an empty text. -/
theorem say_empty {B : Bd} {w : World} {b : Nat} {m m' : M} (hm : MOk B w b m) (fd : Int) (f : FuncId) (c : Array Value) (he : enters Tryz.prog f = true) (ht : KCalls B b w f c m m') :
    Calls Tryz.prog 72 #[bp b, .int .i64 fd, .string ⟨#[]⟩, .func (.func f) #[] c] w (Does B b w m') := by
  refine does_tail [.e (.c (.rp ⟨b, 0, none⟩)), .e (.c (.int .i64 fd)), .e (.c (.str ⟨#[]⟩)), .e (.c (.fv f c))] [true] [] 40 [⟨3, [.int .i64 fd]⟩, ⟨9, [.str ⟨#[]⟩]⟩, ⟨67, [.fv f c]⟩]
    ⟨f, [.c (.rp ⟨b, 0, none⟩)], [], c⟩ (obs := [fun _ => ((⟨#[]⟩ : ByteArray).toList == []) = true]) hm Tryz.func72 rfl rfl rfl (by kernel_rfl) (by kernel_rfl) (by kernel_rfl) (by kernel_rfl) rfl he ⟨by rw [ByteArray.toList_eq]; rfl, trivial⟩ (fun w1 _ hm1 hk1 => ?_)
  have := ht w1 hk1 hm1
  simpa [CallX.real, E.real, C.real] using this

/-- Complain. -/
theorem complain_calls {B : Bd} {w : World} {b : Nat} {m : M} (hm : MOk B w b m) (text : ByteArray) (hs : m.prog.size + text.size + 3 ≤ 9223372036854775807) (t : Fn) (f : FuncId) (c : Array Value) (hk : RepF B w t f c) :
    Calls Tryz.prog 133 #[bp b, .string text, .func (.func f) #[] c] w (Does B b w (m.complain text t)) := by
  have hm0 := hm
  obtain ⟨a, n, cp, th, row, hm⟩ := hm
  refine calls_exec [.e (.c (.p 0 0)), .e (.c (.str text)), .e (.c (.fv f c))] [b] [⟨66, mcells m.prog m.status a n cp (thnC th) m.call m.over⟩] noRo Tryz.func133 rfl rfl rfl (hm.rel noRo (fun _ _ h => by cases h)) ?_
  intro a0 hc
  refine gets_run tab_ok 40 hc (holds_of (obs := [fun _ => ((m.prog.size + (⟨#[58, 32]⟩ : ByteArray).size : Nat) : Int) ≤ 9223372036854775807, fun _ => (((m.prog ++ ⟨#[58, 32]⟩).size + text.size : Nat) : Int) ≤ 9223372036854775807, fun _ => (((m.prog ++ ⟨#[58, 32]⟩ ++ text).size + (⟨#[10]⟩ : ByteArray).size : Nat) : Int) ≤ 9223372036854775807]) (by kernel_rfl) ?_) (fun a1 w1 hc1 => ?_)
  · have h1 : (⟨#[58, 32]⟩ : ByteArray).size = 2 := rfl
    have h2 : (⟨#[10]⟩ : ByteArray).size = 1 := rfl
    simp only [AllP, ByteArray.size_append, h1, h2, and_true]
    omega
  have hbs : (run Tab Tryz.f133.ntmps 40 (code Tryz.f133) { tl := tlOf 0 [.e (.c (.p 0 0)), .e (.c (.str text)), .e (.c (.fv f c))], bs := [⟨66, mcells m.prog m.status a n cp (thnC th) m.call m.over⟩] }).2.bs = [⟨66, mcells m.prog m.status a n cp (thnC th) m.call m.over⟩] := by kernel_rfl
  have hmem := hc1.mem
  rw [hbs] at hmem
  obtain ⟨hm1, he1⟩ := hm.after hmem rfl rfl (thn_keep hm.thn ((evo_of_rel hm hmem rfl).keep hm0))
  refine gets_tail (fun w' => MOk B w' b (m.complain text t) ∧ Evo w1 b w') (c := ⟨72, [.c (.p 0 0), .c (.int .i64 2), .c (.str (m.prog ++ ⟨#[58, 32]⟩ ++ text ++ ⟨#[10]⟩)), .c (.fv f c)], [], #[]⟩) hc1 (by kernel_rfl) (by kernel_rfl) ?_ Tryz.func133 rfl (by kernel_rfl) (fun w' h => ⟨rfl, h.1, he1.trans h.2⟩)
  refine say_calls hm1 2 _ ?_ t f c (hk.keep (he1.keep hm0))
  rw [ByteArray.toList_eq]
  simp

/-- Bad's end: a program that is called wrong. -/
theorem exit1_calls {B : Bd} {w : World} {b : Nat} {m : M} (hm : MOk B w b m) : Calls Tryz.prog 134 #[bp b] w (Does B b w (m.exit 1)) := by
  refine does_tail [.e (.c (.rp ⟨b, 0, none⟩))] [] [] 40 [] ⟨24, [.c (.rp ⟨b, 0, none⟩), .c (.int .i64 1)], [], #[]⟩ (obs := []) hm Tryz.func134 rfl rfl rfl (by kernel_rfl) (by kernel_rfl) (by kernel_rfl) (by kernel_rfl) rfl (by kernel_rfl) trivial (fun w1 _ hm1 _ => ?_)
  exact exit_calls hm1 1

theorem wrong_calls {B : Bd} {w : World} {b : Nat} {m : M} (hm : MOk B w b m) (hs : m.prog.size ≤ 1152921504606846976) : Calls Tryz.prog 84 #[bp b] w (Does B b w m.wrong) := by
  refine does_tail [.e (.c (.rp ⟨b, 0, none⟩))] [] [] 40 [] ⟨133, [.c (.rp ⟨b, 0, none⟩), .c (.str ⟨#[119, 114, 111, 110, 103]⟩), .c (.f 134 [])], [], #[]⟩ (obs := []) hm Tryz.func84 rfl rfl rfl (by kernel_rfl) (by kernel_rfl) (by kernel_rfl) (by kernel_rfl) rfl (by kernel_rfl) trivial (fun w1 _ hm1 _ => ?_)
  exact complain_calls hm1 _ (by have : (⟨#[119, 114, 111, 110, 103]⟩ : ByteArray).size = 5 := rfl; omega) .exit1 134 #[] ⟨rfl, rfl⟩

/-- Tries. -/
theorem tries_calls {B : Bd} {w : World} {b : Nat} {m : M} (hm : MOk B w b m) (cd : CallD) (p : ByteArray) (t : Rn) (f : FuncId) (c : Array Value) (hk : RepR B w t f c) :
    Calls Tryz.prog 80 #[bp b, .agg (plainR cd.cs), .string p, .func (.func f) #[] c] w (Does B b w (m.tries cd p t)) := by
  refine does_tail [.e (.c (.rp ⟨b, 0, none⟩)), .e (.a cd.cs), .e (.c (.str p)), .e (.c (.fv f c))] [] [] 40 [⟨39, cd.cs⟩, ⟨9, [.str p]⟩, ⟨64, [.fv f c]⟩]
    ⟨69, [.c (.rp ⟨b, 0, none⟩), .a cd.cs, .c (.f 130 [.n 1 0, .n 2 0])], [], #[]⟩ (obs := []) hm Tryz.func80 rfl rfl rfl (by kernel_rfl) (by kernel_rfl) (by kernel_rfl) (by kernel_rfl) rfl (by kernel_rfl) trivial (fun w1 hr1 hm1 hk1 => ?_)
  exact sys_calls hm1 cd (.tries p t) 130 _ ⟨rfl, w.heap.size + 1, w.heap.size + 2, f, c, rfl, box_of hr1 (i := 1) rfl rfl rfl, box_of hr1 (i := 2) rfl rfl rfl, hk.keep hk1⟩

/-- Pours. -/
theorem pours_calls {B : Bd} {w : World} {b : Nat} {m : M} (hm : MOk B w b m) (s d : Int) (t : Fn) (f : FuncId) (c : Array Value) (hk : RepF B w t f c) :
    Calls Tryz.prog 79 #[bp b, .int .i64 s, .int .i64 d, .func (.func f) #[] c] w (Does B b w (m.pours s d t)) := by
  refine does_tail [.e (.c (.rp ⟨b, 0, none⟩)), .e (.c (.int .i64 s)), .e (.c (.int .i64 d)), .e (.c (.fv f c))] [] [] 40 [⟨3, [.int .i64 s]⟩, ⟨3, [.int .i64 d]⟩, ⟨67, [.fv f c]⟩]
    ⟨69, [.c (.rp ⟨b, 0, none⟩), .a ({ op := 4, fd := s, n := 256 } : CallD).cs, .c (.f 128 [.n 2 0, .n 1 0, .n 0 0])], [], #[]⟩ (obs := []) hm Tryz.func79 rfl rfl rfl (by kernel_rfl) (by kernel_rfl) (by kernel_rfl) (by kernel_rfl) rfl (by kernel_rfl) trivial (fun w1 hr1 hm1 hk1 => ?_)
  exact sys_calls hm1 { op := 4, fd := s, n := 256 } (.pours s d t) 128 _ ⟨rfl, w.heap.size + 2, w.heap.size + 1, w.heap.size, f, c, rfl, box_of hr1 (i := 2) rfl rfl rfl, hk.keep hk1, box_of hr1 (i := 1) rfl rfl rfl, box_of hr1 (i := 0) rfl rfl rfl⟩

theorem pours11_calls {B : Bd} {w : World} {b : Nat} {m : M} (hm : MOk B w b m) (s d : Int) (t : Fn) (f : FuncId) (c : Array Value) (hk : RepF B w (.pours s d t) f c) :
    Calls Tryz.prog f (#[bp b] ++ c) w (Does B b w (m.pours s d t)) := by
  obtain ⟨rfl, k1, k2, k3, tf, tc, rfl, h1, h2, h3, h4⟩ := hk
  refine does_tail [.e (.c (.rp ⟨b, 0, none⟩)), .e (.c (.rp ⟨k1, 0, none⟩)), .e (.c (.rp ⟨k2, 0, none⟩)), .e (.c (.rp ⟨k3, 0, none⟩))] [] [.e (.c (.int .i64 s)), .e (.c (.int .i64 d)), .e (.c (.fv tf tc))] 40 []
    ⟨79, [.c (.rp ⟨b, 0, none⟩), .c (.int .i64 s), .c (.int .i64 d), .c (.fv tf tc)], [], #[]⟩ (obs := [fun ε => ε.ro ⟨k1, 0, none⟩ = some (.int .i64 s), fun ε => ε.ro ⟨k2, 0, none⟩ = some (.int .i64 d), fun ε => ε.ro ⟨k3, 0, none⟩ = some (.func (.func tf) #[] tc)])
    hm Tryz.func129 rfl rfl rfl (by kernel_rfl) (by kernel_rfl) (by kernel_rfl) (by kernel_rfl) rfl (by kernel_rfl) ⟨Box.sro h1, Box.sro h2, Box.sro h3, trivial⟩ (fun w1 hr1 hm1 hk1 => ?_)
  exact pours_calls hm1 s d t tf tc (h4.keep hk1)

end Go.Proofs.YtoihipolfdhhnaaGreatDoor
