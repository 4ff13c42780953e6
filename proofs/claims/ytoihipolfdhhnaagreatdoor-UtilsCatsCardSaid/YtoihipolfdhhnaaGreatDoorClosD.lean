/-
  The contracts of api.Say, bad, tries$1, pours$1, closes, each. Printed in part by wip/tools/clos_d.py.
-/
import Derived.Test.YtoihipolfdhhnaaGreatDoorClosC
import Derived.Test.YtoihipolfdhhnaaGreatDoorPure
namespace Go.Proofs.YtoihipolfdhhnaaGreatDoor

theorem apiSay_calls {B : Bd} (w : World) (e : Int) : Calls Tryz.prog 118 #[.int .i64 e] w (Gives (.string (apiSay e)) (fun _ => True) w) := by
  unfold apiSay
  by_cases h0 : e = 0
  · subst h0
    exact gives_end (B := B) [.e (.c (.int .i64 0))] [true] [] 200 [] (obs := [fun _ => ((0 : Int) == 0) = true]) Tryz.func118 rfl rfl rfl (by kernel_rfl) (by kernel_rfl) (by kernel_rfl) (l := [.c (.str _)]) (by kernel_rfl) ⟨rfl, trivial⟩ rfl (fun _ _ => trivial)
  by_cases h1 : e = 2
  · subst h1
    exact gives_end (B := B) [.e (.c (.int .i64 2))] [false, true] [] 200 [] (obs := [fun _ => ((2 : Int) == 0) = false, fun _ => ((2 : Int) == 2) = true]) Tryz.func118 rfl rfl rfl (by kernel_rfl) (by kernel_rfl) (by kernel_rfl) (l := [.c (.str _)]) (by kernel_rfl) ⟨rfl, rfl, trivial⟩ rfl (fun _ _ => trivial)
  by_cases h2 : e = 3
  · subst h2
    exact gives_end (B := B) [.e (.c (.int .i64 3))] [false, false, true] [] 200 [] (obs := [fun _ => ((3 : Int) == 0) = false, fun _ => ((3 : Int) == 2) = false, fun _ => ((3 : Int) == 3) = true]) Tryz.func118 rfl rfl rfl (by kernel_rfl) (by kernel_rfl) (by kernel_rfl) (l := [.c (.str _)]) (by kernel_rfl) ⟨rfl, rfl, rfl, trivial⟩ rfl (fun _ _ => trivial)
  by_cases h3 : e = 4
  · subst h3
    exact gives_end (B := B) [.e (.c (.int .i64 4))] [false, false, false, true] [] 200 [] (obs := [fun _ => ((4 : Int) == 0) = false, fun _ => ((4 : Int) == 2) = false, fun _ => ((4 : Int) == 3) = false, fun _ => ((4 : Int) == 4) = true]) Tryz.func118 rfl rfl rfl (by kernel_rfl) (by kernel_rfl) (by kernel_rfl) (l := [.c (.str _)]) (by kernel_rfl) ⟨rfl, rfl, rfl, rfl, trivial⟩ rfl (fun _ _ => trivial)
  by_cases h4 : e = 5
  · subst h4
    exact gives_end (B := B) [.e (.c (.int .i64 5))] [false, false, false, false, true] [] 200 [] (obs := [fun _ => ((5 : Int) == 0) = false, fun _ => ((5 : Int) == 2) = false, fun _ => ((5 : Int) == 3) = false, fun _ => ((5 : Int) == 4) = false, fun _ => ((5 : Int) == 5) = true]) Tryz.func118 rfl rfl rfl (by kernel_rfl) (by kernel_rfl) (by kernel_rfl) (l := [.c (.str _)]) (by kernel_rfl) ⟨rfl, rfl, rfl, rfl, rfl, trivial⟩ rfl (fun _ _ => trivial)
  by_cases h5 : e = 6
  · subst h5
    exact gives_end (B := B) [.e (.c (.int .i64 6))] [false, false, false, false, false, true] [] 200 [] (obs := [fun _ => ((6 : Int) == 0) = false, fun _ => ((6 : Int) == 2) = false, fun _ => ((6 : Int) == 3) = false, fun _ => ((6 : Int) == 4) = false, fun _ => ((6 : Int) == 5) = false, fun _ => ((6 : Int) == 6) = true]) Tryz.func118 rfl rfl rfl (by kernel_rfl) (by kernel_rfl) (by kernel_rfl) (l := [.c (.str _)]) (by kernel_rfl) ⟨rfl, rfl, rfl, rfl, rfl, rfl, trivial⟩ rfl (fun _ _ => trivial)
  by_cases h6 : e = 7
  · subst h6
    exact gives_end (B := B) [.e (.c (.int .i64 7))] [false, false, false, false, false, false, true] [] 200 [] (obs := [fun _ => ((7 : Int) == 0) = false, fun _ => ((7 : Int) == 2) = false, fun _ => ((7 : Int) == 3) = false, fun _ => ((7 : Int) == 4) = false, fun _ => ((7 : Int) == 5) = false, fun _ => ((7 : Int) == 6) = false, fun _ => ((7 : Int) == 7) = true]) Tryz.func118 rfl rfl rfl (by kernel_rfl) (by kernel_rfl) (by kernel_rfl) (l := [.c (.str _)]) (by kernel_rfl) ⟨rfl, rfl, rfl, rfl, rfl, rfl, rfl, trivial⟩ rfl (fun _ _ => trivial)
  by_cases h7 : e = 8
  · subst h7
    exact gives_end (B := B) [.e (.c (.int .i64 8))] [false, false, false, false, false, false, false, true] [] 200 [] (obs := [fun _ => ((8 : Int) == 0) = false, fun _ => ((8 : Int) == 2) = false, fun _ => ((8 : Int) == 3) = false, fun _ => ((8 : Int) == 4) = false, fun _ => ((8 : Int) == 5) = false, fun _ => ((8 : Int) == 6) = false, fun _ => ((8 : Int) == 7) = false, fun _ => ((8 : Int) == 8) = true]) Tryz.func118 rfl rfl rfl (by kernel_rfl) (by kernel_rfl) (by kernel_rfl) (l := [.c (.str _)]) (by kernel_rfl) ⟨rfl, rfl, rfl, rfl, rfl, rfl, rfl, rfl, trivial⟩ rfl (fun _ _ => trivial)
  by_cases h8 : e = 9
  · subst h8
    exact gives_end (B := B) [.e (.c (.int .i64 9))] [false, false, false, false, false, false, false, false, true] [] 200 [] (obs := [fun _ => ((9 : Int) == 0) = false, fun _ => ((9 : Int) == 2) = false, fun _ => ((9 : Int) == 3) = false, fun _ => ((9 : Int) == 4) = false, fun _ => ((9 : Int) == 5) = false, fun _ => ((9 : Int) == 6) = false, fun _ => ((9 : Int) == 7) = false, fun _ => ((9 : Int) == 8) = false, fun _ => ((9 : Int) == 9) = true]) Tryz.func118 rfl rfl rfl (by kernel_rfl) (by kernel_rfl) (by kernel_rfl) (l := [.c (.str _)]) (by kernel_rfl) ⟨rfl, rfl, rfl, rfl, rfl, rfl, rfl, rfl, rfl, trivial⟩ rfl (fun _ _ => trivial)
  by_cases h9 : e = 10
  · subst h9
    exact gives_end (B := B) [.e (.c (.int .i64 10))] [false, false, false, false, false, false, false, false, false, true] [] 200 [] (obs := [fun _ => ((10 : Int) == 0) = false, fun _ => ((10 : Int) == 2) = false, fun _ => ((10 : Int) == 3) = false, fun _ => ((10 : Int) == 4) = false, fun _ => ((10 : Int) == 5) = false, fun _ => ((10 : Int) == 6) = false, fun _ => ((10 : Int) == 7) = false, fun _ => ((10 : Int) == 8) = false, fun _ => ((10 : Int) == 9) = false, fun _ => ((10 : Int) == 10) = true]) Tryz.func118 rfl rfl rfl (by kernel_rfl) (by kernel_rfl) (by kernel_rfl) (l := [.c (.str _)]) (by kernel_rfl) ⟨rfl, rfl, rfl, rfl, rfl, rfl, rfl, rfl, rfl, rfl, trivial⟩ rfl (fun _ _ => trivial)
  by_cases h10 : e = 13
  · subst h10
    exact gives_end (B := B) [.e (.c (.int .i64 13))] [false, false, false, false, false, false, false, false, false, false, true] [] 200 [] (obs := [fun _ => ((13 : Int) == 0) = false, fun _ => ((13 : Int) == 2) = false, fun _ => ((13 : Int) == 3) = false, fun _ => ((13 : Int) == 4) = false, fun _ => ((13 : Int) == 5) = false, fun _ => ((13 : Int) == 6) = false, fun _ => ((13 : Int) == 7) = false, fun _ => ((13 : Int) == 8) = false, fun _ => ((13 : Int) == 9) = false, fun _ => ((13 : Int) == 10) = false, fun _ => ((13 : Int) == 13) = true]) Tryz.func118 rfl rfl rfl (by kernel_rfl) (by kernel_rfl) (by kernel_rfl) (l := [.c (.str _)]) (by kernel_rfl) ⟨rfl, rfl, rfl, rfl, rfl, rfl, rfl, rfl, rfl, rfl, rfl, trivial⟩ rfl (fun _ _ => trivial)
  by_cases h11 : e = 12
  · subst h11
    exact gives_end (B := B) [.e (.c (.int .i64 12))] [false, false, false, false, false, false, false, false, false, false, false, true] [] 200 [] (obs := [fun _ => ((12 : Int) == 0) = false, fun _ => ((12 : Int) == 2) = false, fun _ => ((12 : Int) == 3) = false, fun _ => ((12 : Int) == 4) = false, fun _ => ((12 : Int) == 5) = false, fun _ => ((12 : Int) == 6) = false, fun _ => ((12 : Int) == 7) = false, fun _ => ((12 : Int) == 8) = false, fun _ => ((12 : Int) == 9) = false, fun _ => ((12 : Int) == 10) = false, fun _ => ((12 : Int) == 13) = false, fun _ => ((12 : Int) == 12) = true]) Tryz.func118 rfl rfl rfl (by kernel_rfl) (by kernel_rfl) (by kernel_rfl) (l := [.c (.str _)]) (by kernel_rfl) ⟨rfl, rfl, rfl, rfl, rfl, rfl, rfl, rfl, rfl, rfl, rfl, rfl, trivial⟩ rfl (fun _ _ => trivial)
  · rw [if_neg h0, if_neg h1, if_neg h2, if_neg h3, if_neg h4, if_neg h5, if_neg h6, if_neg h7, if_neg h8, if_neg h9, if_neg h10, if_neg h11]
    exact gives_end (B := B) [.e (.c (.int .i64 e))] [false, false, false, false, false, false, false, false, false, false, false, false] [] 200 [] (obs := [fun _ => (e == 0) = false, fun _ => (e == 2) = false, fun _ => (e == 3) = false, fun _ => (e == 4) = false, fun _ => (e == 5) = false, fun _ => (e == 6) = false, fun _ => (e == 7) = false, fun _ => (e == 8) = false, fun _ => (e == 9) = false, fun _ => (e == 10) = false, fun _ => (e == 13) = false, fun _ => (e == 12) = false]) Tryz.func118 rfl rfl rfl (by kernel_rfl) (by kernel_rfl) (by kernel_rfl) (l := [.c (.str _)]) (by kernel_rfl) ⟨by simp [h0], by simp [h1], by simp [h2], by simp [h3], by simp [h4], by simp [h5], by simp [h6], by simp [h7], by simp [h8], by simp [h9], by simp [h10], by simp [h11], trivial⟩ rfl (fun _ _ => trivial)

theorem ite_size {c : Prop} [Decidable c] {x y : ByteArray} {n : Nat} (hx : x.size ≤ n) (hy : y.size ≤ n) : (if c then x else y).size ≤ n := by split <;> assumption

theorem apiSay_size (e : Int) : (apiSay e).size ≤ 20 := by
  unfold apiSay
  repeat' apply ite_size
  all_goals decide

/-- Bad. -/
theorem bad_calls {B : Bd} {w : World} {b : Nat} {m : M} (hm : MOk B w b m) (p : ByteArray) (e : Int) (hs : m.prog.size + p.size ≤ 1152921504606846976) :
    Calls Tryz.prog 99 #[bp b, .string p, .int .i64 e] w (Does B b w (m.bad p e)) := by
  have hm0 := hm
  obtain ⟨a, n, cp, th, row, hm⟩ := hm
  refine calls_exec [.e (.c (.p 0 0)), .e (.c (.str p)), .e (.c (.int .i64 e))] [b] [⟨66, mcells m.prog m.status a n cp (thnC th) m.call m.over⟩] noRo Tryz.func99 rfl rfl rfl (hm.rel noRo (fun _ _ h => by cases h)) ?_
  intro a0 hc
  have h2 : (⟨#[58, 32]⟩ : ByteArray).size = 2 := rfl
  refine gets_run tab_ok 40 hc (holds_of (obs := [fun _ => ((p.size + (⟨#[58, 32]⟩ : ByteArray).size : Nat) : Int) ≤ 9223372036854775807]) (by kernel_rfl) (by simp only [AllP, h2, and_true]; omega)) (fun a1 w1 hc1 => ?_)
  replace hc1 := hc1.pick [(12, .e (.c (.str (p ++ ⟨#[58, 32]⟩)))), (13, .e (.c (.int .i64 e))), (10, .e (.c (.p 0 0)))] [⟨66, mcells m.prog 1 a n cp (thnC th) m.call m.over⟩] (by kernel_rfl) (by kernel_rfl)
  obtain ⟨hm1, he1⟩ := hm.after (m' := { m with status := 1 }) hc1.mem rfl rfl (thn_keep hm.thn ((evo_of_rel (m' := { m with status := 1 }) hm hc1.mem rfl).keep hm0))
  replace hc1 := hc1.anew B [(12, .e (.c (.str (p ++ ⟨#[58, 32]⟩)))), (13, .e (.c (.int .i64 e))), (10, .e (.c (.rp ⟨b, 0, none⟩)))] [] [] ⟨rfl, rfl, rfl, trivial⟩
  refine gets_pure (Q := fun _ => True) (c := ⟨118, [.c (.int .i64 e)], [], #[]⟩) 14 (.e (.c (.str (apiSay e)))) [] [] hc1 (by kernel_rfl) (by kernel_rfl) (by kernel_rfl) (by kernel_rfl) (apiSay_calls (B := B) w1 e) (by kernel_rfl) (by kernel_rfl) (fun a2 w2 hn2 _ hc2 => ?_)
  have hs2 := apiSay_size e
  refine gets_run tab_ok 5 hc2 (holds_of (obs := [fun _ => (((p ++ ⟨#[58, 32]⟩).size + (apiSay e).size : Nat) : Int) ≤ 9223372036854775807]) (by kernel_rfl) (by simp only [AllP, ByteArray.size_append, h2, and_true]; omega)) (fun a3 w3 hc3 => ?_)
  refine gets_evo he1 (gets_last (bs := []) (c := ⟨133, [.c (.rp ⟨b, 0, none⟩), .c (.str (p ++ ⟨#[58, 32]⟩ ++ apiSay e)), .c (.f 73 [])], [], #[]⟩) hm1 ((Over.env w1 _).next hc1.mem hn2 _) hc3 (by kernel_rfl) (by kernel_rfl) (by kernel_rfl) Tryz.func99 rfl (by kernel_rfl) (fun _ hm3 _ => ?_))
  have hfit : ({ m with status := 1 } : M).prog.size + (p ++ ⟨#[58, 32]⟩ ++ apiSay e).size + 3 ≤ 9223372036854775807 := by
    show m.prog.size + (p ++ ⟨#[58, 32]⟩ ++ apiSay e).size + 3 ≤ 9223372036854775807
    rw [ByteArray.size_append, ByteArray.size_append, h2]
    omega
  have := complain_calls hm3 (p ++ ⟨#[58, 32]⟩ ++ apiSay e) hfit .none 73 #[] ⟨rfl, rfl⟩
  unfold M.bad
  exact this

end Go.Proofs.YtoihipolfdhhnaaGreatDoor
