/-
  The contracts of what follows on answers: tries$1, pours$1, closes; each.
-/
import Derived.Test.YtoihipolfdhhnaaGreatDoorClosD
namespace Go.Proofs.YtoihipolfdhhnaaGreatDoor

theorem callX_fv (ρ : Nat → Nat) (f : FuncId) (args : List E) (c : Array Value) : CallX.real ρ ⟨f, args, [], c⟩ = (args.map (E.real ρ)).toArray ++ c := by simp [CallX.real]

/-- What an answer's closure does. -/
abbrev RCalls (B : Bd) (b : Nat) (w : World) (f : FuncId) (c : Array Value) (m : M) (v : Value) (m' : M) : Prop :=
  ∀ w', Keep B w w' → MOk B w' b m → Calls Tryz.prog f (#[bp b, v] ++ c) w' (Does B b w' m')

def M.tried (m : M) (p : ByteArray) (r : Res) (done : M) : M := if r.err ≠ 0 then m.bad p r.err else done

theorem tried_calls {B : Bd} {w : World} {b : Nat} {m m' : M} (hm : MOk B w b m) (p : ByteArray) (t : Rn) (f : FuncId) (c : Array Value) (hk : RepR B w (.tries p t) f c)
    (r : Res) (a : Option Addr) (n cp : Nat) (hs : m.prog.size + p.size ≤ 1152921504606846976) (ht : r.err = 0 → ∀ tf tc, RepR B w t tf tc → RCalls B b w tf tc m (resV r a n cp) m') :
    Calls Tryz.prog f (#[bp b, resV r a n cp] ++ c) w (Does B b w (m.tried p r m')) := by
  obtain ⟨rfl, k1, k2, tf, tc, rfl, h1, h2, h3⟩ := hk
  unfold M.tried
  by_cases he : r.err = 0
  · rw [if_neg (by simp [he])]
    refine does_tail [.e (.c (.rp ⟨b, 0, none⟩)), rsX r a n cp, .e (.c (.rp ⟨k1, 0, none⟩)), .e (.c (.rp ⟨k2, 0, none⟩))] [false] [.e (.c (.fv tf tc))] 40 [⟨35, r.cs a n cp⟩] ⟨tf, [.c (.rp ⟨b, 0, none⟩), .a (r.cs a n cp)], [], tc⟩
      (obs := [fun _ => (r.err != 0) = false, fun ε => ε.ro ⟨k2, 0, none⟩ = some (.func (.func tf) #[] tc)]) hm Tryz.func130 rfl rfl rfl (by kernel_rfl) (by kernel_rfl) (by kernel_rfl) (by kernel_rfl) rfl h3.enters ⟨by simp [he], Box.sro h2, trivial⟩ (fun w1 _ hm1 hk1 => ?_)
    have := ht he tf tc h3 w1 hk1 hm1
    rw [callX_fv]; exact this
  · rw [if_pos he]
    refine does_tail [.e (.c (.rp ⟨b, 0, none⟩)), rsX r a n cp, .e (.c (.rp ⟨k1, 0, none⟩)), .e (.c (.rp ⟨k2, 0, none⟩))] [true] [.e (.c (.str p))] 40 [⟨35, r.cs a n cp⟩] ⟨99, [.c (.rp ⟨b, 0, none⟩), .c (.str p), .c (.int .i64 r.err)], [], #[]⟩
      (obs := [fun _ => (r.err != 0) = true, fun ε => ε.ro ⟨k1, 0, none⟩ = some (.string p)]) hm Tryz.func130 rfl rfl rfl (by kernel_rfl) (by kernel_rfl) (by kernel_rfl) (by kernel_rfl) rfl (by kernel_rfl) ⟨by simp [he], Box.sro h1, trivial⟩ (fun w1 _ hm1 hk1 => ?_)
    exact bad_calls hm1 p r.err hs

def M.poured (m : M) (s d : Int) (t : Fn) (r : Res) (done : M) : M := if r.err ≠ 0 ∨ (r.text.toList == []) = true then done else m.say d r.text (.pours s d t)

theorem poured_calls {B : Bd} {w : World} {b : Nat} {m m' : M} (hm : MOk B w b m) (s d : Int) (t : Fn) (f : FuncId) (c : Array Value) (hk : RepR B w (.pours s d t) f c)
    (r : Res) (a : Option Addr) (n cp : Nat) (ht : ∀ tf tc, RepF B w t tf tc → KCalls B b w tf tc m m') :
    Calls Tryz.prog f (#[bp b, resV r a n cp] ++ c) w (Does B b w (m.poured s d t r m')) := by
  obtain ⟨rfl, k1, k2, k3, tf, tc, rfl, h1, h2, h3, h4⟩ := hk
  unfold M.poured
  by_cases he : r.err = 0
  · by_cases hx : (r.text.toList == []) = true
    · rw [if_pos (.inr hx)]
      refine does_tail [.e (.c (.rp ⟨b, 0, none⟩)), rsX r a n cp, .e (.c (.rp ⟨k1, 0, none⟩)), .e (.c (.rp ⟨k2, 0, none⟩)), .e (.c (.rp ⟨k3, 0, none⟩))] [false, true] [.e (.c (.fv tf tc))] 60 [⟨35, r.cs a n cp⟩] ⟨tf, [.c (.rp ⟨b, 0, none⟩)], [], tc⟩
        (obs := [fun _ => (r.err != 0) = false, fun _ => (r.text.toList == []) = true, fun ε => ε.ro ⟨k1, 0, none⟩ = some (.func (.func tf) #[] tc)]) hm Tryz.func128 rfl rfl rfl (by kernel_rfl) (by kernel_rfl) (by kernel_rfl) (by kernel_rfl) rfl h2.enters ⟨by simp [he], hx, Box.sro h1, trivial⟩ (fun w1 _ hm1 hk1 => ?_)
      have := ht tf tc h2 w1 hk1 hm1
      simpa [CallX.real, E.real, C.real] using this
    · rw [if_neg (by simp only [not_or]; exact ⟨by simp [he], hx⟩)]
      refine does_tail [.e (.c (.rp ⟨b, 0, none⟩)), rsX r a n cp, .e (.c (.rp ⟨k1, 0, none⟩)), .e (.c (.rp ⟨k2, 0, none⟩)), .e (.c (.rp ⟨k3, 0, none⟩))] [false, false] [.e (.c (.int .i64 d))] 60 [⟨35, r.cs a n cp⟩] ⟨72, [.c (.rp ⟨b, 0, none⟩), .c (.int .i64 d), .c (.str r.text), .c (.f 129 [.r ⟨k3, 0, none⟩, .r ⟨k2, 0, none⟩, .r ⟨k1, 0, none⟩])], [], #[]⟩
        (obs := [fun _ => (r.err != 0) = false, fun _ => (r.text.toList == []) = false, fun ε => ε.ro ⟨k2, 0, none⟩ = some (.int .i64 d)]) hm Tryz.func128 rfl rfl rfl (by kernel_rfl) (by kernel_rfl) (by kernel_rfl) (by kernel_rfl) rfl (by kernel_rfl) ⟨by simp [he], by simpa using hx, Box.sro h3, trivial⟩ (fun w1 _ hm1 hk1 => ?_)
      exact say_calls hm1 d r.text (by simpa using hx) (.pours s d t) 129 _ ⟨rfl, k3, k2, k1, tf, tc, rfl, Box.keep h4 hk1, Box.keep h3 hk1, Box.keep h1 hk1, h2.keep hk1⟩
  · rw [if_pos (.inl he)]
    refine does_tail [.e (.c (.rp ⟨b, 0, none⟩)), rsX r a n cp, .e (.c (.rp ⟨k1, 0, none⟩)), .e (.c (.rp ⟨k2, 0, none⟩)), .e (.c (.rp ⟨k3, 0, none⟩))] [true] [.e (.c (.fv tf tc))] 60 [⟨35, r.cs a n cp⟩] ⟨tf, [.c (.rp ⟨b, 0, none⟩)], [], tc⟩
      (obs := [fun _ => (r.err != 0) = true, fun ε => ε.ro ⟨k1, 0, none⟩ = some (.func (.func tf) #[] tc)]) hm Tryz.func128 rfl rfl rfl (by kernel_rfl) (by kernel_rfl) (by kernel_rfl) (by kernel_rfl) rfl h2.enters ⟨by simp [he], Box.sro h1, trivial⟩ (fun w1 _ hm1 hk1 => ?_)
    have := ht tf tc h2 w1 hk1 hm1
    simpa [CallX.real, E.real, C.real] using this

/- CLOSES -/

/-- Closes: the closure. -/
theorem closes_calls {B : Bd} (w : World) (fds : List Int) (a : Option Addr) (n cp : Nat) (h : IntsAt B w a n cp fds) :
    Calls Tryz.prog 82 #[.slice a n cp] w (Gives (.func (.func 131) #[] #[bp w.heap.size]) (fun w' => IntsBox B w' w.heap.size fds) w) := by
  refine gives_end (B := B) [.e (.c (.sl a n cp))] [] [] 40 [⟨47, [.sl a n cp]⟩] (obs := []) Tryz.func82 rfl rfl rfl (by kernel_rfl) (by kernel_rfl) (by kernel_rfl) (l := [.c (.f 131 [.n 0 0])]) (by kernel_rfl) trivial rfl (fun w1 hr1 => ?_)
  exact ⟨a, n, cp, box_of hr1 (i := 0) rfl rfl rfl, h.keep (((Over.env w _).rel hr1).keep B)⟩

theorem closes1_calls {B : Bd} {w : World} {b : Nat} {m : M} (hm : MOk B w b m) (fds : List Int) (f : FuncId) (c : Array Value) (hk : RepF B w (.closes fds) f c) :
    Calls Tryz.prog f (#[bp b] ++ c) w (Does B b w (m.closes fds)) := by
  obtain ⟨rfl, k, rfl, a, n, cp, h1, h2⟩ := hk
  cases fds with
  | nil =>
    have hn : n = 0 := h2.len
    refine does_end [.e (.c (.rp ⟨b, 0, none⟩)), .e (.c (.rp ⟨k, 0, none⟩))] [false] [.e (.c (.sl a n cp))] 40 [] (obs := [fun ε => ε.ro ⟨k, 0, none⟩ = some (.slice a n cp), fun _ => decide ((n : Int) > 0) = false]) hm Tryz.func131 rfl rfl rfl (by kernel_rfl) (by kernel_rfl) (by kernel_rfl) rfl ⟨Box.sro h1, by simp [hn], trivial⟩
  | cons fd l =>
    have hn : n = l.length + 1 := h2.len
    obtain ⟨ad, rfl, h3, h4⟩ := h2.at_ 0 fd rfl
    refine does_tail [.e (.c (.rp ⟨b, 0, none⟩)), .e (.c (.rp ⟨k, 0, none⟩))] [true] [.e (.c (.sl (some ad) n cp)), .e (.c (.sl (some ad) n cp)), .e (.c (.int .i64 fd))] 40 [] ⟨69, [.c (.rp ⟨b, 0, none⟩), .a ({ op := 3, fd := fd } : CallD).cs, .c (.f 132 [.r ⟨k, 0, none⟩])], [], #[]⟩
      (obs := [fun ε => ε.ro ⟨k, 0, none⟩ = some (.slice (some ad) n cp), fun _ => decide ((n : Int) > 0) = true, fun ε => ε.ro ⟨k, 0, none⟩ = some (.slice (some ad) n cp), fun _ => 0 ≤ (0 : Int) ∧ (0 : Int) < (n : Int), fun ε => ε.ro (ad.add 0) = some (.int .i64 fd)])
      hm Tryz.func131 rfl rfl rfl (by kernel_rfl) (by kernel_rfl) (by kernel_rfl) (by kernel_rfl) rfl (by kernel_rfl) ⟨Box.sro h1, by simp [hn], Box.sro h1, by omega, sro_of (by rw [addr_add_block]; exact h4) h3, trivial⟩ (fun w1 _ hm1 hk1 => ?_)
    exact sys_calls hm1 { op := 3, fd := fd } (.closes (fd :: l)) 132 _ ⟨rfl, k, rfl, some ad, n, cp, Box.keep h1 hk1, h2.keep hk1⟩

theorem Rel.bs {ε : Env} {bs bs' : List NB} {w : World} (h : Rel ε bs w) (e : bs = bs') : Rel ε bs' w := e ▸ h

theorem IntsAt.tail {B : Bd} {w : World} {a : Option Addr} {n c : Nat} {x : Int} {l : List Int} (h : IntsAt B w a n c (x :: l)) : IntsAt B w (if c = 1 then a else a.map (·.add 1)) (n - 1) (c - 1) l := by
  have hl := h.len
  have hc := h.cap
  simp only [List.length_cons] at hl
  refine ⟨by omega, by omega, fun j s hj => ?_⟩
  have hjl : j < l.length := (List.getElem?_eq_some_iff.1 hj).1
  obtain ⟨ad, h1, h2, h3⟩ := h.at_ (j + 1) s (by simpa using hj)
  refine ⟨ad.add 1, by rw [if_neg (by omega), h1]; rfl, ?_, by rw [addr_add_block]; exact h3⟩
  rw [addr_add_add _ _ _ (.inl (by decide)), Nat.add_comm]; exact h2

theorem StrsAt.tail {B : Bd} {w : World} {a : Option Addr} {n c : Nat} {x : ByteArray} {l : List ByteArray} (h : StrsAt B w a n c (x :: l)) : StrsAt B w (if c = 1 then a else a.map (·.add 1)) (n - 1) (c - 1) l := by
  have hl := h.len
  have hc := h.cap
  simp only [List.length_cons] at hl
  refine ⟨by omega, by omega, fun j s hj => ?_⟩
  have hjl : j < l.length := (List.getElem?_eq_some_iff.1 hj).1
  obtain ⟨ad, h1, h2, h3⟩ := h.at_ (j + 1) s (by simpa using hj)
  refine ⟨ad.add 1, by rw [if_neg (by omega), h1]; rfl, ?_, by rw [addr_add_block]; exact h3⟩
  rw [addr_add_add _ _ _ (.inl (by decide)), Nat.add_comm]; exact h2

/-- closes$1$1, of a list that has one at least. -/
theorem closes11_calls {B : Bd} {w : World} {b : Nat} {m : M} (hm : MOk B w b m) (fd : Int) (l : List Int) (f : FuncId) (c : Array Value) (hk : RepR B w (.closes (fd :: l)) f c) (r : Res) (a : Option Addr) (n cp : Nat) :
    Calls Tryz.prog f (#[bp b, resV r a n cp] ++ c) w (Does B b w (m.closes l)) := by
  obtain ⟨rfl, k, rfl, a', n', cp', h1, h2⟩ := hk
  have hl := h2.len
  have hcap := h2.cap
  simp only [List.length_cons] at hl
  refine enter (B := B) tab_ok [.e (.c (.rp ⟨b, 0, none⟩)), rsX r a n cp, .e (.c (.rp ⟨k, 0, none⟩))] [] [.e (.c (.sl a' n' cp'))] 40 Tryz.func132 rfl rfl rfl (obs := [fun ε => ε.ro ⟨k, 0, none⟩ = some (.slice a' n' cp'), fun _ => True ∧ (0 : Int) ≤ 1 ∧ (1 : Int) ≤ (n' : Int)]) (by kernel_rfl) ⟨Box.sro h1, ⟨trivial, by omega, by omega⟩, trivial⟩ (fun a1 w1 hc1 => ?_)
  have hbs : (run Tab Tryz.f132.ntmps 40 (code Tryz.f132) (ini [.e (.c (.rp ⟨b, 0, none⟩)), rsX r a n cp, .e (.c (.rp ⟨k, 0, none⟩))] [] [.e (.c (.sl a' n' cp'))])).2.bs = [⟨35, r.cs a n cp⟩] := by kernel_rfl
  have hn1 := (Over.env w _).rel hc1.mem
  have hcl := closes_calls (B := B) w1 l _ _ _ ((h2.keep (hn1.keep B)).tail)
  refine gets_pure (Q := fun w' => IntsBox B w' w1.heap.size l) (c := ⟨82, [.c (.sl (if cp' = 1 then a' else a'.map (·.add (1 * 1))) (n' - 1) (cp' - 1))], [], #[]⟩) 7 (.e (.c (.fv 131 #[bp w1.heap.size]))) [] [] hc1 (by kernel_rfl) (by kernel_rfl) (by kernel_rfl) (by kernel_rfl) hcl (by kernel_rfl) (by kernel_rfl) (fun a2 w2 hn2 hq2 hc2 => ?_)
  have hov := (Over.env w (sro B w)).next hc1.mem hn2 (sro B w)
  refine gets_run tab_ok 5 hc2 (holds_of (obs := []) (by kernel_rfl) trivial) (fun a3 w3 hc3 => ?_)
  refine gets_last (bs := [⟨35, r.cs a n cp⟩]) (c := ⟨131, [.c (.rp ⟨b, 0, none⟩)], [], #[bp w1.heap.size]⟩) hm hov hc3 (by kernel_rfl) (by kernel_rfl) (by kernel_rfl) Tryz.func132 rfl (by kernel_rfl) (fun hr3 hm3 hk3 => ?_)
  have hn3 := (hc2.mem.bs hbs).same hr3
  exact closes1_calls hm3 l 131 #[bp w1.heap.size] ⟨rfl, w1.heap.size, rfl, hq2.keep (hn3.keep B)⟩

end Go.Proofs.YtoihipolfdhhnaaGreatDoor
