/-
  The contracts of what follows on answers: Say$1, tries$1, pours$1, closes, each, bad, cat.
-/
import Derived.Test.YtoihipolfdhhnaaGreatDoorClosB
namespace Go.Proofs.YtoihipolfdhhnaaGreatDoor

abbrev resV (r : Res) (a : Option Addr) (n c : Nat) : Value := .agg (plainR (r.cs a n c))
abbrev rsX (r : Res) (a : Option Addr) (n c : Nat) : SV := .e (.a (r.cs a n c))

/-- The text behind what is written. -/
def rest (s : ByteArray) (n : Int) : ByteArray := s.extract n.toNat s.size

def M.said (m : M) (fd : Int) (text : ByteArray) (t : Fn) (r : Res) (done : M) : M :=
  if r.err ≠ 0 ∨ r.n < 1 ∨ r.n ≥ text.size then done else m.say fd (rest text r.n) t

theorem said_calls {B : Bd} {w : World} {b : Nat} {m m' : M} (hm : MOk B w b m) (fd : Int) (text : ByteArray) (t : Fn) (f : FuncId) (c : Array Value) (hk : RepR B w (.say fd text t) f c)
    (r : Res) (a : Option Addr) (n cp : Nat) (ht : ∀ tf tc, RepF B w t tf tc → KCalls B b w tf tc m m') :
    Calls Tryz.prog f (#[bp b, resV r a n cp] ++ c) w (Does B b w (m.said fd text t r m')) := by
  obtain ⟨rfl, k1, k2, k3, tf, tc, rfl, h1, h2, h3, h4⟩ := hk
  have hdone : ∀ (orc : List Bool) (ext : List SV) (obs : List (Env → Prop)),
      (run Tab Tryz.f125.ntmps 60 (code Tryz.f125) (ini [.e (.c (.rp ⟨b, 0, none⟩)), rsX r a n cp, .e (.c (.rp ⟨k1, 0, none⟩)), .e (.c (.rp ⟨k2, 0, none⟩)), .e (.c (.rp ⟨k3, 0, none⟩))] orc ext)).2.ob = obs →
      (run Tab Tryz.f125.ntmps 60 (code Tryz.f125) (ini [.e (.c (.rp ⟨b, 0, none⟩)), rsX r a n cp, .e (.c (.rp ⟨k1, 0, none⟩)), .e (.c (.rp ⟨k2, 0, none⟩)), .e (.c (.rp ⟨k3, 0, none⟩))] orc ext)).2.bs = [⟨35, r.cs a n cp⟩] →
      callX (run Tab Tryz.f125.ntmps 60 (code Tryz.f125) (ini [.e (.c (.rp ⟨b, 0, none⟩)), rsX r a n cp, .e (.c (.rp ⟨k1, 0, none⟩)), .e (.c (.rp ⟨k2, 0, none⟩)), .e (.c (.rp ⟨k3, 0, none⟩))] orc ext)).1 (run Tab Tryz.f125.ntmps 60 (code Tryz.f125) (ini [.e (.c (.rp ⟨b, 0, none⟩)), rsX r a n cp, .e (.c (.rp ⟨k1, 0, none⟩)), .e (.c (.rp ⟨k2, 0, none⟩)), .e (.c (.rp ⟨k3, 0, none⟩))] orc ext)).2 = some ⟨tf, [.c (.rp ⟨b, 0, none⟩)], [], tc⟩ →
      isFin (ctl 30 (popX (run Tab Tryz.f125.ntmps 60 (code Tryz.f125) (ini [.e (.c (.rp ⟨b, 0, none⟩)), rsX r a n cp, .e (.c (.rp ⟨k1, 0, none⟩)), .e (.c (.rp ⟨k2, 0, none⟩)), .e (.c (.rp ⟨k3, 0, none⟩))] orc ext)).1)) = true →
      AllP obs (env0 B w) → Calls Tryz.prog 125 (#[bp b, resV r a n cp] ++ #[bp k1, bp k2, bp k3]) w (Does B b w m') := by
    intro orc ext obs e1 e2 e3 e4 e5
    refine does_tail _ orc ext 60 _ _ hm Tryz.func125 rfl rfl rfl e1 e2 e3 e4 rfl h3.enters e5 (fun w1 _ hm1 hk1 => ?_)
    have := ht tf tc h3 w1 hk1 hm1
    simpa [CallX.real, E.real, C.real] using this
  unfold M.said
  by_cases he : r.err = 0
  · by_cases hn : r.n < 1
    · rw [if_pos (by simp [hn])]
      refine hdone [false, true] [.e (.c (.fv tf tc))] [fun _ => (r.err != 0) = false, fun _ => decide (r.n < 1) = true, fun ε => ε.ro ⟨k2, 0, none⟩ = some (.func (.func tf) #[] tc)] (by kernel_rfl) (by kernel_rfl) (by kernel_rfl) (by kernel_rfl) ⟨by simp [he], by simp [hn], Box.sro h2, trivial⟩
    · by_cases hl : r.n ≥ text.size
      · rw [if_pos (by simp [hl])]
        refine hdone [false, false, true] [.e (.c (.str text)), .e (.c (.fv tf tc))] [fun _ => (r.err != 0) = false, fun _ => decide (r.n < 1) = false, fun ε => ε.ro ⟨k1, 0, none⟩ = some (.string text), fun _ => decide (r.n ≥ text.size) = true, fun ε => ε.ro ⟨k2, 0, none⟩ = some (.func (.func tf) #[] tc)] (by kernel_rfl) (by kernel_rfl) (by kernel_rfl) (by kernel_rfl) ⟨by simp [he], by simp [hn], Box.sro h1, by simp [hl], Box.sro h2, trivial⟩
      · rw [if_neg (by simp [he, hn, hl])]
        have hn1 : 1 ≤ r.n := by omega
        have hl1 : r.n < text.size := by omega
        refine does_draw [.e (.c (.rp ⟨b, 0, none⟩)), rsX r a n cp, .e (.c (.rp ⟨k1, 0, none⟩)), .e (.c (.rp ⟨k2, 0, none⟩)), .e (.c (.rp ⟨k3, 0, none⟩))] [false, false, false] [.e (.c (.str text)), .e (.c (.int .i64 fd)), .e (.c (.str text)), .e (.c (.fv tf tc))] 60 7 [⟨35, r.cs a n cp⟩]
          ⟨72, [.c (.rp ⟨b, 0, none⟩), .c (.int .i64 fd), .c (.str (rest text r.n)), .c (.fv tf tc)], [], #[]⟩
          (obs := [fun _ => (r.err != 0) = false, fun _ => decide (r.n < 1) = false, fun ε => ε.ro ⟨k1, 0, none⟩ = some (.string text), fun _ => decide (r.n ≥ text.size) = false, fun ε => ε.ro ⟨k3, 0, none⟩ = some (.int .i64 fd), fun ε => ε.ro ⟨k1, 0, none⟩ = some (.string text), fun _ => True ∧ 0 ≤ r.n ∧ r.n ≤ (text.size : Int), fun ε => ε.ro ⟨k2, 0, none⟩ = some (.func (.func tf) #[] tc)])
          hm Tryz.func125 rfl rfl rfl (by kernel_rfl) (by kernel_rfl) (by kernel_rfl) (by kernel_rfl) (by kernel_rfl) (by kernel_rfl) rfl (by kernel_rfl) (by kernel_rfl) rfl (by kernel_rfl) ⟨by simp [he], by simp [hn], Box.sro h1, by simp [hl], Box.sro h4, Box.sro h1, ⟨trivial, by omega, by omega⟩, Box.sro h2, trivial⟩ (fun w1 hr1 hm1 hk1 => ?_)
        refine say_calls hm1 fd _ ?_ t tf tc (h3.keep hk1)
        rw [ByteArray.toList_eq]
        have hs : (rest text r.n).size = text.size - r.n.toNat := by simp [rest, ByteArray.size_extract]
        cases hx : (rest text r.n).data.toList with
        | nil =>
          have : (rest text r.n).size = 0 := by rw [← ByteArray.size_data, ← Array.length_toList, hx]; rfl
          omega
        | cons _ _ => rfl
  · rw [if_pos (by simp [he])]
    exact hdone [true] [.e (.c (.fv tf tc))] [fun _ => (r.err != 0) = true, fun ε => ε.ro ⟨k2, 0, none⟩ = some (.func (.func tf) #[] tc)] (by kernel_rfl) (by kernel_rfl) (by kernel_rfl) (by kernel_rfl) ⟨by simp [he], Box.sro h2, trivial⟩

end Go.Proofs.YtoihipolfdhhnaaGreatDoor
