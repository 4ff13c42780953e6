/-
  The contracts of each, and of cat's closures.
-/
import Derived.Test.YtoihipolfdhhnaaGreatDoorMid
namespace Go.Proofs.YtoihipolfdhhnaaGreatDoor

/-- What a word's closure does. -/
abbrev ECalls (B : Bd) (b : Nat) (w : World) (f : FuncId) (c : Array Value) (m : M) (s : ByteArray) (m' : M) : Prop :=
  ∀ w', Keep B w w' → MOk B w' b m → Calls Tryz.prog f (#[bp b, .string s] ++ c) w' (Does B b w' m')

/-- Each, of no words. -/
theorem each_nil {B : Bd} {w : World} {b : Nat} {m : M} (hm : MOk B w b m) (a : Option Addr) (cp : Nat) (f : FuncId) (c : Array Value) :
    Calls Tryz.prog 77 #[bp b, .slice a 0 cp, .func (.func f) #[] c] w (Does B b w m) :=
  does_end [.e (.c (.rp ⟨b, 0, none⟩)), .e (.c (.sl a 0 cp)), .e (.c (.fv f c))] [true] [] 40 [⟨22, [.sl a 0 cp]⟩, ⟨117, [.fv f c]⟩] (obs := [fun _ => (((0 : Nat) : Int) == 0) = true]) hm Tryz.func77 rfl rfl rfl (by kernel_rfl) (by kernel_rfl) (by kernel_rfl) rfl ⟨rfl, trivial⟩

/-- Each, of a word and others. -/
theorem each_cons {B : Bd} {w : World} {b : Nat} {m m' : M} (hm : MOk B w b m) (s : ByteArray) (l : List ByteArray) (a : Option Addr) (n cp : Nat) (hl : StrsAt B w a n cp (s :: l)) (e : Ef) (f : FuncId) (c : Array Value) (hk : RepE B w e f c)
    (hlen : m.todo.length ≤ 1000000) (ht : ECalls B b w f c (m.push (.each (s :: l) e)) s m') :
    Calls Tryz.prog 77 #[bp b, .slice a n cp, .func (.func f) #[] c] w (Does B b w m') := by
  have hn := hl.len
  simp only [List.length_cons] at hn
  obtain ⟨ad, rfl, hcell, hsafe⟩ := hl.at_ 0 s rfl
  refine enter (B := B) tab_ok [.e (.c (.rp ⟨b, 0, none⟩)), .e (.c (.sl (some ad) n cp)), .e (.c (.fv f c))] [false] [] 40 Tryz.func77 rfl rfl rfl (obs := [fun _ => ((n : Int) == 0) = false]) (by kernel_rfl) ⟨by rw [hn]; simp; omega, trivial⟩ (fun a1 w1 hc1 => ?_)
  have hr1 := hc1.mem.bs (bs' := [⟨22, [.sl (some ad) n cp]⟩, ⟨117, [.fv f c]⟩]) (by kernel_rfl)
  have hn1 := (Over.env w _).rel hc1.mem
  obtain ⟨hm1, he1⟩ := hm.fresh hn1
  have hk1 := he1.keep hm
  have hb1 : Box w1 w.heap.size 22 (.slice (some ad) n cp) := box_of hr1 (i := 0) rfl rfl rfl
  have hb2 : Box w1 (w.heap.size + 1) 117 (.func (.func f) #[] c) := box_of hr1 (i := 1) rfl rfl rfl
  have hrep : RepF B w1 (.each (s :: l) e) 127 #[bp w.heap.size, bp (w.heap.size + 1)] := ⟨rfl, _, _, f, c, rfl, ⟨some ad, n, cp, hb1, hl.keep hk1⟩, hb2, hk.keep hk1⟩
  refine gets_evo he1 (gets_does (c := ⟨22, [.c (.rp ⟨b, 0, none⟩), .c (.f 127 [.n 0 0, .n 1 0])], [], #[]⟩) 11 [(0, .e (.c (.rp ⟨b, 0, none⟩))), (4, .e (.c (.rp ⟨w.heap.size, 0, none⟩))), (5, .e (.c (.rp ⟨w.heap.size + 1, 0, none⟩)))] [] [.e (.c (.fv f c)), .e (.c (.sl (some ad) n cp)), .e (.c (.str s))]
    hc1 (by kernel_rfl) (by kernel_rfl) (by kernel_rfl) rfl (push_calls hm1 hlen hm1.le (.each (s :: l) e) 127 _ hrep) (fun ρ' => ⟨rfl, rfl, rfl, trivial⟩) (fun a2 w2 hm2 he2 hc2 => ?_))
  have hk2 := he2.keep hm1
  refine gets_run tab_ok 5 hc2 (holds_of (obs := []) (by kernel_rfl) trivial) (fun a3 w3 hc3 => ?_)
  have hsafe2 := (hsafe.keep (by have := World.block_lt_of_cell? w _ hcell; rwa [addr_add_block] at this) (hk1.trans hk2))
  have hcell2 : w2.cell? (ad.add 0) = some (.string s) := by
    obtain ⟨ad', e1, h3, _⟩ := (hl.keep (hk1.trans hk2)).at_ 0 s rfl
    cases e1
    exact h3
  refine gets_evo he2 (gets_dlast 5 [] ⟨f, [.c (.rp ⟨b, 0, none⟩), .c (.str s)], [], c⟩ (obs := [fun ε => ε.ro ⟨w.heap.size + 1, 0, none⟩ = some (.func (.func f) #[] c), fun ε => ε.ro ⟨w.heap.size, 0, none⟩ = some (.slice (some ad) n cp), fun _ => 0 ≤ (0 : Int) ∧ (0 : Int) < (n : Int), fun ε => ε.ro (ad.add 0) = some (.string s)])
    hm2 (Over.env w2 _) rfl hc3 (by kernel_rfl) rfl (by kernel_rfl) (by kernel_rfl) (by kernel_rfl) (by kernel_rfl) (by kernel_rfl) (by kernel_rfl) (by kernel_rfl) Tryz.func77 rfl hk.enters ⟨Box.sro (hb2.keep hk2), Box.sro (hb1.keep hk2), by omega, sro_of (by rw [addr_add_block]; exact hsafe2) hcell2, trivial⟩ (fun w4 _ hm4 hk4 => ?_))
  rw [callX_fv]
  exact ht w4 ((hk1.trans hk2).trans hk4) hm4

end Go.Proofs.YtoihipolfdhhnaaGreatDoor
