/-
  The contracts of each's step, of cat, of false, id; of the first step.
-/
import Derived.Test.YtoihipolfdhhnaaGreatDoorRun
namespace Go.Proofs.YtoihipolfdhhnaaGreatDoor

/-- What is to be shown of what is done with words. -/
def EOk (e : Ef) : Prop := ∀ {B : Bd} {w : World} {b : Nat} {m : M} (s : ByteArray) (f : FuncId) (c : Array Value), MOk B w b m → RepE B w e f c → okE e s m → Calls Tryz.prog f (#[bp b, .string s] ++ c) w (Does B b w (runE e s m))

theorem each_calls {B : Bd} {w : World} {b : Nat} {m : M} (hm : MOk B w b m) (l : List ByteArray) (a : Option Addr) (n cp : Nat) (hl : StrsAt B w a n cp l) (e : Ef) (he : EOk e) (f : FuncId) (c : Array Value) (hk : RepE B w e f c) (hok : okEach l e m) :
    Calls Tryz.prog 77 #[bp b, .slice a n cp, .func (.func f) #[] c] w (Does B b w (runEach l e m)) := by
  cases l with
  | nil =>
    have hn : n = 0 := hl.len
    subst hn
    exact each_nil hm a cp f c
  | cons s l =>
    exact each_cons hm s l a n cp hl e f c hk hok.1 (fun w' hk' hm' => he s f c hm' (hk.keep hk') hok.2)

theorem each1_calls {B : Bd} {w : World} {b : Nat} {m : M} (hm : MOk B w b m) (s : ByteArray) (l : List ByteArray) (e : Ef) (he : EOk e) (f : FuncId) (c : Array Value) (hk : RepF B w (.each (s :: l) e) f c) (hok : okEach l e m) :
    Calls Tryz.prog f (#[bp b] ++ c) w (Does B b w (runEach l e m)) := by
  obtain ⟨rfl, k1, k2, ef, ec, rfl, ⟨a, n, cp, h1, h2⟩, h3, h4⟩ := hk
  have hl := h2.len
  have hcap := h2.cap
  simp only [List.length_cons] at hl
  refine does_draw [.e (.c (.rp ⟨b, 0, none⟩)), .e (.c (.rp ⟨k1, 0, none⟩)), .e (.c (.rp ⟨k2, 0, none⟩))] [] [.e (.c (.sl a n cp)), .e (.c (.fv ef ec))] 20 4 [] ⟨77, [.c (.rp ⟨b, 0, none⟩), .c (.sl (if cp = 1 then a else a.map (·.add (1 * 1))) (n - 1) (cp - 1)), .c (.fv ef ec)], [], #[]⟩
    (obs := [fun ε => ε.ro ⟨k1, 0, none⟩ = some (.slice a n cp), fun _ => True ∧ (0 : Int) ≤ 1 ∧ (1 : Int) ≤ (n : Int), fun ε => ε.ro ⟨k2, 0, none⟩ = some (.func (.func ef) #[] ec)])
    hm Tryz.func127 rfl rfl rfl (by kernel_rfl) (by kernel_rfl) (by kernel_rfl) (by kernel_rfl) (by kernel_rfl) (by kernel_rfl) rfl (by kernel_rfl) (by kernel_rfl) rfl (by kernel_rfl) ⟨Box.sro h1, ⟨trivial, by omega, by omega⟩, Box.sro h3, trivial⟩ (fun w1 hr1 hm1 hk1 => ?_)
  exact each_calls hm1 l _ _ _ ((h2.keep hk1).tail) e he ef ec (h4.keep hk1) hok

/- CAT -/

theorem cat_word : EOk .cat := by
  intro B w b m s f c hm hk _
  obtain ⟨rfl, rfl⟩ := hk
  simp only [runE]
  by_cases hs : (s.toList == [45]) = true
  · rw [if_pos hs]
    refine does_tail [.e (.c (.rp ⟨b, 0, none⟩)), .e (.c (.str s))] [true] [] 40 [] ⟨79, [.c (.rp ⟨b, 0, none⟩), .c (.int .i64 0), .c (.int .i64 1), .c (.f 73 [])], [], #[]⟩ (obs := [fun _ => (s.toList == (⟨#[45]⟩ : ByteArray).toList) = true]) hm Tryz.func78 rfl rfl rfl (by kernel_rfl) (by kernel_rfl) (by kernel_rfl) (by kernel_rfl) rfl (by kernel_rfl) ⟨by rw [ByteArray.toList_eq ⟨#[45]⟩]; exact hs, trivial⟩ (fun w1 _ hm1 _ => ?_)
    exact pours_calls hm1 0 1 .none 73 #[] ⟨rfl, rfl⟩
  · rw [if_neg hs]
    refine does_tail [.e (.c (.rp ⟨b, 0, none⟩)), .e (.c (.str s))] [false] [] 40 [] ⟨80, [.c (.rp ⟨b, 0, none⟩), .a ({ op := 2, path := s, want := 4 } : CallD).cs, .c (.str s), .c (.f 81 [])], [], #[]⟩ (obs := [fun _ => (s.toList == (⟨#[45]⟩ : ByteArray).toList) = false]) hm Tryz.func78 rfl rfl rfl (by kernel_rfl) (by kernel_rfl) (by kernel_rfl) (by kernel_rfl) rfl (by kernel_rfl) ⟨by rw [ByteArray.toList_eq ⟨#[45]⟩]; simpa using hs, trivial⟩ (fun w1 _ hm1 _ => ?_)
    exact tries_calls hm1 { op := 2, path := s, want := 4 } s .cat 81 #[] ⟨rfl, rfl⟩

theorem cat_calls {B : Bd} {w : World} {b : Nat} {m : M} (hm : MOk B w b m) (s : ByteArray) (l : List ByteArray) (a : Option Addr) (n cp : Nat) (hl : StrsAt B w a n cp (s :: l)) (hok : okEach (s :: l) .cat m) :
    Calls Tryz.prog 42 #[bp b, .slice a n cp] w (Does B b w (runEach (s :: l) .cat m)) := by
  have hn := hl.len
  simp only [List.length_cons] at hn
  refine does_tail [.e (.c (.rp ⟨b, 0, none⟩)), .e (.c (.sl a n cp))] [false] [] 40 [] ⟨77, [.c (.rp ⟨b, 0, none⟩), .c (.sl a n cp), .c (.f 78 [])], [], #[]⟩ (obs := [fun _ => ((n : Int) == 0) = false]) hm Tryz.func42 rfl rfl rfl (by kernel_rfl) (by kernel_rfl) (by kernel_rfl) (by kernel_rfl) rfl (by kernel_rfl) ⟨by rw [hn]; simp; omega, trivial⟩ (fun w1 _ hm1 hk1 => ?_)
  exact each_calls hm1 (s :: l) a n cp (hl.keep hk1) .cat cat_word 78 #[] ⟨rfl, rfl⟩ hok

theorem Sees.first {ε : Env} {bs bs' : List NB} {w : World} (h : Sees ε (bs ++ bs') w) : Sees ε bs w :=
  ⟨fun i b hi => h.cells i b (by rw [List.getElem?_append_left (List.getElem?_eq_some_iff.1 hi).1]; exact hi), h.ro⟩

theorem cat11_calls {B : Bd} {w : World} {b : Nat} {m : M} (hm : MOk B w b m) (r : Res) (a : Option Addr) (n cp : Nat) :
    Calls Tryz.prog 81 #[bp b, resV r a n cp] w (Does B b w (m.pours r.n 1 (.closes [r.n]))) := by
  refine enter (B := B) tab_ok [.e (.c (.rp ⟨b, 0, none⟩)), rsX r a n cp] [] [] 20 Tryz.func81 rfl rfl rfl (obs := []) (by kernel_rfl) trivial (fun a1 w1 hc1 => ?_)
  replace hc1 := hc1.pick [(0, .e (.c (.rp ⟨b, 0, none⟩))), (3, .e (.c (.p 0 0)))] [⟨35, r.cs a n cp⟩] (by kernel_rfl) (by kernel_rfl)
  have hmem : Rel (env0 B w) [⟨35, r.cs a n cp⟩] { w1 with drawn := w1.drawn + 1 } := hc1.mem.drew _
  refine gets_draw (S := Sees (env0 B w) [⟨35, r.cs a n cp⟩]) (by kernel_rfl) ?_
  refine dgets_take (fuel := 3) (l' := #[true, true, true, true, true, false, false, false]) tab_ok (by kernel_rfl) hmem.sees [0, 1, 2, 3, 4] _ { tl := [(0, .e (.c (.rp ⟨b, 0, none⟩))), (3, .e (.c (.p 0 0)))], bs := [⟨35, r.cs a n cp⟩] } { tl := [(8, .e (.c (.int .i64 r.n))), (7, .e (.c (.p 0 1))), (6, .e (.c (.int .i64 r.n))), (5, .e (.c (.p 0 1))), (4, .e (.c (.rp ⟨b, 0, none⟩))), (0, .e (.c (.rp ⟨b, 0, none⟩))), (3, .e (.c (.p 0 0)))], bs := [⟨35, r.cs a n cp⟩] } _ (by kernel_rfl) rfl hc1.tl hc1.size (fun p hp => by cases hp) (fun a2 h2 h3 h4 => ?_)
  have hc2 : CRel (env0 B w) Tryz.f81.ntmps { tl := [(8, .e (.c (.int .i64 r.n))), (7, .e (.c (.p 0 1))), (6, .e (.c (.int .i64 r.n))), (5, .e (.c (.p 0 1))), (4, .e (.c (.rp ⟨b, 0, none⟩))), (0, .e (.c (.rp ⟨b, 0, none⟩))), (3, .e (.c (.p 0 0)))], bs := [⟨35, r.cs a n cp⟩] } a2 { w1 with drawn := w1.drawn + 1 } := ⟨h2, h3, h4.trans hc1.defers, hmem⟩
  refine dgets_op (i := 5) (r := some (.e (.c (.nsl 1 0 1 1)))) (σ1 := { tl := [(8, .e (.c (.int .i64 r.n))), (7, .e (.c (.p 0 1))), (6, .e (.c (.int .i64 r.n))), (5, .e (.c (.p 0 1))), (4, .e (.c (.rp ⟨b, 0, none⟩))), (0, .e (.c (.rp ⟨b, 0, none⟩))), (3, .e (.c (.p 0 0)))], bs := [⟨35, r.cs a n cp⟩, ⟨3, [.int .i64 r.n]⟩] }) (σ2 := { tl := [(9, .e (.c (.nsl 1 0 1 1))), (8, .e (.c (.int .i64 r.n))), (7, .e (.c (.p 0 1))), (6, .e (.c (.int .i64 r.n))), (5, .e (.c (.p 0 1))), (4, .e (.c (.rp ⟨b, 0, none⟩))), (0, .e (.c (.rp ⟨b, 0, none⟩))), (3, .e (.c (.p 0 0)))], bs := [⟨35, r.cs a n cp⟩, ⟨3, [.int .i64 r.n]⟩] }) tab_ok hc2 (by kernel_rfl) rfl (by kernel_rfl) (by kernel_rfl) (by kernel_rfl) (fun p hp => by cases hp) (fun a3 w3 hc3 => ⟨Sees.first (bs' := [⟨3, [.int .i64 r.n]⟩]) hc3.mem.sees, ?_⟩)
  have hn3 := (Over.env w _).rel hc3.mem
  have hints : IntsAt B w3 (some ⟨w.heap.size + 1, 0, none⟩) 1 1 [r.n] := by
    refine ⟨rfl, Nat.le_refl _, fun j s hj => ⟨_, rfl, ?_⟩⟩
    have hc := hc3.mem.cells 1 _ rfl
    have hb : (env0 B w).ρ 1 = w.heap.size + 1 := rfl
    rw [hb] at hc
    match j, hj with
    | 0, hj =>
      simp only [List.getElem?_cons_zero, Option.some.injEq] at hj
      subst hj
      exact ⟨by rw [addr_add]; simp [World.cell?, hc, C.real], .inr ⟨_, _, _, hc, by show (3 : Nat) ≠ 66; decide, by show (3 : Nat) ≠ 84; decide, by show (3 : Nat) ≠ 39; decide, fun e => absurd e (by show (3 : Nat) ≠ 35; decide)⟩⟩
    | j + 1, hj => simp at hj
  refine dgets_call (i := 6) (c := ⟨82, [.c (.nsl 1 0 1 1)], [], #[]⟩) hc3.tl (by kernel_rfl) (by kernel_rfl) (by kernel_rfl) (closes_calls w3 [r.n] _ 1 1 hints) (fun e w4 ⟨h5, h6, h7⟩ => ⟨_, h5, ⟨fun i nb hi => ?_, fun ad v hv => sro_keep ((hn3.trans h6).keep B) hv⟩, ?_⟩)
  · have := (Sees.first (bs' := [⟨3, [.int .i64 r.n]⟩]) hc3.mem.sees).cells i nb hi
    rw [h6.block _ (lt_of_block this)]; exact this
  obtain ⟨hm4, he4⟩ := hm.fresh (hn3.trans h6)
  have htl4 := TRel.put hc3.tl 10 (by rw [hc3.size]; decide) (.e (.c (.fv 131 #[bp w3.heap.size])))
  refine dgets_call (σ := { tl := (10, .e (.c (.fv 131 #[bp w3.heap.size]))) :: _, bs := [] }) (i := 7) (c := ⟨79, [.c (.rp ⟨b, 0, none⟩), .c (.int .i64 r.n), .c (.int .i64 1), .c (.fv 131 #[bp w3.heap.size])], [], #[]⟩) htl4 (by kernel_rfl) (by kernel_rfl) (by kernel_rfl)
    (pours_calls hm4 r.n 1 (.closes [r.n]) 131 _ ⟨rfl, _, rfl, h7⟩) (fun e w5 ⟨h8, h9, h10⟩ => ⟨_, h8, ⟨fun i nb hi => ?_, fun ad v hv => sro_keep (((hn3.trans h6).keep B).trans (h10.keep hm4)) hv⟩, ?_⟩)
  · have hc' := (Sees.first (bs' := [⟨3, [.int .i64 r.n]⟩]) hc3.mem.sees).cells i nb hi
    have hc4 := hc'
    rw [← h6.block _ (lt_of_block hc')] at hc4
    have hty : nb.ty = 35 := by
      match i, hi with
      | 0, hi => cases hi; rfl
      | i + 1, hi => simp at hi
    exact (h10.keep hm4).cells hc4 (by rw [hty]; decide) (by rw [hty]; decide) (by rw [hty]; decide) (fun _ => hm.notx (Nat.le_add_right _ _))
  refine dgets_done 0 (by kernel_rfl) ?_
  exact gets_end0 (by rw [Act.put_defers']; exact hc3.defers) Tryz.func81 rfl (by kernel_rfl) ⟨rfl, h9, he4.trans h10⟩

end Go.Proofs.YtoihipolfdhhnaaGreatDoor
