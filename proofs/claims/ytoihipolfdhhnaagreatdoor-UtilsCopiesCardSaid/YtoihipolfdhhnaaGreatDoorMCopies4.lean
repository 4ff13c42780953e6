/-
  Part 4 of the proof: CopyC, Opens.
-/
import Derived.ProofKit
import Derived.OpenShut
import Derived.Deep.Slices
import Derived.SliceStrings
import Derived.Test.YtoihipolfdhhnaaGreatDoorMCopies3

namespace Go.Proofs.YtoihipolfdhhnaaGreatDoor

noncomputable def copyK : List Item := (run Tab Tryz.f5.ntmps 60 copyH3 { tl := D3tl none 0 0 ⟨#[]⟩ 0 ⟨#[]⟩ 0 0, bs := [⟨35, ({} : Res).cs none 0 0⟩], orc := [true] }).1

theorem copy_to (w0 : World) (af : Option Addr) (nf cf : Nat) (want : ByteArray) (ku b kr : Nat) (m m' : M) (r : Res) (got : ByteArray) (i n : Nat) (w : World) (a : Act) (h : L3 w0 af nf cf want ku b kr m r got i n w a) (hn : n < 200) (hm : next 10 m r = m') (hok : okNext 10 m r)
    (hk : ∀ w' a', New w0 w' → LU ⟨w0.heap.size, [kr]⟩ w0 w' ku b m' → CRel (lenv w0.heap.size w' [kr]) Tryz.f5.ntmps { tl := (133, .e (.a m'.call.cs)) :: D3tl af nf cf want ku got i n, bs := [⟨35, r.cs none 0 0⟩] } a' w' → Gets Tryz.prog 5 (popX copyK) a' w' (CatR w0)) :
    Gets Tryz.prog 5 copyH3 a w (CatR w0) := by
  obtain ⟨hN, hu, hkr, hnm, hc⟩ := h
  have hlt : decide ((n : Int) < 200) = true := by simp; omega
  refine gets_run tab_ok 60 (hc.feed [true] []) (holds_of (obs := [fun _ => decide ((n : Int) < (200 : Int)) = true]) (by kernel_rfl) ⟨hlt, trivial⟩) (fun a1 w1 hc1 => ?_)
  have hn1 := hc.mem.same (hc1.mem.bs (bs' := [⟨35, r.cs none 0 0⟩]) (by kernel_rfl))
  refine law_next1 (m' := m') 10 133 r ku b 0 ⟨35, r.cs none 0 0⟩ (D3tl af nf cf want ku got i n) (ad := none) (nn := 0) (cp := 0) (rs := r.cs none 0 0) (hN.trans hn1) hc1 (hu.fresh hn1) (by kernel_rfl) (congrArg Value.agg (map_plain _ rfl)) (by rw [hnm]; exact strsAt_nil _ _) (by kernel_rfl) (by kernel_rfl) (by kernel_rfl) rfl (by show (35 : Nat) ≠ 66; decide) (by show (35 : Nat) ≠ 84; decide) (by show w0.heap.size ≤ kr; exact hkr) (fun w' => ⟨by rfl, by rfl, by rfl, by rfl, by rfl, by rfl, by rfl, by rfl, trivial⟩) hm hok (fun a2 w2 hN2 hu2 hc2 => ?_)
  exact hk w2 a2 hN2 hu2 hc2

theorem copy_back (w0 : World) (af : Option Addr) (nf cf : Nat) (want : ByteArray) (ku b kr : Nat) (m : M) (r : Res) (got : ByteArray) (i n : Nat) (w0' w : World) (a : Act) (σ : St) (hN : New w0 w) (hu : LU ⟨w0.heap.size, [kr]⟩ w0 w ku b m) (hkr : w0.heap.size ≤ kr) (hnm : r.names = [])
    (hc : CRel (lenv w0.heap.size w0' [kr]) Tryz.f5.ntmps σ a w) (hb : σ.bs[0]? = some ⟨35, r.cs none 0 0⟩) (hT : AllT (lenv w0.heap.size w0' [kr]).ρ (lenv w0.heap.size w [kr]).ρ σ.tl (D3tl af nf cf want ku got i n)) : L3 w0 af nf cf want ku b kr m r got i n w a :=
  ⟨hN, hu, hkr, hnm, hc.anchor1 w0.heap.size 0 ⟨35, r.cs none 0 0⟩ hb rfl hkr _ [] [] hT⟩

theorem copy_read (w0 : World) (af : Option Addr) (nf cf : Nat) (l : List ByteArray) (hf : OldStrs w0.heap.size w0 af nf cf l) (want : ByteArray) (ku b kr : Nat) (m : M) (r : Res) (got : ByteArray) (i n : Nat) (hi : i ≤ 1000) (w : World) (a : Act) (h : L3 w0 af nf cf want ku b kr m r got i n w a) (hn : n < 200) (hm : next 10 m r = pR) (hok : okNext 10 m r)
    (hk : ∀ w' a' (r' : Res) (i' : Nat), (match l[i]? with | some s => r' = { text := s } ∧ i' = i + 1 | none => r' = {} ∧ i' = i) → L3 w0 af nf cf want ku b kr pR r' got i' (n + 1) w' a' → Gets Tryz.prog 5 copyH3 a' w' (CatR w0)) : Gets Tryz.prog 5 copyH3 a w (CatR w0) := by
  refine copy_to w0 af nf cf want ku b kr m _ r got i n w a h hn hm hok (fun w2 a2 hN2 hu2 hc2 => ?_)
  replace hc2 : CRel (lenv w0.heap.size w2 [kr]) Tryz.f5.ntmps { tl := (133, .e (.a ({ op := 4, fd := 3, n := 256 } : CallD).cs)) :: D3tl af nf cf want ku got i n, bs := [⟨35, r.cs none 0 0⟩] } a2 w2 := hc2
  have hnf := hf.len
  cases hlk : l[i]? with
  | some s =>
    obtain ⟨ad, rfl, g2, g3⟩ := (hf.fresh hN2).at_ i s hlk
    have hkl := (List.getElem?_eq_some_iff.1 hlk).1
    have o3 : decide ((i : Int) < (nf : Int)) = true := by simp; omega
    have hin2 : 0 ≤ (i : Int) ∧ (i : Int) < (nf : Int) := ⟨by omega, by omega⟩
    have hS : oro w0.heap.size w2 (ad.add ((i : Int).toNat * 1)) = some (.string s) := oro_of (by rw [addr_add_block]; exact g3) (by simpa using g2)
    refine gets_run tab_ok 160 (hc2.feed [false, true, false, true] [.e (.c (.str s))]) (holds_of (obs := [fun _ => ((4 : Int) == (20 : Int)) = false, fun _ => ((4 : Int) == (4 : Int)) = true, fun _ => ((3 : Int) != (3 : Int)) = false, fun _ => decide ((↑i : Int) < (↑nf : Int)) = true, fun _ => (0 : Int) ≤ (↑i : Int) ∧ (↑i : Int) < (↑nf : Int), fun ε => Env.ro ε (Addr.add ad (Int.toNat (↑i : Int) * (1 : Nat))) = some (Value.string s)]) (by kernel_rfl) ⟨rfl, rfl, rfl, o3, hin2, hS, trivial⟩) (fun a3 w3 hc3 => ?_)
    replace hc3 := hc3.pickx [(0, .e (.c (.sl (some ad) nf cf))), (5, .e (.c (.bool true))), (6, .e (.c (.str want))), (8, .e (.c (.rp ⟨ku, 0, none⟩))), (13, .e (.c (.str got))), (14, .e (.c (.int .i64 (IntKind.wrap IntKind.i64 ((↑i : Int) + (1 : Int)))))), (15, .e (.c (.p 0 0))), (16, .e (.c (.int .i64 (IntKind.wrap IntKind.i64 ((↑n : Int) + (1 : Int)))))), (17, .e (.c (.p 1 0))), (129, .e (.c (.int .i64 ((↑n : Int))))), (130, .e (.c (.int .i64 (IntKind.wrap IntKind.i64 ((↑n : Int) + (1 : Int)))))), (133, .e (.a (CallD.cs { op := (4 : Int), fd := (3 : Int), n := (256 : Int) }))), (134, .e (.a [.int .i64 0, .int .i64 0, .int .i64 0, .str ⟨#[]⟩, .sl (none) 0 0, .int .i64 0, .int .i64 0, .int .i64 0, .int .i64 0, .int .i64 0, .int .i64 0, .int .i64 0, .int .i64 0, .int .i64 0, .int .i64 0, .int .i64 0, .int .i64 0, .int .i64 0, .int .i64 0])), (135, .e (.c (.p 1 0))), (136, .e (.c (.int .i64 4))), (137, .e (.c (.bool false))), (138, .e (.c (.bool false))), (150, .e (.c (.bool true))), (151, .e (.c (.bool true))), (152, .e (.c (.p 1 4))), (153, .e (.c (.int .i64 3))), (154, .e (.c (.bool false))), (155, .e (.c (.int .i64 ((↑i : Int))))), (156, .e (.c (.sl (some ad) nf cf))), (157, .e (.c (.int .i64 ((↑nf : Int))))), (158, .e (.c (.bool true))), (159, .e (.c (.sl (some ad) nf cf))), (160, .e (.c (.int .i64 ((↑i : Int))))), (161, .e (.c (.rp (Addr.add ad (Int.toNat (↑i : Int) * (1 : Nat)))))), (162, .e (.c (.str s))), (163, .e (.c (.p 0 3))), (164, .e (.c (.int .i64 ((↑i : Int))))), (165, .e (.c (.int .i64 (IntKind.wrap IntKind.i64 ((↑i : Int) + (1 : Int))))))] [⟨35, [.int .i64 0, .int .i64 0, .int .i64 0, .str s, .sl (none) 0 0, .int .i64 0, .int .i64 0, .int .i64 0, .int .i64 0, .int .i64 0, .int .i64 0, .int .i64 0, .int .i64 0, .int .i64 0, .int .i64 0, .int .i64 0, .int .i64 0, .int .i64 0, .int .i64 0]⟩, ⟨39, [.int .i64 4, .str ⟨#[]⟩, .str ⟨#[]⟩, .str ⟨#[]⟩, .int .i64 3, .int .i64 0, .int .i64 256, .int .i64 0, .int .i64 0, .int .i64 0, .int .i64 0, .bool false, .bool false, .bool false, .bool false, .int .i64 0, .bool false, .bool false, .sl (none) 0 0, .sl (none) 0 0]⟩] [] (by kernel_rfl) (by kernel_rfl)
    have hN3 := (Over.lenv hN2 (by simpa using h.kr0)).rel hc3.mem
    have hu3 := hu2.rel35 h.kr0 (List.mem_singleton.2 rfl) (hc2.mem.cells 0 _ rfl) hc3.mem
    refine gets_loop (k' := copyH3) (by kernel_rfl) ?_
    refine hk w3 a3 { text := s } (i + 1) (by rw [hlk]; exact ⟨rfl, rfl⟩) (copy_back w0 (some ad) nf cf want ku b kr pR { text := s } got (i + 1) (n + 1) w2 w3 a3 _ hN3 hu3 h.kr0 rfl hc3 rfl ⟨by rfl, by rfl, by rfl, by rfl, by rfl, ?_, by rfl, ?_, trivial⟩)
    · show some (Value.int .i64 (IntKind.i64.wrap ((i : Int) + 1))) = _; rw [wrap_succ (by omega)]; rfl
    · show some (Value.int .i64 (IntKind.i64.wrap ((n : Int) + 1))) = _; rw [wrap_succ (by omega)]; rfl
  | none =>
    have hkl : l.length ≤ i := List.getElem?_eq_none_iff.1 hlk
    have o3 : decide ((i : Int) < (nf : Int)) = false := by simp; omega
    refine gets_run tab_ok 160 (hc2.feed [false, true, false, false] []) (holds_of (obs := [fun _ => ((4 : Int) == (20 : Int)) = false, fun _ => ((4 : Int) == (4 : Int)) = true, fun _ => ((3 : Int) != (3 : Int)) = false, fun _ => decide ((↑i : Int) < (↑nf : Int)) = false]) (by kernel_rfl) ⟨rfl, rfl, rfl, o3, trivial⟩) (fun a3 w3 hc3 => ?_)
    replace hc3 := hc3.pickx [(0, .e (.c (.sl af nf cf))), (5, .e (.c (.bool true))), (6, .e (.c (.str want))), (8, .e (.c (.rp ⟨ku, 0, none⟩))), (13, .e (.c (.str got))), (14, .e (.c (.int .i64 ((↑i : Int))))), (15, .e (.c (.p 0 0))), (16, .e (.c (.int .i64 (IntKind.wrap IntKind.i64 ((↑n : Int) + (1 : Int)))))), (17, .e (.c (.p 1 0))), (129, .e (.c (.int .i64 ((↑n : Int))))), (130, .e (.c (.int .i64 (IntKind.wrap IntKind.i64 ((↑n : Int) + (1 : Int)))))), (133, .e (.a (CallD.cs { op := (4 : Int), fd := (3 : Int), n := (256 : Int) }))), (134, .e (.a [.int .i64 0, .int .i64 0, .int .i64 0, .str ⟨#[]⟩, .sl (none) 0 0, .int .i64 0, .int .i64 0, .int .i64 0, .int .i64 0, .int .i64 0, .int .i64 0, .int .i64 0, .int .i64 0, .int .i64 0, .int .i64 0, .int .i64 0, .int .i64 0, .int .i64 0, .int .i64 0])), (135, .e (.c (.p 1 0))), (136, .e (.c (.int .i64 4))), (137, .e (.c (.bool false))), (138, .e (.c (.bool false))), (150, .e (.c (.bool true))), (151, .e (.c (.bool true))), (152, .e (.c (.p 1 4))), (153, .e (.c (.int .i64 3))), (154, .e (.c (.bool false))), (155, .e (.c (.int .i64 ((↑i : Int))))), (156, .e (.c (.sl af nf cf))), (157, .e (.c (.int .i64 ((↑nf : Int))))), (158, .e (.c (.bool false)))] [⟨35, [.int .i64 0, .int .i64 0, .int .i64 0, .str ⟨#[]⟩, .sl (none) 0 0, .int .i64 0, .int .i64 0, .int .i64 0, .int .i64 0, .int .i64 0, .int .i64 0, .int .i64 0, .int .i64 0, .int .i64 0, .int .i64 0, .int .i64 0, .int .i64 0, .int .i64 0, .int .i64 0]⟩, ⟨39, [.int .i64 4, .str ⟨#[]⟩, .str ⟨#[]⟩, .str ⟨#[]⟩, .int .i64 3, .int .i64 0, .int .i64 256, .int .i64 0, .int .i64 0, .int .i64 0, .int .i64 0, .bool false, .bool false, .bool false, .bool false, .int .i64 0, .bool false, .bool false, .sl (none) 0 0, .sl (none) 0 0]⟩] [] (by kernel_rfl) (by kernel_rfl)
    have hN3 := (Over.lenv hN2 (by simpa using h.kr0)).rel hc3.mem
    have hu3 := hu2.rel35 h.kr0 (List.mem_singleton.2 rfl) (hc2.mem.cells 0 _ rfl) hc3.mem
    refine gets_loop (k' := copyH3) (by kernel_rfl) ?_
    refine hk w3 a3 {} i (by rw [hlk]; exact ⟨rfl, rfl⟩) (copy_back w0 af nf cf want ku b kr pR {} got i (n + 1) w2 w3 a3 _ hN3 hu3 h.kr0 rfl hc3 rfl ⟨by rfl, by rfl, by rfl, by rfl, by rfl, by rfl, by rfl, ?_, trivial⟩)
    show some (Value.int .i64 (IntKind.i64.wrap ((n : Int) + 1))) = _; rw [wrap_succ (by omega)]; rfl

theorem copy_write (w0 : World) (af : Option Addr) (nf cf : Nat) (want : ByteArray) (ku b kr : Nat) (m : M) (t : ByteArray) (r : Res) (got : ByteArray) (i n : Nat) (w : World) (a : Act) (h : L3 w0 af nf cf want ku b kr m r got i n w a) (hn : n < 200) (hm : next 10 m r = pW t) (hok : okNext 10 m r)
    (hs : got.size + t.size ≤ 1000000) (hk : ∀ w' a', L3 w0 af nf cf want ku b kr (pW t) { n := t.size } (got ++ t) i (n + 1) w' a' → Gets Tryz.prog 5 copyH3 a' w' (CatR w0)) : Gets Tryz.prog 5 copyH3 a w (CatR w0) := by
  refine copy_to w0 af nf cf want ku b kr m _ r got i n w a h hn hm hok (fun w2 a2 hN2 hu2 hc2 => ?_)
  replace hc2 : CRel (lenv w0.heap.size w2 [kr]) Tryz.f5.ntmps { tl := (133, .e (.a ({ op := 5, fd := 4, text := t } : CallD).cs)) :: D3tl af nf cf want ku got i n, bs := [⟨35, r.cs none 0 0⟩] } a2 w2 := hc2
  have o3 : ((got.size + t.size : Nat) : Int) ≤ 9223372036854775807 := by omega
  refine gets_run tab_ok 160 (hc2.feed [false, false, true, false] []) (holds_of (obs := [fun _ => ((5 : Int) == (20 : Int)) = false, fun _ => ((5 : Int) == (4 : Int)) = false, fun _ => ((5 : Int) == (5 : Int)) = true, fun _ => ((4 : Int) != (4 : Int)) = false, fun _ => (↑(ByteArray.size got + ByteArray.size t) : Int) ≤ (9223372036854775807 : Int)]) (by kernel_rfl) ⟨rfl, rfl, rfl, rfl, o3, trivial⟩) (fun a3 w3 hc3 => ?_)
  replace hc3 := hc3.pickx [(0, .e (.c (.sl af nf cf))), (5, .e (.c (.bool true))), (6, .e (.c (.str want))), (8, .e (.c (.rp ⟨ku, 0, none⟩))), (13, .e (.c (.str (got ++ t)))), (14, .e (.c (.int .i64 ((↑i : Int))))), (15, .e (.c (.p 0 0))), (16, .e (.c (.int .i64 (IntKind.wrap IntKind.i64 ((↑n : Int) + (1 : Int)))))), (17, .e (.c (.p 1 0))), (129, .e (.c (.int .i64 ((↑n : Int))))), (130, .e (.c (.int .i64 (IntKind.wrap IntKind.i64 ((↑n : Int) + (1 : Int)))))), (133, .e (.a (CallD.cs { op := (5 : Int), text := t, fd := (4 : Int) }))), (134, .e (.a [.int .i64 0, .int .i64 0, .int .i64 0, .str ⟨#[]⟩, .sl (none) 0 0, .int .i64 0, .int .i64 0, .int .i64 0, .int .i64 0, .int .i64 0, .int .i64 0, .int .i64 0, .int .i64 0, .int .i64 0, .int .i64 0, .int .i64 0, .int .i64 0, .int .i64 0, .int .i64 0])), (135, .e (.c (.p 1 0))), (136, .e (.c (.int .i64 ((5 : Int))))), (137, .e (.c (.bool false))), (138, .e (.c (.bool false))), (150, .e (.c (.bool false))), (151, .e (.c (.bool false))), (166, .e (.c (.bool true))), (167, .e (.c (.bool true))), (168, .e (.c (.p 1 4))), (169, .e (.c (.int .i64 ((4 : Int))))), (170, .e (.c (.bool false))), (171, .e (.c (.p 1 3))), (172, .e (.c (.str t))), (173, .e (.c (.int .i64 ((↑(ByteArray.size t) : Int))))), (174, .e (.c (.p 0 1))), (175, .e (.c (.str got))), (176, .e (.c (.p 1 3))), (177, .e (.c (.str t))), (178, .e (.c (.str (got ++ t))))] [⟨35, [.int .i64 0, .int .i64 ((↑(ByteArray.size t) : Int)), .int .i64 0, .str ⟨#[]⟩, .sl (none) 0 0, .int .i64 0, .int .i64 0, .int .i64 0, .int .i64 0, .int .i64 0, .int .i64 0, .int .i64 0, .int .i64 0, .int .i64 0, .int .i64 0, .int .i64 0, .int .i64 0, .int .i64 0, .int .i64 0]⟩, ⟨39, [.int .i64 ((5 : Int)), .str ({ data := #[] }), .str ({ data := #[] }), .str t, .int .i64 ((4 : Int)), .int .i64 ((0 : Int)), .int .i64 ((0 : Int)), .int .i64 ((0 : Int)), .int .i64 ((0 : Int)), .int .i64 ((0 : Int)), .int .i64 ((0 : Int)), .bool false, .bool false, .bool false, .bool false, .int .i64 ((0 : Int)), .bool false, .bool false, .sl (none) 0 0, .sl (none) 0 0]⟩] [] (by kernel_rfl) (by kernel_rfl)
  have hN3 := (Over.lenv hN2 (by simpa using h.kr0)).rel hc3.mem
  have hu3 := hu2.rel35 h.kr0 (List.mem_singleton.2 rfl) (hc2.mem.cells 0 _ rfl) hc3.mem
  refine gets_loop (k' := copyH3) (by kernel_rfl) ?_
  refine hk w3 a3 (copy_back w0 af nf cf want ku b kr (pW t) { n := t.size } (got ++ t) i (n + 1) w2 w3 a3 _ hN3 hu3 h.kr0 rfl hc3 rfl ⟨by rfl, by rfl, by rfl, by rfl, by rfl, by rfl, by rfl, ?_, trivial⟩)
  show some (Value.int .i64 (IntKind.i64.wrap ((n : Int) + 1))) = _; rw [wrap_succ (by omega)]; rfl

theorem copy_close (w0 : World) (af : Option Addr) (nf cf : Nat) (want : ByteArray) (ku b kr : Nat) (m m' : M) (x : Int) (hx : m'.call = { op := 3, fd := x }) (r : Res) (got : ByteArray) (i n : Nat) (w : World) (a : Act) (h : L3 w0 af nf cf want ku b kr m r got i n w a) (hn : n < 200) (hm : next 10 m r = m') (hok : okNext 10 m r)
    (hk : ∀ w' a', L3 w0 af nf cf want ku b kr m' {} got i (n + 1) w' a' → Gets Tryz.prog 5 copyH3 a' w' (CatR w0)) : Gets Tryz.prog 5 copyH3 a w (CatR w0) := by
  refine copy_to w0 af nf cf want ku b kr m _ r got i n w a h hn hm hok (fun w2 a2 hN2 hu2 hc2 => ?_)
  rw [hx] at hc2
  refine gets_run tab_ok 160 (hc2.feed [false, false, false] []) (holds_of (obs := [fun _ => ((3 : Int) == (20 : Int)) = false, fun _ => ((3 : Int) == (4 : Int)) = false, fun _ => ((3 : Int) == (5 : Int)) = false]) (by kernel_rfl) ⟨rfl, rfl, rfl, trivial⟩) (fun a3 w3 hc3 => ?_)
  replace hc3 := hc3.pickx [(0, .e (.c (.sl af nf cf))), (5, .e (.c (.bool true))), (6, .e (.c (.str want))), (8, .e (.c (.rp ⟨ku, 0, none⟩))), (13, .e (.c (.str got))), (14, .e (.c (.int .i64 ((↑i : Int))))), (15, .e (.c (.p 0 0))), (16, .e (.c (.int .i64 (IntKind.wrap IntKind.i64 ((↑n : Int) + (1 : Int)))))), (17, .e (.c (.p 1 0))), (129, .e (.c (.int .i64 ((↑n : Int))))), (130, .e (.c (.int .i64 (IntKind.wrap IntKind.i64 ((↑n : Int) + (1 : Int)))))), (133, .e (.a (CallD.cs { op := (3 : Int), fd := x }))), (134, .e (.a [.int .i64 0, .int .i64 0, .int .i64 0, .str ⟨#[]⟩, .sl (none) 0 0, .int .i64 0, .int .i64 0, .int .i64 0, .int .i64 0, .int .i64 0, .int .i64 0, .int .i64 0, .int .i64 0, .int .i64 0, .int .i64 0, .int .i64 0, .int .i64 0, .int .i64 0, .int .i64 0])), (135, .e (.c (.p 1 0))), (136, .e (.c (.int .i64 ((3 : Int))))), (137, .e (.c (.bool false))), (138, .e (.c (.bool false))), (150, .e (.c (.bool false))), (151, .e (.c (.bool false))), (166, .e (.c (.bool false))), (167, .e (.c (.bool false)))] [⟨35, [.int .i64 0, .int .i64 0, .int .i64 0, .str ⟨#[]⟩, .sl (none) 0 0, .int .i64 0, .int .i64 0, .int .i64 0, .int .i64 0, .int .i64 0, .int .i64 0, .int .i64 0, .int .i64 0, .int .i64 0, .int .i64 0, .int .i64 0, .int .i64 0, .int .i64 0, .int .i64 0]⟩, ⟨39, [.int .i64 ((3 : Int)), .str ({ data := #[] }), .str ({ data := #[] }), .str ({ data := #[] }), .int .i64 x, .int .i64 ((0 : Int)), .int .i64 ((0 : Int)), .int .i64 ((0 : Int)), .int .i64 ((0 : Int)), .int .i64 ((0 : Int)), .int .i64 ((0 : Int)), .bool false, .bool false, .bool false, .bool false, .int .i64 ((0 : Int)), .bool false, .bool false, .sl (none) 0 0, .sl (none) 0 0]⟩] [] (by kernel_rfl) (by kernel_rfl)
  have hN3 := (Over.lenv hN2 (by simpa using h.kr0)).rel hc3.mem
  have hu3 := hu2.rel35 h.kr0 (List.mem_singleton.2 rfl) (hc2.mem.cells 0 _ rfl) hc3.mem
  refine gets_loop (k' := copyH3) (by kernel_rfl) ?_
  refine hk w3 a3 (copy_back w0 af nf cf want ku b kr m' {} got i (n + 1) w2 w3 a3 _ hN3 hu3 h.kr0 rfl hc3 rfl ⟨by rfl, by rfl, by rfl, by rfl, by rfl, by rfl, by rfl, ?_, trivial⟩)
  show some (Value.int .i64 (IntKind.i64.wrap ((n : Int) + 1))) = _; rw [wrap_succ (by omega)]; rfl

theorem copy_exit (w0 : World) (af : Option Addr) (nf cf : Nat) (want : ByteArray) (ku b kr : Nat) (m : M) (r : Res) (got : ByteArray) (i n : Nat) (w : World) (a : Act) (h : L3 w0 af nf cf want ku b kr m r got i n w a) (hn : n < 200) (hm : next 10 m r = pX) (hok : okNext 10 m r) (hg : got = want) : Gets Tryz.prog 5 copyH3 a w (CatR w0) := by
  refine copy_to w0 af nf cf want ku b kr m _ r got i n w a h hn hm hok (fun w2 a2 hN2 hu2 hc2 => ?_)
  replace hc2 : CRel (lenv w0.heap.size w2 [kr]) Tryz.f5.ntmps { tl := (133, .e (.a ({ op := 20, n := 0 } : CallD).cs)) :: D3tl af nf cf want ku got i n, bs := [⟨35, r.cs none 0 0⟩] } a2 w2 := hc2
  have o1 : (got.toList == want.toList) = true := by rw [hg]; simp
  refine gets_run tab_ok 160 (hc2.feed [true, true, true] []) (holds_of (obs := [fun _ => ((20 : Int) == (20 : Int)) = true, fun _ => (ByteArray.toList got == ByteArray.toList want) = true, fun _ => ((0 : Int) == (0 : Int)) = true]) (by kernel_rfl) ⟨rfl, o1, rfl, trivial⟩) (fun a3 w3 hc3 => ?_)
  replace hc3 := hc3.pickx [(0, .e (.c (.sl af nf cf))), (4, .e (.c (.bool true))), (5, .e (.c (.bool true))), (6, .e (.c (.str want))), (8, .e (.c (.rp ⟨ku, 0, none⟩))), (13, .e (.c (.str got))), (14, .e (.c (.int .i64 ((↑i : Int))))), (15, .e (.c (.p 0 0))), (16, .e (.c (.int .i64 ((↑n : Int))))), (17, .e (.c (.p 1 0))), (133, .e (.a (CallD.cs { op := (20 : Int) }))), (134, .e (.a [.int .i64 0, .int .i64 0, .int .i64 0, .str ⟨#[]⟩, .sl (none) 0 0, .int .i64 0, .int .i64 0, .int .i64 0, .int .i64 0, .int .i64 0, .int .i64 0, .int .i64 0, .int .i64 0, .int .i64 0, .int .i64 0, .int .i64 0, .int .i64 0, .int .i64 0, .int .i64 0])), (135, .e (.c (.p 1 0))), (136, .e (.c (.int .i64 20))), (137, .e (.c (.bool true))), (138, .e (.c (.bool true))), (139, .e (.c (.bool true))), (140, .e (.c (.bool true))), (141, .e (.c (.str got))), (142, .e (.c (.str want))), (143, .e (.c (.bool true))), (144, .e (.c (.bool true))), (145, .e (.c (.bool true))), (146, .e (.c (.p 1 6))), (147, .e (.c (.int .i64 0))), (148, .e (.c (.bool true))), (149, .e (.c (.bool true)))] [⟨35, [.int .i64 0, .int .i64 0, .int .i64 0, .str ⟨#[]⟩, .sl (none) 0 0, .int .i64 0, .int .i64 0, .int .i64 0, .int .i64 0, .int .i64 0, .int .i64 0, .int .i64 0, .int .i64 0, .int .i64 0, .int .i64 0, .int .i64 0, .int .i64 0, .int .i64 0, .int .i64 0]⟩, ⟨39, [.int .i64 20, .str ⟨#[]⟩, .str ⟨#[]⟩, .str ⟨#[]⟩, .int .i64 0, .int .i64 0, .int .i64 0, .int .i64 0, .int .i64 0, .int .i64 0, .int .i64 0, .bool false, .bool false, .bool false, .bool false, .int .i64 0, .bool false, .bool false, .sl (none) 0 0, .sl (none) 0 0]⟩] [] (by kernel_rfl) (by kernel_rfl)
  exact gets_fin tab_ok (l := [.c (.bool true)]) hc3 Tryz.func5 (by kernel_rfl) (by kernel_rfl) ⟨rfl, (Over.lenv hN2 (by simpa using h.kr0)).rel hc3.mem, trivial⟩

/-- All pieces that are left, and the end. -/
theorem copy_all (w0 : World) (af : Option Addr) (nf cf : Nat) (l : List ByteArray) (hf : OldStrs w0.heap.size w0 af nf cf l) (hl : l.length ≤ 20) (hg : ∀ s ∈ l, Good s) (ku b kr : Nat) : ∀ (q p : List ByteArray), l = p ++ q → ∀ (m : M) (r : Res) (w : World) (a : Act), next 10 m r = pR → okNext 10 m r →
    L3 w0 af nf cf (addAll e0 l) ku b kr m r (addAll e0 p) p.length (2 * p.length) w a → Gets Tryz.prog 5 copyH3 a w (CatR w0) := by
  intro q
  induction q with
  | nil =>
    intro p hp m r w a hm hok h
    have hpl : l = p := by simpa using hp
    subst hpl
    refine copy_read w0 af nf cf l hf _ ku b kr m r _ _ _ (by omega) w a h (by omega) hm hok (fun w' a' r' i' hr h' => ?_)
    rw [List.getElem?_eq_none (Nat.le_refl _)] at hr
    obtain ⟨rfl, rfl⟩ := hr
    refine copy_close w0 af nf cf _ ku b kr _ pC1 3 rfl _ _ _ _ w' a' h' (by omega) cp_uRe cp_vRe (fun w2 a2 h2 => ?_)
    refine copy_close w0 af nf cf _ ku b kr _ pC2 4 rfl _ _ _ _ w2 a2 h2 (by omega) cp_uC1 cp_vC1 (fun w3 a3 h3 => ?_)
    exact copy_exit w0 af nf cf _ ku b kr _ _ _ _ _ w3 a3 h3 (by omega) cp_uC2 cp_vC2 rfl
  | cons s q ih =>
    intro p hp m r w a hm hok h
    have hll : l.length = p.length + (q.length + 1) := by rw [hp]; simp
    have hls : l[p.length]? = some s := by rw [hp]; simp
    have hgs : Good s := hg s (by rw [hp]; simp)
    refine copy_read w0 af nf cf l hf _ ku b kr m r _ _ _ (by omega) w a h (by omega) hm hok (fun w' a' r' i' hr h' => ?_)
    rw [hls] at hr
    obtain ⟨rfl, rfl⟩ := hr
    have hsz := addAll_size p e0 (fun x hx => (hg x (by rw [hp]; simp [hx])).2)
    have he0 : e0.size = 0 := rfl
    have hs2 := hgs.2
    refine copy_write w0 af nf cf _ ku b kr _ s _ _ _ _ w' a' h' (by omega) (cp_uRt s hgs.1) (cp_vRt s hgs.1) (by omega) (fun w2 a2 h2 => ?_)
    rw [← addAll_snoc] at h2
    have hpl : (p ++ [s]).length = p.length + 1 := by simp
    refine ih (p ++ [s]) (by rw [hp]; simp) _ _ w2 a2 (cp_uW s) (cp_vW s) ?_
    rw [hpl, show 2 * (p.length + 1) = 2 * p.length + 1 + 1 by omega]
    exact h2

theorem copies_twenty (w0 : World) (hB : Base w0) (af : Option Addr) (nf cf : Nat) (mode : Int) (l : List ByteArray) (hf : OldStrs w0.heap.size w0 af nf cf l) (hl20 : l.length ≤ 20) (w : World) (a : Act) (hN : New w0 w) (hc : D1 w0 w a af nf cf mode e0 0) : Gets Tryz.prog 5 copyH1 a w (CatR w0) := by
  have he0 : e0.size = 0 := rfl
  refine copies_in w0 af nf cf mode l hf hl20 (addAll e0 l) (fun hg w1 a1 hN1 hc1 => ?_) l [] rfl (fun _ h => by cases h) e0 w a (by omega) rfl hN hc
  refine copies_play w0 hB af nf cf mode _ _ w1 a1 hN1 (by have := hf.len; omega) hc1 (fun ku b kr w' a' h => ?_)
  exact copy_all w0 af nf cf l hf hl20 hg ku b kr l [] rfl _ _ w' a' (cp_u4 mode) (cp_v4 mode) h

theorem copies_calls (w0 : World) (hB : Base w0) (af : Option Addr) (nf cf : Nat) (mode : Int) (l : List ByteArray) (hf : OldStrs w0.heap.size w0 af nf cf l) : Calls Tryz.prog 5 #[.slice af nf cf, .int .i64 mode] w0 (CatR w0) := by
  have hG : GlobOk ⟨w0.heap.size, []⟩ w0 := GlobOk.start hB
  have hnf := hf.len
  refine enter (B := ⟨w0.heap.size, []⟩) tab_ok [.e (.c (.sl af nf cf)), .e (.c (.int .i64 mode))] [] [] 20 Tryz.func5 rfl rfl rfl (obs := []) (by kernel_rfl) trivial (fun a1 w1 hc1 => ?_)
  have hn1 := (Over.env w0 (sro ⟨w0.heap.size, []⟩ w0)).rel hc1.mem
  have hc2 := hc1.anchor0 w0.heap.size [(0, .e (.c (.sl af nf cf))), (1, .e (.c (.int .i64 mode)))] [] [] ⟨by rfl, by rfl, trivial⟩
  refine gets_pure (Q := fun _ => True) (c := ⟨10, [], [], #[]⟩) 18 (.e (.c (.bool true))) [] [] hc2 (by kernel_rfl) (by kernel_rfl) (by kernel_rfl) (by kernel_rfl) (shown_calls w1 (hG.keep (hn1.keep _))) (by kernel_rfl) (by kernel_rfl) (fun a3 w3 hn3 _ hc3 => ?_)
  have hN3 := hn1.trans hn3
  have hc4 := hc3.anchor0 w0.heap.size [(0, .e (.c (.sl af nf cf))), (1, .e (.c (.int .i64 mode))), (18, .e (.c (.bool true)))] [] [] ⟨by rfl, by rfl, by rfl, trivial⟩
  clear hc1 hc2 hc3
  by_cases h20 : l.length ≤ 20
  · have o1 : decide ((nf : Int) > 20) = false := by simp; omega
    refine gets_run tab_ok 60 (hc4.feed [false] []) (holds_of (obs := [fun _ => decide ((↑nf : Int) > (20 : Int)) = false]) (by kernel_rfl) ⟨o1, trivial⟩) (fun a5 w5 hc5 => ?_)
    replace hc5 := hc5.pickx [(0, .e (.c (.sl af nf cf))), (1, .e (.c (.int .i64 mode))), (5, .e (.c (.bool true))), (6, .e (.c (.str ⟨#[]⟩))), (7, .e (.c (.int .i64 0)))] [] [] (by kernel_rfl) (by kernel_rfl)
    have hn5 := (Over.lenv (New.refl w3) (by simp)).rel hc5.mem
    have hc6 := hc5.anchor0 w0.heap.size (D1tl af nf cf mode e0 0) [] [] ⟨by rfl, by rfl, by rfl, by rfl, by rfl, trivial⟩
    refine gets_loop (k' := copyH1) (by kernel_rfl) ?_
    exact copies_twenty w0 hB af nf cf mode l hf h20 w5 a5 (hN3.trans hn5) hc6
  · have o1 : decide ((nf : Int) > 20) = true := by simp; omega
    have hcap := hf.cap
    refine gets_run tab_ok 60 (hc4.feed [true] []) (holds_of (obs := [fun _ => decide ((↑nf : Int) > (20 : Int)) = true, fun _ => ((0 : Int) ≤ (20 : Int) ∧ (20 : Int) ≤ (↑cf : Int)) ∧ True]) (by kernel_rfl) ⟨o1, ⟨⟨by omega, by omega⟩, trivial⟩, trivial⟩) (fun a5 w5 hc5 => ?_)
    replace hc5 := hc5.pickx [(0, .e (.c (.sl (if cf = loOf none then af else Option.map (fun (x : Addr) => Addr.add x (loOf none * (1 : Nat))) af) 20 (cf - loOf none)))), (1, .e (.c (.int .i64 mode))), (5, .e (.c (.bool true))), (6, .e (.c (.str ⟨#[]⟩))), (7, .e (.c (.int .i64 0)))] [] [] (by kernel_rfl) (by kernel_rfl)
    have hn5 := (Over.lenv (New.refl w3) (by simp)).rel hc5.mem
    have hf' : OldStrs w0.heap.size w0 af 20 cf (l.take 20) := ⟨by rw [List.length_take]; omega, by omega, fun j x hj => hf.at_ j x (by
      have hjl := (List.getElem?_eq_some_iff.1 hj).1
      rw [List.length_take] at hjl
      rw [List.getElem?_take_of_lt (by omega)] at hj
      exact hj)⟩
    have hc6 := hc5.anchor0 w0.heap.size (D1tl af 20 cf mode e0 0) [] [] ⟨by show some (Value.slice (if cf = 0 then af else af.map (·.add (0 * 1))) 20 cf) = _; rw [map_add0]; rfl, by rfl, by rfl, by rfl, by rfl, trivial⟩
    refine gets_loop (k' := copyH1) (by kernel_rfl) ?_
    exact copies_twenty w0 hB af 20 cf mode (l.take 20) hf' (by rw [List.length_take]; omega) w5 a5 (hN3.trans hn5) hc6

end Go.Proofs.YtoihipolfdhhnaaGreatDoor

namespace Go.Proofs.YtoihipolfdhhnaaGreatDoor
open Go.ChangeShapes Go.WideShapes Go.ChangeAt Go.RowKit

theorem strs_open {H : Type} {enc : TypeId × Value → H} {W : World} {fuel : Nat} {u : Value} {x : DataW H × List MemPlace} (h : DataW.trod enc Tryz.prog W 0 (fun _ => true) true fuel 22 [u] = some x) :
    ∃ (a : Option Addr) (n c : Nat) (l : List ByteArray), u = .slice a n c ∧ n = l.length ∧ n ≤ c ∧ ∀ i s, l[i]? = some s → ∃ ad, a = some ad ∧ W.cell? (ad.add i) = some (.string s) ∧ ad.block < W.heap.size := by
  rcases open_strings Tryz.underlying22 Tryz.underlying9 (by kernel_rfl) h with ⟨hcs, _⟩ | ⟨a, len, cap, ss, hcs, _, hl, _, hz, _, hcell, _⟩
  · simp only [List.cons.injEq, and_true] at hcs
    exact ⟨none, 0, 0, [], hcs, rfl, Nat.le_refl _, fun i s hi => by simp at hi⟩
  · simp only [List.cons.injEq, and_true] at hcs
    have hz' : ss.length = cap := hz
    refine ⟨some a, len, cap, ss.take len, hcs, by rw [List.length_take]; omega, hl, fun i s hi => ⟨a, rfl, ?_⟩⟩
    have hil := (List.getElem?_eq_some_iff.1 hi).1
    rw [List.length_take] at hil
    rw [List.getElem?_take_of_lt (by omega)] at hi
    have := hcell i (by omega)
    rw [List.getD, hi] at this
    have hlt := World.block_lt_of_cell? W _ this
    rw [addr_add_block] at hlt
    exact ⟨this, hlt⟩

/-- A list of lists of texts that reads as data. -/
theorem open_files {H : Type} {enc : TypeId × Value → H} {W : World} {v : Value} {d : DataW H} {p : List MemPlace} (h : DataW.Trod enc Tryz.prog W 0 (fun _ => true) true 44 v d p) (hv : ∃ a n c, v = .slice a n c) :
    ∃ a n c files, v = .slice a n c ∧ FilesAt W.heap.size W a n c files := by
  obtain ⟨a0, n0, c0, rfl⟩ := hv
  obtain ⟨fuel, hd⟩ := h
  have hd' : DataW.trod enc Tryz.prog W 0 (fun _ => true) true fuel 44 [.slice a0 n0 c0] = some (d, p) := hd
  rcases Deep.open_slice1 Tryz.underlying44 (by kernel_rfl) hd' with ⟨hcs, _⟩ | ⟨a, len, cap, m, n, V, D, Pl, hcs, _, hl, hm, hmm, hx, hcell⟩
  · simp only [List.cons.injEq, and_true] at hcs
    exact ⟨none, 0, 0, [], hcs, ⟨rfl, Nat.le_refl _, fun j x hj => by simp at hj⟩⟩
  · simp only [List.cons.injEq, and_true] at hcs
    have hmm' : m = cap := hmm
    have hk : ∀ i, ∃ l : List ByteArray, i < len → ∃ a' n' c', V i = .slice a' n' c' ∧ n' = l.length ∧ n' ≤ c' ∧ ∀ k s, l[k]? = some s → ∃ ad', a' = some ad' ∧ W.cell? (ad'.add k) = some (.string s) ∧ ad'.block < W.heap.size := by
      intro i
      by_cases hi : i < len
      · obtain ⟨a', n', c', l, h1, h2, h3, h4⟩ := strs_open (hcell i (by omega)).2
        exact ⟨l, fun _ => ⟨a', n', c', h1, h2, h3, h4⟩⟩
      · exact ⟨[], fun h => absurd h hi⟩
    refine ⟨some a, len, cap, (List.range len).map fun i => (hk i).choose, hcs, ⟨by simp, hl, fun j x hj => ?_⟩⟩
    have hjl := (List.getElem?_eq_some_iff.1 hj).1
    simp only [List.length_map, List.length_range] at hjl
    rw [List.getElem?_map, List.getElem?_range hjl] at hj
    simp only [Option.map_some, Option.some.injEq] at hj
    obtain ⟨a', n', c', h1, h2, h3, h4⟩ := (hk j).choose_spec hjl
    have hc := (hcell j (by omega)).1
    have hlt := World.block_lt_of_cell? W _ hc
    rw [addr_add_block] at hlt
    rw [h1] at hc
    rw [hj] at h2 h4
    exact ⟨a, a', n', c', rfl, hc, hlt, h2, h3, h4⟩

/-- A list of texts that reads as data. -/
theorem open_strs {H : Type} {enc : TypeId × Value → H} {W : World} {v : Value} {d : DataW H} {p : List MemPlace} (h : DataW.Trod enc Tryz.prog W 0 (fun _ => true) true 22 v d p) (hv : ∃ a n c, v = .slice a n c) :
    ∃ (a : Option Addr) (n c : Nat) (l : List ByteArray), v = .slice a n c ∧ n = l.length ∧ n ≤ c ∧ ∀ i s, l[i]? = some s → ∃ ad, a = some ad ∧ W.cell? (ad.add i) = some (.string s) ∧ ad.block < W.heap.size := by
  obtain ⟨a0, n0, c0, rfl⟩ := hv
  obtain ⟨fuel, hd⟩ := h
  have hd' : DataW.trod enc Tryz.prog W 0 (fun _ => true) true fuel 22 [.slice a0 n0 c0] = some (d, p) := hd
  exact strs_open hd'

/-- A number that reads as data. -/
theorem open_int {H : Type} {enc : TypeId × Value → H} {W : World} {v : Value} {d : DataW H} {p : List MemPlace} (h : DataW.Trod enc Tryz.prog W 0 (fun _ => true) true 3 v d p) (hv : ∃ n, v = .int .i64 n) :
    ∃ n : Int, v = .int .i64 n ∧ -9223372036854775808 ≤ n ∧ n ≤ 9223372036854775807 := by
  obtain ⟨n0, rfl⟩ := hv
  obtain ⟨fuel, hd⟩ := h
  have hd' : DataW.trod enc Tryz.prog W 0 (fun _ => true) true fuel 3 [.int .i64 n0] = some (d, p) := hd
  obtain ⟨z, g1, _, g3⟩ := DataW.trod_int Tryz.underlying3 hd'
  simp only [List.cons.injEq, Value.int.injEq, true_and, and_true] at g1
  subst g1
  refine ⟨n0, rfl, ?_⟩
  simp only [Lit.wf, Bool.and_eq_true, decide_eq_true_eq] at g3
  have m1 : IntKind.i64.min = -9223372036854775808 := by decide
  have m2 : IntKind.i64.max = 9223372036854775807 := by decide
  rw [m1, m2] at g3
  exact g3

end Go.Proofs.YtoihipolfdhhnaaGreatDoor
