/-
  shown: what must be in any case.
-/
import Derived.Test.YtoihipolfdhhnaaGreatDoorShownA
namespace Go.Proofs.YtoihipolfdhhnaaGreatDoor

theorem strsAt_new {B : Bd} {ε : Env} {bs : List NB} {w : World} (h : Rel ε bs w) (i : Nat) (l : List ByteArray) (hi : bs[i]? = some ⟨9, l.map .str⟩) : StrsAt B w (some ⟨ε.ρ i, 0, none⟩) l.length l.length l := by
  have hc := h.cells i _ hi
  refine ⟨rfl, Nat.le_refl _, fun j s hj => ⟨_, rfl, ?_, .inr ⟨_, _, _, hc, by show (9 : Nat) ≠ 66; decide, by show (9 : Nat) ≠ 84; decide, by show (9 : Nat) ≠ 39; decide, fun e => absurd e (by show (9 : Nat) ≠ 35; decide)⟩⟩⟩
  rw [addr_add]
  simp [World.cell?, hc, hj, C.real]

theorem strsAt_nil (B : Bd) (w : World) : StrsAt B w none 0 0 [] := ⟨rfl, Nat.le_refl _, fun j s h => by simp at h⟩

theorem shown_calls {B : Bd} (w : World) (hg : GlobOk B w) : Calls Tryz.prog 10 #[] w (Gives (.bool true) (fun _ => True) w) := by
  refine enter (B := B) tab_ok [] [] [] 20 Tryz.func10 rfl rfl rfl (obs := []) (by kernel_rfl) trivial (fun a1 w1 hc1 => ?_)
  replace hc1 := hc1.pickx [(10, .e (.c (.nsl 0 0 2 2)))] [⟨9, [.str sCat, .str sA]⟩] [] (by kernel_rfl) (by kernel_rfl)
  have hov1 := Over.env w (sro B w)
  have hN1 := hov1.rel hc1.mem
  -- the first New
  refine gets_new 11 [] sCat [sCat, sA] (.c (.nsl 0 0 2 2)) (some ⟨w.heap.size, 0, none⟩) 2 2 .cat hc1 (hg.keep (hN1.keep B)) (by kernel_rfl) rfl (strsAt_new (B := B) hc1.mem 0 [sCat, sA] rfl) (by decide) prog_cat (by kernel_rfl) (by kernel_rfl) (by kernel_rfl) (by kernel_rfl) (fun a2 w2 ku bu hn2 hku hu hown hc2 => ?_)
  have hN2 := hN1.trans hn2
  have hov2 := hov1.step hc1.mem hN2 noRo
  have hL2 : LU B w w2 ku bu u0 := ⟨hu, fun j ho => Nat.le_trans hN1.size (hown j ho)⟩
  generalize (env0 B w).next 1 w2 noRo = ε2 at hc2 hov2
  refine gets_run tab_ok 10 hc2 (holds_of (obs := []) (by kernel_rfl) trivial) (fun a3 w3 hc3 => ?_)
  have hn3 := hc2.mem.same (hc3.mem.bs (bs' := [⟨9, [.str sCat, .str sA]⟩]) (by kernel_rfl))
  have hL3 := hL2.fresh hn3
  replace hc3 := hc3.pickx [(1, .e (.c (.rp ⟨ku, 0, none⟩)))] [⟨9, [.str sCat, .str sA]⟩] [] (by kernel_rfl) (by kernel_rfl)
  -- the second New
  refine gets_new 12 [] sFalse [] (.c (.sl none 0 0)) none 0 0 .fls hc3 (hg.keep ((hN2.trans hn3).keep B)) (by kernel_rfl) rfl (strsAt_nil B w3) (by decide) prog_false (by kernel_rfl) (by kernel_rfl) (by kernel_rfl) (by kernel_rfl) (fun a4 w4 kv bv hn4 hkv hv hownv hc4 => ?_)
  have hN4 := (hN2.trans hn3).trans hn4
  have hov4 := hov2.step hc3.mem hN4 noRo
  have hL4 := hL3.fresh hn4
  have hV4 : LU B w w4 kv bv v0 := ⟨hv, fun j ho => Nat.le_trans (hN2.trans hn3).size (hownv j ho)⟩
  have hs4 : Sep w4 bu bv := fun j h1 h2 => by
    have h3 := (hfr hL3.u.2.2 hn4 j h1).lt hL3.u.2.2
    have h4 := hownv j h2
    omega
  generalize ε2.next 1 w4 noRo = ε4 at hc4 hov4
  refine gets_run tab_ok 30 hc4 (holds_of (obs := []) (by kernel_rfl) trivial) (fun a5 w5 hc5 => ?_)
  have hn5 := hc4.mem.same (hc5.mem.bs (bs' := [⟨9, [.str sCat, .str sA]⟩]) (by kernel_rfl))
  have hL5 := hL4.fresh hn5
  have hV5 := hV4.fresh hn5
  have hs5 := hs4.fresh hL4.u.2.2 hV4.u.2.2 hn5
  replace hc5 := hc5.pickx [(1, .e (.c (.rp ⟨ku, 0, none⟩))), (2, .e (.c (.rp ⟨kv, 0, none⟩))), (19, .e (.c (.bool false)))] [⟨9, [.str sCat, .str sA]⟩] [] (by kernel_rfl) (by kernel_rfl)
  -- the third New: no program
  refine gets_new_none 20 [] sDog [] (.c (.sl none 0 0)) none 0 0 hc5 (hg.keep ((hN4.trans hn5).keep B)) (by kernel_rfl) rfl (strsAt_nil B w5) (by decide) prog_dog (by kernel_rfl) (by kernel_rfl) (by kernel_rfl) (by kernel_rfl) (fun a6 w6 hn6 hc6 => ?_)
  have hN6 := (hN4.trans hn5).trans hn6
  have hov6 := hov4.step hc5.mem hN6 noRo
  have hL6 := hL5.fresh hn6
  have hV6 := hV5.fresh hn6
  have hs6 := hs5.fresh hL5.u.2.2 hV5.u.2.2 hn6
  generalize ε4.next 1 w6 noRo = ε6 at hc6 hov6
  -- the calls of Next
  refine law_next 40 10 25 [] {} ku bu [(1, .e (.c (.rp ⟨ku, 0, none⟩))), (2, .e (.c (.rp ⟨kv, 0, none⟩)))] [] (rs := ({} : Res).cs none 0 0) (ad := none) (nn := 0) (cp := 0) (obs := []) hov6 hc6 hL6 (by kernel_rfl) trivial (by kernel_rfl) (by kernel_rfl) (by kernel_rfl) rfl (strsAt_nil B w6) (by kernel_rfl) (by kernel_rfl) (by kernel_rfl) (by kernel_rfl) (by kernel_rfl) n1 k1
    (fun ε7 a7 w7 hov7 hL7 hoth7 hc7 => ?_)
  obtain ⟨hV7, hs7⟩ := hoth7 kv bv v0 hV6 hs6
  clear hoth7
  refine law_next 20 10 28 [] { n := 4 } ku bu [(1, .e (.c (.rp ⟨ku, 0, none⟩))), (2, .e (.c (.rp ⟨kv, 0, none⟩))), (3, .e (.c (.p 1 0)))] [⟨39, u1.call.cs⟩] (rs := ({ n := 4 } : Res).cs none 0 0) (ad := none) (nn := 0) (cp := 0) (obs := []) hov7 hc7 hL7 (by kernel_rfl) trivial (by kernel_rfl) (by kernel_rfl) (by kernel_rfl) rfl (strsAt_nil B w7) (by kernel_rfl) (by kernel_rfl) (by kernel_rfl) (by kernel_rfl) (by kernel_rfl) n2 k2
    (fun ε8 a8 w8 hov8 hL8 hoth8 hc8 => ?_)
  obtain ⟨hV8, hs8⟩ := hoth8 kv bv v0 hV7 hs7
  clear hoth8
  refine law_next 20 10 31 [] { text := sX } ku bu [(1, .e (.c (.rp ⟨ku, 0, none⟩))), (2, .e (.c (.rp ⟨kv, 0, none⟩))), (3, .e (.c (.p 1 0))), (4, .e (.c (.p 2 0)))] [⟨39, u2.call.cs⟩] (rs := ({ text := sX } : Res).cs none 0 0) (ad := none) (nn := 0) (cp := 0) (obs := []) hov8 hc8 hL8 (by kernel_rfl) trivial (by kernel_rfl) (by kernel_rfl) (by kernel_rfl) rfl (strsAt_nil B w8) (by kernel_rfl) (by kernel_rfl) (by kernel_rfl) (by kernel_rfl) (by kernel_rfl) n3 k3
    (fun ε9 a9 w9 hov9 hL9 hoth9 hc9 => ?_)
  obtain ⟨hV9, hs9⟩ := hoth9 kv bv v0 hV8 hs8
  clear hoth9
  refine law_next 20 10 34 [] { n := 1 } ku bu [(1, .e (.c (.rp ⟨ku, 0, none⟩))), (2, .e (.c (.rp ⟨kv, 0, none⟩))), (3, .e (.c (.p 1 0))), (4, .e (.c (.p 2 0))), (5, .e (.c (.p 3 0)))] [⟨39, u3.call.cs⟩] (rs := ({ n := 1 } : Res).cs none 0 0) (ad := none) (nn := 0) (cp := 0) (obs := []) hov9 hc9 hL9 (by kernel_rfl) trivial (by kernel_rfl) (by kernel_rfl) (by kernel_rfl) rfl (strsAt_nil B w9) (by kernel_rfl) (by kernel_rfl) (by kernel_rfl) (by kernel_rfl) (by kernel_rfl) n4 k4
    (fun ε10 a10 w10 hov10 hL10 hoth10 hc10 => ?_)
  obtain ⟨hV10, hs10⟩ := hoth10 kv bv v0 hV9 hs9
  clear hoth10
  refine law_next 20 10 37 [] {} ku bu [(1, .e (.c (.rp ⟨ku, 0, none⟩))), (2, .e (.c (.rp ⟨kv, 0, none⟩))), (3, .e (.c (.p 1 0))), (4, .e (.c (.p 2 0))), (5, .e (.c (.p 3 0))), (6, .e (.c (.p 4 0)))] [⟨39, u2.call.cs⟩] (rs := ({} : Res).cs none 0 0) (ad := none) (nn := 0) (cp := 0) (obs := []) hov10 hc10 hL10 (by kernel_rfl) trivial (by kernel_rfl) (by kernel_rfl) (by kernel_rfl) rfl (strsAt_nil B w10) (by kernel_rfl) (by kernel_rfl) (by kernel_rfl) (by kernel_rfl) (by kernel_rfl) n5 k5
    (fun ε11 a11 w11 hov11 hL11 hoth11 hc11 => ?_)
  obtain ⟨hV11, hs11⟩ := hoth11 kv bv v0 hV10 hs10
  clear hoth11
  refine law_next 20 10 40 [] {} ku bu [(1, .e (.c (.rp ⟨ku, 0, none⟩))), (2, .e (.c (.rp ⟨kv, 0, none⟩))), (3, .e (.c (.p 1 0))), (4, .e (.c (.p 2 0))), (5, .e (.c (.p 3 0))), (6, .e (.c (.p 4 0))), (7, .e (.c (.p 5 0)))] [⟨39, u5.call.cs⟩] (rs := ({} : Res).cs none 0 0) (ad := none) (nn := 0) (cp := 0) (obs := []) hov11 hc11 hL11 (by kernel_rfl) trivial (by kernel_rfl) (by kernel_rfl) (by kernel_rfl) rfl (strsAt_nil B w11) (by kernel_rfl) (by kernel_rfl) (by kernel_rfl) (by kernel_rfl) (by kernel_rfl) n6 k6
    (fun ε12 a12 w12 hov12 hL12 hoth12 hc12 => ?_)
  obtain ⟨hV12, hs12⟩ := hoth12 kv bv v0 hV11 hs11
  clear hoth12
  refine law_next 20 10 43 [true, true, true, true, true, true, true, true, true, true, true, true] {} kv bv [(1, .e (.c (.rp ⟨ku, 0, none⟩))), (2, .e (.c (.rp ⟨kv, 0, none⟩))), (3, .e (.c (.p 1 0))), (4, .e (.c (.p 2 0))), (5, .e (.c (.p 3 0))), (6, .e (.c (.p 4 0))), (7, .e (.c (.p 5 0))), (8, .e (.c (.p 6 0)))] [⟨39, u6.call.cs⟩] (rs := ({} : Res).cs none 0 0) (ad := none) (nn := 0) (cp := 0) (obs := []) hov12 hc12 hV12 (by kernel_rfl) trivial (by kernel_rfl) (by kernel_rfl) (by kernel_rfl) rfl (strsAt_nil B w12) (by kernel_rfl) (by kernel_rfl) (by kernel_rfl) (by kernel_rfl) (by kernel_rfl) n7 k7
    (fun ε13 a13 w13 hov13 _ _ hc13 => ?_)
  refine gets_run tab_ok 100 hc13 (holds_of (obs := [fun _ => ((2 : Int) == 2) = true, fun _ => (sA.toList == sA.toList) = true, fun _ => ((4 : Int) == 4) = true, fun _ => ((4 : Int) == 4) = true, fun _ => ((5 : Int) == 5) = true, fun _ => (sX.toList == sX.toList) = true, fun _ => ((4 : Int) == 4) = true, fun _ => ((3 : Int) == 3) = true, fun _ => ((20 : Int) == 20) = true, fun _ => ((0 : Int) == 0) = true, fun _ => ((20 : Int) == 20) = true, fun _ => ((1 : Int) == 1) = true]) (by kernel_rfl)
    ⟨rfl, by simp, rfl, rfl, rfl, by simp, rfl, rfl, rfl, rfl, rfl, rfl, trivial⟩) (fun a14 w14 hc14 => ?_)
  exact gets_fin tab_ok (l := [.c (.bool true)]) hc14 Tryz.func10 (by kernel_rfl) (by kernel_rfl) ⟨rfl, hov13.rel hc14.mem, trivial⟩

end Go.Proofs.YtoihipolfdhhnaaGreatDoor
