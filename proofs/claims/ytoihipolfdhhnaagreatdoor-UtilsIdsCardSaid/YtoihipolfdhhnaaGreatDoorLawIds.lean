/-
  UtilsIds: what the statement's function comes to. Printed by wip/tools/law_ids.py.
-/
import Derived.Test.YtoihipolfdhhnaaGreatDoorShownB
import Derived.Test.YtoihipolfdhhnaaGreatDoorDigits
namespace Go.Proofs.YtoihipolfdhhnaaGreatDoor
set_option linter.unusedSimpArgs false

abbrev sId : ByteArray := ⟨#[105, 100]⟩
def i0 : M := (m0 sId).push (.start .id [])
def i1 : M := ⟨sId, 0, [.exit0], some .id, { op := 22 }, false⟩
def i2 (c : CredD) : M := ⟨sId, 0, [.exit0], some (.say 1 (idText c) .none), { op := 5, fd := 1, text := idText c }, false⟩
def i3 : M := ⟨sId, 0, [], none, { op := 20, n := 0 }, true⟩

theorem prog_id : progOf sId = some .id := by simp [progOf]
theorem ni1 : next 10 i0 {} = i1 := by simp [next, i0, i1, m0, M.push, turn, runK, runD, M.sys]
theorem ki1 : okNext 10 i0 {} := by simp [okNext, i0, m0, M.push, okTurn, okK, okD, runK, runD, M.sys]
theorem ni2 (c : CredD) : next 10 i1 { cred := c } = i2 c := by simp [next, i1, i2, turn, runR, M.say, M.sys]
theorem ki2 (c : CredD) (h : CredIn c) : okNext 10 i1 { cred := c } := by simp [okNext, i1, okTurn, okR, runR, M.say, M.sys, h]
theorem ni3 (c : CredD) : next 10 (i2 c) { n := (idText c).size } = i3 := by
  simp [next, i2, i3, turn, runR, runK, M.said, M.exit]; decide
theorem ki3 (c : CredD) : okNext 10 (i2 c) { n := (idText c).size } := by
  simp [okNext, i2, okTurn, okR, okK, runR, runK, M.said, M.exit]

theorem CRel.seen {ε : Env} {nt : Nat} {tl : List (Nat × SV)} {bs : List NB} {a : Act} {w w' : World} (orc : List Bool) (htl : TRel ε.ρ tl a.tmps) (hs : a.tmps.size = nt) (hd : a.defers = []) (hr : Rel ε bs w) (hs' : Sees ε bs w')
    (hb : (tl.all fun x => x.2.below bs.length) = true) (hb' : (bs.all fun b => b.cs.all (C.below bs.length)) = true) : CRel (ε.next bs.length w' noRo) nt { tl := tl, bs := bs, orc := orc } a w' := by
  have := CRel.next (ε := ε) (nt := nt) (tl := tl) (bs' := bs) (a := a) (w' := w') bs.length noRo htl hs hd rfl hr.inj hs'.cells (fun _ _ h => by cases h) hb hb'
  exact ⟨this.tl, this.size, this.defers, this.mem⟩

theorem ids_calls (w : World) (hB : Base w) (c : CredD) (hc : CredIn c) : Calls Tryz.prog 7 #[.agg (plainR c.cs)] w (Gives (.bool true) (fun _ => True) w) := by
  have hg : GlobOk w.heap.size w := GlobOk.start hB
  generalize w.heap.size = B at hg
  have z1 : (⟨#[117, 105, 100, 61]⟩ : ByteArray).size = 4 := rfl
  have z2 : (⟨#[32, 103, 105, 100, 61]⟩ : ByteArray).size = 5 := rfl
  have z3 : (⟨#[32, 101, 117, 105, 100, 61]⟩ : ByteArray).size = 6 := rfl
  have z4 : (⟨#[32, 101, 103, 105, 100, 61]⟩ : ByteArray).size = 6 := rfl
  have z5 : (⟨#[10]⟩ : ByteArray).size = 1 := rfl
  have y1 := dec_size c.real_ hc.r0 hc.r1
  have y2 := dec_size c.group hc.g0 hc.g1
  have y3 := dec_size c.eff hc.e0 hc.e1
  have y4 := dec_size c.effGroup hc.f0 hc.f1
  have p1 : (((⟨#[117, 105, 100, 61]⟩ : ByteArray).size + (dec c.real_).size : Nat) : Int) ≤ 9223372036854775807 := by
    simp only [ByteArray.size_append, z1, z2, z3, z4, z5]
    omega
  have p2 : ((((⟨#[117, 105, 100, 61]⟩ : ByteArray) ++ dec c.real_).size + (⟨#[32, 103, 105, 100, 61]⟩ : ByteArray).size : Nat) : Int) ≤ 9223372036854775807 := by
    simp only [ByteArray.size_append, z1, z2, z3, z4, z5]
    omega
  have p3 : ((((⟨#[117, 105, 100, 61]⟩ : ByteArray) ++ dec c.real_ ++ (⟨#[32, 103, 105, 100, 61]⟩ : ByteArray)).size + (dec c.group).size : Nat) : Int) ≤ 9223372036854775807 := by
    simp only [ByteArray.size_append, z1, z2, z3, z4, z5]
    omega
  refine enter (B := B) tab_ok [.e (.a c.cs)] [] [] 20 Tryz.func7 rfl rfl rfl (obs := []) (by kernel_rfl) trivial (fun a1 w1 hc1 => ?_)
  replace hc1 := hc1.pickx [(1, .e (.c (.p 0 0)))] [⟨33, c.cs⟩] [] (by kernel_rfl) (by kernel_rfl)
  have hov1 := Over.env w (sro B w)
  have hN1 := hov1.rel hc1.mem
  refine gets_pure (Q := fun _ => True) (c := ⟨10, [], [], #[]⟩) 9 (.e (.c (.bool true))) [] [] hc1 (by kernel_rfl) (by kernel_rfl) (by kernel_rfl) (by kernel_rfl) (shown_calls w1 (hg.keep (hN1.keep B))) (by kernel_rfl) (by kernel_rfl) (fun a2 w2 hn2 _ hc2 => ?_)
  have hov2 := hov1.next hc1.mem hn2 (sro B w)
  refine gets_run tab_ok 20 hc2 (holds_of (obs := []) (by kernel_rfl) trivial) (fun a3 w3 hc3 => ?_)
  replace hc3 := hc3.pickx [(1, .e (.c (.p 0 0))), (3, .e (.c (.bool true))), (10, .e (.c (.nsl 1 0 1 1)))] [⟨33, c.cs⟩, ⟨9, [.str sId]⟩] [] (by kernel_rfl) (by kernel_rfl)
  have hN3 := hov2.rel hc3.mem
  refine gets_new 11 [] sId [sId] (.c (.nsl 1 0 1 1)) _ 1 1 .id hc3 (hg.keep (hN3.keep B)) (by kernel_rfl) rfl (strsAt_new (B := B) hc3.mem 1 [sId] rfl) (by decide) prog_id (by kernel_rfl) (by kernel_rfl) (by kernel_rfl) (by kernel_rfl) (fun a4 w4 ku bu hn4 hku hu hown hc4 => ?_)
  have hN4 := hN3.trans hn4
  have hov4 := hov2.step hc3.mem hN4 noRo
  have hL4 : LU B w w4 ku bu i0 := ⟨hu, fun j ho => Nat.le_trans hN3.size (hown j ho)⟩
  clear hc1 hc2 hc3
  have key : ∃ ε, Over w ε ∧ CRel ε Tryz.f7.ntmps { tl := [(11, .e (.c (.rp ⟨ku, 0, none⟩))), (1, .e (.c (.p 0 0))), (3, .e (.c (.bool true))), (10, .e (.c (.nsl 1 0 1 1)))], bs := [⟨33, c.cs⟩, ⟨9, [.str sId]⟩] } a4 w4 := ⟨_, hov4, hc4⟩
  clear hov4 hc4
  obtain ⟨ε4, hov4, hc4⟩ := key
  refine law_next 30 10 16 [] {} ku bu [(1, .e (.c (.p 0 0))), (3, .e (.c (.bool true))), (4, .e (.c (.rp ⟨ku, 0, none⟩)))] [] (rs := ({} : Res).cs none 0 0) (ad := none) (nn := 0) (cp := 0) (obs := []) hov4 hc4 hL4 (by kernel_rfl) trivial (by kernel_rfl) (by kernel_rfl) (by kernel_rfl) rfl (strsAt_nil B w4) (by kernel_rfl) (by kernel_rfl) (by kernel_rfl) (by kernel_rfl) (by kernel_rfl) ni1 ki1
    (fun ε5 a5 w5 hov5 hL5 _ hc5 => ?_)
  refine law_next 30 10 20 [] { cred := c } ku bu [(1, .e (.c (.p 0 0))), (3, .e (.c (.bool true))), (4, .e (.c (.rp ⟨ku, 0, none⟩))), (5, .e (.c (.p 2 0)))] [⟨39, i1.call.cs⟩] (rs := ({ cred := c } : Res).cs none 0 0) (ad := none) (nn := 0) (cp := 0) (obs := []) hov5 hc5 hL5 (by kernel_rfl) trivial (by kernel_rfl) (by kernel_rfl) (by kernel_rfl) rfl (strsAt_nil B w5) (by kernel_rfl) (by kernel_rfl) (by kernel_rfl) (by kernel_rfl) (by kernel_rfl) (ni2 c) (ki2 c hc)
    (fun ε6 a6 w6 hov6 hL6 _ hc6 => ?_)
  refine gets_run tab_ok 10 hc6 (holds_of (obs := []) (by kernel_rfl) trivial) (fun a7 w7 hc7 => ?_)
  have hgr7 := hc6.mem.grow (ex := [⟨39, (i2 c).call.cs⟩]) (hc7.mem.bs (by kernel_rfl))
  have hL7 := hL6.fresh hgr7
  replace hc7 := hc7.pickx [(1, .e (.c (.p 0 0))), (3, .e (.c (.bool true))), (4, .e (.c (.rp ⟨ku, 0, none⟩))), (5, .e (.c (.p 2 0))), (6, .e (.c (.p 3 0)))] [⟨33, c.cs⟩, ⟨9, [.str sId]⟩, ⟨39, i1.call.cs⟩, ⟨39, (i2 c).call.cs⟩] [] (by kernel_rfl) (by kernel_rfl)
  have hmem : Rel ε6 [⟨33, c.cs⟩, ⟨9, [.str sId]⟩, ⟨39, i1.call.cs⟩, ⟨39, (i2 c).call.cs⟩] { w7 with drawn := w7.drawn + 1 } := hc7.mem.drew _
  have hN7 := hov6.rel hmem
  have hd7 : New w7 { w7 with drawn := w7.drawn + 1 } := ⟨rfl, rfl, rfl, Nat.le_refl _, fun _ _ => rfl⟩
  refine gets_draw (S := Sees ε6 [⟨33, c.cs⟩, ⟨9, [.str sId]⟩, ⟨39, i1.call.cs⟩, ⟨39, (i2 c).call.cs⟩]) (by kernel_rfl) ?_
  refine dgets_take (fuel := 6) (l' := #[true, true, false, false, false, true, true, false, false, false]) tab_ok (by kernel_rfl) hmem.sees [0, 1, 5, 6] _ { tl := [(1, .e (.c (.p 0 0))), (3, .e (.c (.bool true))), (4, .e (.c (.rp ⟨ku, 0, none⟩))), (5, .e (.c (.p 2 0))), (6, .e (.c (.p 3 0)))], bs := [⟨33, c.cs⟩, ⟨9, [.str sId]⟩, ⟨39, i1.call.cs⟩, ⟨39, (i2 c).call.cs⟩] } { tl := [(27, .e (.c (.int .i64 c.group))), (26, .e (.c (.p 0 3))), (22, .e (.c (.int .i64 c.real_))), (21, .e (.c (.p 0 0))), (1, .e (.c (.p 0 0))), (3, .e (.c (.bool true))), (4, .e (.c (.rp ⟨ku, 0, none⟩))), (5, .e (.c (.p 2 0))), (6, .e (.c (.p 3 0)))], bs := [⟨33, c.cs⟩, ⟨9, [.str sId]⟩, ⟨39, i1.call.cs⟩, ⟨39, (i2 c).call.cs⟩] } _ (by kernel_rfl) rfl hc7.tl hc7.size (fun p hp => by cases hp) (fun a8 h2 h3 h4 => ?_)
  refine dgets_pure (nt := Tryz.f7.ntmps) (σ := { tl := [(27, .e (.c (.int .i64 c.group))), (26, .e (.c (.p 0 3))), (22, .e (.c (.int .i64 c.real_))), (21, .e (.c (.p 0 0))), (1, .e (.c (.p 0 0))), (3, .e (.c (.bool true))), (4, .e (.c (.rp ⟨ku, 0, none⟩))), (5, .e (.c (.p 2 0))), (6, .e (.c (.p 3 0)))], bs := [] }) (i := 2) (c := ⟨17, [.c (.int .i64 c.real_)], [], #[]⟩) 23 (.e (.c (.str (dec c.real_)))) h2 h3 hmem.sees (by kernel_rfl) (by kernel_rfl) (by kernel_rfl) (by kernel_rfl) (by kernel_rfl) (digits_calls _ hc.r0 hc.r1 _) (fun a9 w9 h5 h6 h7 hn9 hs9 => ?_)
  refine dgets_take (fuel := 3) (l' := #[true, true, true, true, true, true, true, false, false, false]) tab_ok (by kernel_rfl) hs9 [3, 4] _ { tl := [(23, .e (.c (.str (dec c.real_)))), (27, .e (.c (.int .i64 c.group))), (26, .e (.c (.p 0 3))), (22, .e (.c (.int .i64 c.real_))), (21, .e (.c (.p 0 0))), (1, .e (.c (.p 0 0))), (3, .e (.c (.bool true))), (4, .e (.c (.rp ⟨ku, 0, none⟩))), (5, .e (.c (.p 2 0))), (6, .e (.c (.p 3 0)))], bs := [⟨33, c.cs⟩, ⟨9, [.str sId]⟩, ⟨39, i1.call.cs⟩, ⟨39, (i2 c).call.cs⟩] } { tl := [(25, .e (.c (.str ((⟨#[117, 105, 100, 61]⟩ : ByteArray) ++ dec c.real_ ++ (⟨#[32, 103, 105, 100, 61]⟩ : ByteArray))))), (24, .e (.c (.str ((⟨#[117, 105, 100, 61]⟩ : ByteArray) ++ dec c.real_)))), (23, .e (.c (.str (dec c.real_)))), (27, .e (.c (.int .i64 c.group))), (26, .e (.c (.p 0 3))), (22, .e (.c (.int .i64 c.real_))), (21, .e (.c (.p 0 0))), (1, .e (.c (.p 0 0))), (3, .e (.c (.bool true))), (4, .e (.c (.rp ⟨ku, 0, none⟩))), (5, .e (.c (.p 2 0))), (6, .e (.c (.p 3 0)))], bs := [⟨33, c.cs⟩, ⟨9, [.str sId]⟩, ⟨39, i1.call.cs⟩, ⟨39, (i2 c).call.cs⟩], ob := [fun _ => (((⟨#[117, 105, 100, 61]⟩ : ByteArray).size + (dec c.real_).size : Nat) : Int) ≤ 9223372036854775807, fun _ => ((((⟨#[117, 105, 100, 61]⟩ : ByteArray) ++ dec c.real_).size + (⟨#[32, 103, 105, 100, 61]⟩ : ByteArray).size : Nat) : Int) ≤ 9223372036854775807] } _ (by kernel_rfl) rfl h5 h6 (holds_of rfl ⟨p1, p2, trivial⟩) (fun a10 h8 h9 h10 => ?_)
  refine dgets_pure (nt := Tryz.f7.ntmps) (σ := { tl := [(25, .e (.c (.str ((⟨#[117, 105, 100, 61]⟩ : ByteArray) ++ dec c.real_ ++ (⟨#[32, 103, 105, 100, 61]⟩ : ByteArray))))), (24, .e (.c (.str ((⟨#[117, 105, 100, 61]⟩ : ByteArray) ++ dec c.real_)))), (23, .e (.c (.str (dec c.real_)))), (27, .e (.c (.int .i64 c.group))), (26, .e (.c (.p 0 3))), (22, .e (.c (.int .i64 c.real_))), (21, .e (.c (.p 0 0))), (1, .e (.c (.p 0 0))), (3, .e (.c (.bool true))), (4, .e (.c (.rp ⟨ku, 0, none⟩))), (5, .e (.c (.p 2 0))), (6, .e (.c (.p 3 0)))], bs := [] }) (i := 7) (c := ⟨17, [.c (.int .i64 c.group)], [], #[]⟩) 28 (.e (.c (.str (dec c.group)))) h8 h9 hs9 (by kernel_rfl) (by kernel_rfl) (by kernel_rfl) (by kernel_rfl) (by kernel_rfl) (digits_calls _ hc.g0 hc.g1 _) (fun a11 w11 h11 h12 h13 hn11 hs11 => ?_)
  refine dgets_take (fuel := 0) (l' := #[true, true, true, true, true, true, true, true, true, true]) tab_ok (by kernel_rfl) hs11 [8, 9] _ { tl := [(28, .e (.c (.str (dec c.group)))), (25, .e (.c (.str ((⟨#[117, 105, 100, 61]⟩ : ByteArray) ++ dec c.real_ ++ (⟨#[32, 103, 105, 100, 61]⟩ : ByteArray))))), (24, .e (.c (.str ((⟨#[117, 105, 100, 61]⟩ : ByteArray) ++ dec c.real_)))), (23, .e (.c (.str (dec c.real_)))), (27, .e (.c (.int .i64 c.group))), (26, .e (.c (.p 0 3))), (22, .e (.c (.int .i64 c.real_))), (21, .e (.c (.p 0 0))), (1, .e (.c (.p 0 0))), (3, .e (.c (.bool true))), (4, .e (.c (.rp ⟨ku, 0, none⟩))), (5, .e (.c (.p 2 0))), (6, .e (.c (.p 3 0)))], bs := [⟨33, c.cs⟩, ⟨9, [.str sId]⟩, ⟨39, i1.call.cs⟩, ⟨39, (i2 c).call.cs⟩] } { tl := [(7, .e (.c (.str ((⟨#[117, 105, 100, 61]⟩ : ByteArray) ++ dec c.real_ ++ (⟨#[32, 103, 105, 100, 61]⟩ : ByteArray) ++ dec c.group)))), (29, .e (.c (.str ((⟨#[117, 105, 100, 61]⟩ : ByteArray) ++ dec c.real_ ++ (⟨#[32, 103, 105, 100, 61]⟩ : ByteArray) ++ dec c.group)))), (28, .e (.c (.str (dec c.group)))), (25, .e (.c (.str ((⟨#[117, 105, 100, 61]⟩ : ByteArray) ++ dec c.real_ ++ (⟨#[32, 103, 105, 100, 61]⟩ : ByteArray))))), (24, .e (.c (.str ((⟨#[117, 105, 100, 61]⟩ : ByteArray) ++ dec c.real_)))), (23, .e (.c (.str (dec c.real_)))), (27, .e (.c (.int .i64 c.group))), (26, .e (.c (.p 0 3))), (22, .e (.c (.int .i64 c.real_))), (21, .e (.c (.p 0 0))), (1, .e (.c (.p 0 0))), (3, .e (.c (.bool true))), (4, .e (.c (.rp ⟨ku, 0, none⟩))), (5, .e (.c (.p 2 0))), (6, .e (.c (.p 3 0)))], bs := [⟨33, c.cs⟩, ⟨9, [.str sId]⟩, ⟨39, i1.call.cs⟩, ⟨39, (i2 c).call.cs⟩], ob := [fun _ => ((((⟨#[117, 105, 100, 61]⟩ : ByteArray) ++ dec c.real_ ++ (⟨#[32, 103, 105, 100, 61]⟩ : ByteArray)).size + (dec c.group).size : Nat) : Int) ≤ 9223372036854775807] } _ (by kernel_rfl) rfl h11 h12 (holds_of rfl ⟨p3, trivial⟩) (fun a12 h14 h15 h16 => ?_)
  refine dgets_done 0 (by kernel_rfl) ?_
  have hN11 := (hN7.trans hn9).trans hn11
  have hL11 := hL7.fresh ((hd7.trans hn9).trans hn11)
  have hov11 := hov6.step hmem hN11 noRo
  have hTB : TRel ε6.ρ [(7, .e (.c (.str ((⟨#[117, 105, 100, 61]⟩ : ByteArray) ++ dec c.real_ ++ (⟨#[32, 103, 105, 100, 61]⟩ : ByteArray) ++ dec c.group)))), (1, .e (.c (.p 0 0))), (3, .e (.c (.bool true))), (4, .e (.c (.rp ⟨ku, 0, none⟩))), (5, .e (.c (.p 2 0))), (6, .e (.c (.p 3 0)))] a12.tmps := by
    intro d v hd
    simp only [lk] at hd
    repeat' split at hd
    all_goals first | (rename_i e; cases hd; subst e; exact h14 _ _ (by rfl)) | cases hd
  have hc12 : ∀ orc, CRel (ε6.next 4 w11 noRo) Tryz.f7.ntmps { tl := [(7, .e (.c (.str ((⟨#[117, 105, 100, 61]⟩ : ByteArray) ++ dec c.real_ ++ (⟨#[32, 103, 105, 100, 61]⟩ : ByteArray) ++ dec c.group)))), (1, .e (.c (.p 0 0))), (3, .e (.c (.bool true))), (4, .e (.c (.rp ⟨ku, 0, none⟩))), (5, .e (.c (.p 2 0))), (6, .e (.c (.p 3 0)))], bs := [⟨33, c.cs⟩, ⟨9, [.str sId]⟩, ⟨39, i1.call.cs⟩, ⟨39, (i2 c).call.cs⟩], orc := orc } a12 w11 := fun orc => CRel.seen orc hTB h15 (h16.trans (h13.trans (h10.trans (h7.trans (h4.trans hc7.defers))))) hmem hs11 (by kernel_rfl) (by kernel_rfl)
  clear hc4 hc5 hc6 hc7 h2 h5 h8 h11 h14 hTB
  have hov12 : Over w (ε6.next 4 w11 noRo) := hov11
  clear hov11
  generalize ε6.next 4 w11 noRo = ε12 at hc12 hov12
  cases hb1 : (c.eff != c.real_) <;> cases hb2 : (c.effGroup != c.group)
  · have qe : ((((⟨#[117, 105, 100, 61]⟩ : ByteArray) ++ dec c.real_ ++ (⟨#[32, 103, 105, 100, 61]⟩ : ByteArray) ++ dec c.group).size + (⟨#[10]⟩ : ByteArray).size : Nat) : Int) ≤ 9223372036854775807 := by
      simp only [ByteArray.size_append, z1, z2, z3, z4, z5]
      omega
    have htx : idText c = ((⟨#[117, 105, 100, 61]⟩ : ByteArray) ++ dec c.real_ ++ (⟨#[32, 103, 105, 100, 61]⟩ : ByteArray) ++ dec c.group) ++ (⟨#[10]⟩ : ByteArray) := by
      rw [idText_eq, hb1, hb2]; simp only [idT, ByteArray.append_assoc, if_true, if_false, Bool.false_eq_true]
    refine law_next 100 10 57 [true, true, true, true, true, true] { n := (idText c).size } ku bu [(7, .e (.c (.str ((⟨#[117, 105, 100, 61]⟩ : ByteArray) ++ dec c.real_ ++ (⟨#[32, 103, 105, 100, 61]⟩ : ByteArray) ++ dec c.group)))), (3, .e (.c (.bool true))), (5, .e (.c (.p 2 0))), (6, .e (.c (.p 3 0)))] [] (rs := ({ n := (idText c).size } : Res).cs none 0 0) (ad := none) (nn := 0) (cp := 0) (obs := [fun _ => (c.eff != c.real_) = false, fun _ => (c.effGroup != c.group) = false]) hov12 (hc12 [false, false]) hL11 (by kernel_rfl) ⟨hb1, hb2, trivial⟩ (by kernel_rfl) (by kernel_rfl) (by kernel_rfl) rfl (strsAt_nil B _) (by kernel_rfl) (by kernel_rfl) (by kernel_rfl) (by kernel_rfl) (by kernel_rfl) (ni3 c) (ki3 c)
      (fun ε40 a40 w40 hov40 _ _ hc40 => ?_)
    refine gets_run tab_ok 100 hc40 (holds_of (obs := [fun _ => ((22 : Int) == 22) = true, fun _ => ((5 : Int) == 5) = true, fun _ => ((1 : Int) == 1) = true, fun _ => ((((⟨#[117, 105, 100, 61]⟩ : ByteArray) ++ dec c.real_ ++ (⟨#[32, 103, 105, 100, 61]⟩ : ByteArray) ++ dec c.group).size + (⟨#[10]⟩ : ByteArray).size : Nat) : Int) ≤ 9223372036854775807, fun _ => ((idText c).toList == (((⟨#[117, 105, 100, 61]⟩ : ByteArray) ++ dec c.real_ ++ (⟨#[32, 103, 105, 100, 61]⟩ : ByteArray) ++ dec c.group) ++ (⟨#[10]⟩ : ByteArray)).toList) = true, fun _ => ((20 : Int) == 20) = true, fun _ => ((0 : Int) == 0) = true]) (by kernel_rfl) ⟨rfl, rfl, rfl, qe, by rw [htx]; simp, rfl, rfl, trivial⟩) (fun a41 w41 hc41 => ?_)
    exact gets_fin tab_ok (l := [.c (.bool true)]) hc41 Tryz.func7 (by kernel_rfl) (by kernel_rfl) ⟨rfl, hov40.rel hc41.mem, trivial⟩
  · have qc : ((((⟨#[117, 105, 100, 61]⟩ : ByteArray) ++ dec c.real_ ++ (⟨#[32, 103, 105, 100, 61]⟩ : ByteArray) ++ dec c.group).size + (⟨#[32, 101, 103, 105, 100, 61]⟩ : ByteArray).size : Nat) : Int) ≤ 9223372036854775807 := by
      simp only [ByteArray.size_append, z1, z2, z3, z4, z5]
      omega
    refine gets_run tab_ok 80 (hc12 [false, true]) (holds_of (obs := [fun _ => (c.eff != c.real_) = false, fun _ => (c.effGroup != c.group) = true, fun _ => ((((⟨#[117, 105, 100, 61]⟩ : ByteArray) ++ dec c.real_ ++ (⟨#[32, 103, 105, 100, 61]⟩ : ByteArray) ++ dec c.group).size + (⟨#[32, 101, 103, 105, 100, 61]⟩ : ByteArray).size : Nat) : Int) ≤ 9223372036854775807]) (by kernel_rfl) ⟨hb1, hb2, qc, trivial⟩) (fun a30 w30 hc30 => ?_)
    replace hc30 := hc30.pickx [(47, .e (.c (.str (((⟨#[117, 105, 100, 61]⟩ : ByteArray) ++ dec c.real_ ++ (⟨#[32, 103, 105, 100, 61]⟩ : ByteArray) ++ dec c.group) ++ (⟨#[32, 101, 103, 105, 100, 61]⟩ : ByteArray))))), (49, .e (.c (.int .i64 c.effGroup))), (1, .e (.c (.p 0 0))), (3, .e (.c (.bool true))), (4, .e (.c (.rp ⟨ku, 0, none⟩))), (5, .e (.c (.p 2 0))), (6, .e (.c (.p 3 0)))] [⟨33, c.cs⟩, ⟨9, [.str sId]⟩, ⟨39, i1.call.cs⟩, ⟨39, (i2 c).call.cs⟩] [] (by kernel_rfl) (by kernel_rfl)
    have hL30 := hL11.fresh ((hc12 []).mem.same hc30.mem)
    refine gets_pure (Q := fun _ => True) (c := ⟨17, [.c (.int .i64 c.effGroup)], [], #[]⟩) 50 (.e (.c (.str (dec c.effGroup)))) [] [] hc30 (by kernel_rfl) (by kernel_rfl) (by kernel_rfl) (by kernel_rfl) (digits_calls _ hc.f0 hc.f1 _) (by kernel_rfl) (by kernel_rfl) (fun a31 w31 hn31 _ hc31 => ?_)
    have hov31 := hov12.next hc30.mem hn31 ε12.ro
    have hL31 := hL30.fresh hn31
    have qd : (((((⟨#[117, 105, 100, 61]⟩ : ByteArray) ++ dec c.real_ ++ (⟨#[32, 103, 105, 100, 61]⟩ : ByteArray) ++ dec c.group) ++ (⟨#[32, 101, 103, 105, 100, 61]⟩ : ByteArray)).size + (dec c.effGroup).size : Nat) : Int) ≤ 9223372036854775807 := by
      simp only [ByteArray.size_append, z1, z2, z3, z4, z5]
      omega
    have qe : ((((((⟨#[117, 105, 100, 61]⟩ : ByteArray) ++ dec c.real_ ++ (⟨#[32, 103, 105, 100, 61]⟩ : ByteArray) ++ dec c.group) ++ (⟨#[32, 101, 103, 105, 100, 61]⟩ : ByteArray)) ++ dec c.effGroup).size + (⟨#[10]⟩ : ByteArray).size : Nat) : Int) ≤ 9223372036854775807 := by
      simp only [ByteArray.size_append, z1, z2, z3, z4, z5]
      omega
    have htx : idText c = ((((⟨#[117, 105, 100, 61]⟩ : ByteArray) ++ dec c.real_ ++ (⟨#[32, 103, 105, 100, 61]⟩ : ByteArray) ++ dec c.group) ++ (⟨#[32, 101, 103, 105, 100, 61]⟩ : ByteArray)) ++ dec c.effGroup) ++ (⟨#[10]⟩ : ByteArray) := by
      rw [idText_eq, hb1, hb2]; simp only [idT, ByteArray.append_assoc, if_true, if_false, Bool.false_eq_true]
    refine law_next 100 10 57 [true, true, true, true, true, true] { n := (idText c).size } ku bu [(7, .e (.c (.str ((((⟨#[117, 105, 100, 61]⟩ : ByteArray) ++ dec c.real_ ++ (⟨#[32, 103, 105, 100, 61]⟩ : ByteArray) ++ dec c.group) ++ (⟨#[32, 101, 103, 105, 100, 61]⟩ : ByteArray)) ++ dec c.effGroup)))), (3, .e (.c (.bool true))), (5, .e (.c (.p 2 0))), (6, .e (.c (.p 3 0)))] [] (rs := ({ n := (idText c).size } : Res).cs none 0 0) (ad := none) (nn := 0) (cp := 0) (obs := [fun _ => (((((⟨#[117, 105, 100, 61]⟩ : ByteArray) ++ dec c.real_ ++ (⟨#[32, 103, 105, 100, 61]⟩ : ByteArray) ++ dec c.group) ++ (⟨#[32, 101, 103, 105, 100, 61]⟩ : ByteArray)).size + (dec c.effGroup).size : Nat) : Int) ≤ 9223372036854775807]) hov31 hc31 hL31 (by kernel_rfl) ⟨qd, trivial⟩ (by kernel_rfl) (by kernel_rfl) (by kernel_rfl) rfl (strsAt_nil B _) (by kernel_rfl) (by kernel_rfl) (by kernel_rfl) (by kernel_rfl) (by kernel_rfl) (ni3 c) (ki3 c)
      (fun ε40 a40 w40 hov40 _ _ hc40 => ?_)
    refine gets_run tab_ok 100 hc40 (holds_of (obs := [fun _ => ((22 : Int) == 22) = true, fun _ => ((5 : Int) == 5) = true, fun _ => ((1 : Int) == 1) = true, fun _ => ((((((⟨#[117, 105, 100, 61]⟩ : ByteArray) ++ dec c.real_ ++ (⟨#[32, 103, 105, 100, 61]⟩ : ByteArray) ++ dec c.group) ++ (⟨#[32, 101, 103, 105, 100, 61]⟩ : ByteArray)) ++ dec c.effGroup).size + (⟨#[10]⟩ : ByteArray).size : Nat) : Int) ≤ 9223372036854775807, fun _ => ((idText c).toList == (((((⟨#[117, 105, 100, 61]⟩ : ByteArray) ++ dec c.real_ ++ (⟨#[32, 103, 105, 100, 61]⟩ : ByteArray) ++ dec c.group) ++ (⟨#[32, 101, 103, 105, 100, 61]⟩ : ByteArray)) ++ dec c.effGroup) ++ (⟨#[10]⟩ : ByteArray)).toList) = true, fun _ => ((20 : Int) == 20) = true, fun _ => ((0 : Int) == 0) = true]) (by kernel_rfl) ⟨rfl, rfl, rfl, qe, by rw [htx]; simp, rfl, rfl, trivial⟩) (fun a41 w41 hc41 => ?_)
    exact gets_fin tab_ok (l := [.c (.bool true)]) hc41 Tryz.func7 (by kernel_rfl) (by kernel_rfl) ⟨rfl, hov40.rel hc41.mem, trivial⟩
  · have qa : ((((⟨#[117, 105, 100, 61]⟩ : ByteArray) ++ dec c.real_ ++ (⟨#[32, 103, 105, 100, 61]⟩ : ByteArray) ++ dec c.group).size + (⟨#[32, 101, 117, 105, 100, 61]⟩ : ByteArray).size : Nat) : Int) ≤ 9223372036854775807 := by
      simp only [ByteArray.size_append, z1, z2, z3, z4, z5]
      omega
    refine gets_run tab_ok 80 (hc12 [true]) (holds_of (obs := [fun _ => (c.eff != c.real_) = true, fun _ => ((((⟨#[117, 105, 100, 61]⟩ : ByteArray) ++ dec c.real_ ++ (⟨#[32, 103, 105, 100, 61]⟩ : ByteArray) ++ dec c.group).size + (⟨#[32, 101, 117, 105, 100, 61]⟩ : ByteArray).size : Nat) : Int) ≤ 9223372036854775807]) (by kernel_rfl) ⟨hb1, qa, trivial⟩) (fun a20 w20 hc20 => ?_)
    replace hc20 := hc20.pickx [(36, .e (.c (.str (((⟨#[117, 105, 100, 61]⟩ : ByteArray) ++ dec c.real_ ++ (⟨#[32, 103, 105, 100, 61]⟩ : ByteArray) ++ dec c.group) ++ (⟨#[32, 101, 117, 105, 100, 61]⟩ : ByteArray))))), (38, .e (.c (.int .i64 c.eff))), (1, .e (.c (.p 0 0))), (3, .e (.c (.bool true))), (4, .e (.c (.rp ⟨ku, 0, none⟩))), (5, .e (.c (.p 2 0))), (6, .e (.c (.p 3 0)))] [⟨33, c.cs⟩, ⟨9, [.str sId]⟩, ⟨39, i1.call.cs⟩, ⟨39, (i2 c).call.cs⟩] [] (by kernel_rfl) (by kernel_rfl)
    have hL20 := hL11.fresh ((hc12 []).mem.same hc20.mem)
    refine gets_pure (Q := fun _ => True) (c := ⟨17, [.c (.int .i64 c.eff)], [], #[]⟩) 39 (.e (.c (.str (dec c.eff)))) [false] [] hc20 (by kernel_rfl) (by kernel_rfl) (by kernel_rfl) (by kernel_rfl) (digits_calls _ hc.e0 hc.e1 _) (by kernel_rfl) (by kernel_rfl) (fun a21 w21 hn21 _ hc21 => ?_)
    have hov21 := hov12.next hc20.mem hn21 ε12.ro
    have hL21 := hL20.fresh hn21
    have qb : (((((⟨#[117, 105, 100, 61]⟩ : ByteArray) ++ dec c.real_ ++ (⟨#[32, 103, 105, 100, 61]⟩ : ByteArray) ++ dec c.group) ++ (⟨#[32, 101, 117, 105, 100, 61]⟩ : ByteArray)).size + (dec c.eff).size : Nat) : Int) ≤ 9223372036854775807 := by
      simp only [ByteArray.size_append, z1, z2, z3, z4, z5]
      omega
    have qe : ((((((⟨#[117, 105, 100, 61]⟩ : ByteArray) ++ dec c.real_ ++ (⟨#[32, 103, 105, 100, 61]⟩ : ByteArray) ++ dec c.group) ++ (⟨#[32, 101, 117, 105, 100, 61]⟩ : ByteArray)) ++ dec c.eff).size + (⟨#[10]⟩ : ByteArray).size : Nat) : Int) ≤ 9223372036854775807 := by
      simp only [ByteArray.size_append, z1, z2, z3, z4, z5]
      omega
    have htx : idText c = ((((⟨#[117, 105, 100, 61]⟩ : ByteArray) ++ dec c.real_ ++ (⟨#[32, 103, 105, 100, 61]⟩ : ByteArray) ++ dec c.group) ++ (⟨#[32, 101, 117, 105, 100, 61]⟩ : ByteArray)) ++ dec c.eff) ++ (⟨#[10]⟩ : ByteArray) := by
      rw [idText_eq, hb1, hb2]; simp only [idT, ByteArray.append_assoc, if_true, if_false, Bool.false_eq_true]
    refine law_next 100 10 57 [true, true, true, true, true, true] { n := (idText c).size } ku bu [(7, .e (.c (.str ((((⟨#[117, 105, 100, 61]⟩ : ByteArray) ++ dec c.real_ ++ (⟨#[32, 103, 105, 100, 61]⟩ : ByteArray) ++ dec c.group) ++ (⟨#[32, 101, 117, 105, 100, 61]⟩ : ByteArray)) ++ dec c.eff)))), (3, .e (.c (.bool true))), (5, .e (.c (.p 2 0))), (6, .e (.c (.p 3 0)))] [] (rs := ({ n := (idText c).size } : Res).cs none 0 0) (ad := none) (nn := 0) (cp := 0) (obs := [fun _ => (((((⟨#[117, 105, 100, 61]⟩ : ByteArray) ++ dec c.real_ ++ (⟨#[32, 103, 105, 100, 61]⟩ : ByteArray) ++ dec c.group) ++ (⟨#[32, 101, 117, 105, 100, 61]⟩ : ByteArray)).size + (dec c.eff).size : Nat) : Int) ≤ 9223372036854775807, fun _ => (c.effGroup != c.group) = false]) hov21 hc21 hL21 (by kernel_rfl) ⟨qb, hb2, trivial⟩ (by kernel_rfl) (by kernel_rfl) (by kernel_rfl) rfl (strsAt_nil B _) (by kernel_rfl) (by kernel_rfl) (by kernel_rfl) (by kernel_rfl) (by kernel_rfl) (ni3 c) (ki3 c)
      (fun ε40 a40 w40 hov40 _ _ hc40 => ?_)
    refine gets_run tab_ok 100 hc40 (holds_of (obs := [fun _ => ((22 : Int) == 22) = true, fun _ => ((5 : Int) == 5) = true, fun _ => ((1 : Int) == 1) = true, fun _ => ((((((⟨#[117, 105, 100, 61]⟩ : ByteArray) ++ dec c.real_ ++ (⟨#[32, 103, 105, 100, 61]⟩ : ByteArray) ++ dec c.group) ++ (⟨#[32, 101, 117, 105, 100, 61]⟩ : ByteArray)) ++ dec c.eff).size + (⟨#[10]⟩ : ByteArray).size : Nat) : Int) ≤ 9223372036854775807, fun _ => ((idText c).toList == (((((⟨#[117, 105, 100, 61]⟩ : ByteArray) ++ dec c.real_ ++ (⟨#[32, 103, 105, 100, 61]⟩ : ByteArray) ++ dec c.group) ++ (⟨#[32, 101, 117, 105, 100, 61]⟩ : ByteArray)) ++ dec c.eff) ++ (⟨#[10]⟩ : ByteArray)).toList) = true, fun _ => ((20 : Int) == 20) = true, fun _ => ((0 : Int) == 0) = true]) (by kernel_rfl) ⟨rfl, rfl, rfl, qe, by rw [htx]; simp, rfl, rfl, trivial⟩) (fun a41 w41 hc41 => ?_)
    exact gets_fin tab_ok (l := [.c (.bool true)]) hc41 Tryz.func7 (by kernel_rfl) (by kernel_rfl) ⟨rfl, hov40.rel hc41.mem, trivial⟩
  · have qa : ((((⟨#[117, 105, 100, 61]⟩ : ByteArray) ++ dec c.real_ ++ (⟨#[32, 103, 105, 100, 61]⟩ : ByteArray) ++ dec c.group).size + (⟨#[32, 101, 117, 105, 100, 61]⟩ : ByteArray).size : Nat) : Int) ≤ 9223372036854775807 := by
      simp only [ByteArray.size_append, z1, z2, z3, z4, z5]
      omega
    refine gets_run tab_ok 80 (hc12 [true]) (holds_of (obs := [fun _ => (c.eff != c.real_) = true, fun _ => ((((⟨#[117, 105, 100, 61]⟩ : ByteArray) ++ dec c.real_ ++ (⟨#[32, 103, 105, 100, 61]⟩ : ByteArray) ++ dec c.group).size + (⟨#[32, 101, 117, 105, 100, 61]⟩ : ByteArray).size : Nat) : Int) ≤ 9223372036854775807]) (by kernel_rfl) ⟨hb1, qa, trivial⟩) (fun a20 w20 hc20 => ?_)
    replace hc20 := hc20.pickx [(36, .e (.c (.str (((⟨#[117, 105, 100, 61]⟩ : ByteArray) ++ dec c.real_ ++ (⟨#[32, 103, 105, 100, 61]⟩ : ByteArray) ++ dec c.group) ++ (⟨#[32, 101, 117, 105, 100, 61]⟩ : ByteArray))))), (38, .e (.c (.int .i64 c.eff))), (1, .e (.c (.p 0 0))), (3, .e (.c (.bool true))), (4, .e (.c (.rp ⟨ku, 0, none⟩))), (5, .e (.c (.p 2 0))), (6, .e (.c (.p 3 0)))] [⟨33, c.cs⟩, ⟨9, [.str sId]⟩, ⟨39, i1.call.cs⟩, ⟨39, (i2 c).call.cs⟩] [] (by kernel_rfl) (by kernel_rfl)
    have hL20 := hL11.fresh ((hc12 []).mem.same hc20.mem)
    refine gets_pure (Q := fun _ => True) (c := ⟨17, [.c (.int .i64 c.eff)], [], #[]⟩) 39 (.e (.c (.str (dec c.eff)))) [true] [] hc20 (by kernel_rfl) (by kernel_rfl) (by kernel_rfl) (by kernel_rfl) (digits_calls _ hc.e0 hc.e1 _) (by kernel_rfl) (by kernel_rfl) (fun a21 w21 hn21 _ hc21 => ?_)
    have hov21 := hov12.next hc20.mem hn21 ε12.ro
    have hL21 := hL20.fresh hn21
    have qb : (((((⟨#[117, 105, 100, 61]⟩ : ByteArray) ++ dec c.real_ ++ (⟨#[32, 103, 105, 100, 61]⟩ : ByteArray) ++ dec c.group) ++ (⟨#[32, 101, 117, 105, 100, 61]⟩ : ByteArray)).size + (dec c.eff).size : Nat) : Int) ≤ 9223372036854775807 := by
      simp only [ByteArray.size_append, z1, z2, z3, z4, z5]
      omega
    have qc : ((((((⟨#[117, 105, 100, 61]⟩ : ByteArray) ++ dec c.real_ ++ (⟨#[32, 103, 105, 100, 61]⟩ : ByteArray) ++ dec c.group) ++ (⟨#[32, 101, 117, 105, 100, 61]⟩ : ByteArray)) ++ dec c.eff).size + (⟨#[32, 101, 103, 105, 100, 61]⟩ : ByteArray).size : Nat) : Int) ≤ 9223372036854775807 := by
      simp only [ByteArray.size_append, z1, z2, z3, z4, z5]
      omega
    refine gets_run tab_ok 80 hc21 (holds_of (obs := [fun _ => (((((⟨#[117, 105, 100, 61]⟩ : ByteArray) ++ dec c.real_ ++ (⟨#[32, 103, 105, 100, 61]⟩ : ByteArray) ++ dec c.group) ++ (⟨#[32, 101, 117, 105, 100, 61]⟩ : ByteArray)).size + (dec c.eff).size : Nat) : Int) ≤ 9223372036854775807, fun _ => (c.effGroup != c.group) = true, fun _ => ((((((⟨#[117, 105, 100, 61]⟩ : ByteArray) ++ dec c.real_ ++ (⟨#[32, 103, 105, 100, 61]⟩ : ByteArray) ++ dec c.group) ++ (⟨#[32, 101, 117, 105, 100, 61]⟩ : ByteArray)) ++ dec c.eff).size + (⟨#[32, 101, 103, 105, 100, 61]⟩ : ByteArray).size : Nat) : Int) ≤ 9223372036854775807]) (by kernel_rfl) ⟨qb, hb2, qc, trivial⟩) (fun a30 w30 hc30 => ?_)
    replace hc30 := hc30.pickx [(47, .e (.c (.str (((((⟨#[117, 105, 100, 61]⟩ : ByteArray) ++ dec c.real_ ++ (⟨#[32, 103, 105, 100, 61]⟩ : ByteArray) ++ dec c.group) ++ (⟨#[32, 101, 117, 105, 100, 61]⟩ : ByteArray)) ++ dec c.eff) ++ (⟨#[32, 101, 103, 105, 100, 61]⟩ : ByteArray))))), (49, .e (.c (.int .i64 c.effGroup))), (1, .e (.c (.p 0 0))), (3, .e (.c (.bool true))), (4, .e (.c (.rp ⟨ku, 0, none⟩))), (5, .e (.c (.p 2 0))), (6, .e (.c (.p 3 0)))] [⟨33, c.cs⟩, ⟨9, [.str sId]⟩, ⟨39, i1.call.cs⟩, ⟨39, (i2 c).call.cs⟩] [] (by kernel_rfl) (by kernel_rfl)
    have hL30 := hL21.fresh (hc21.mem.same hc30.mem)
    refine gets_pure (Q := fun _ => True) (c := ⟨17, [.c (.int .i64 c.effGroup)], [], #[]⟩) 50 (.e (.c (.str (dec c.effGroup)))) [] [] hc30 (by kernel_rfl) (by kernel_rfl) (by kernel_rfl) (by kernel_rfl) (digits_calls _ hc.f0 hc.f1 _) (by kernel_rfl) (by kernel_rfl) (fun a31 w31 hn31 _ hc31 => ?_)
    have hov31 := hov21.next hc30.mem hn31 ε12.ro
    have hL31 := hL30.fresh hn31
    have qd : (((((((⟨#[117, 105, 100, 61]⟩ : ByteArray) ++ dec c.real_ ++ (⟨#[32, 103, 105, 100, 61]⟩ : ByteArray) ++ dec c.group) ++ (⟨#[32, 101, 117, 105, 100, 61]⟩ : ByteArray)) ++ dec c.eff) ++ (⟨#[32, 101, 103, 105, 100, 61]⟩ : ByteArray)).size + (dec c.effGroup).size : Nat) : Int) ≤ 9223372036854775807 := by
      simp only [ByteArray.size_append, z1, z2, z3, z4, z5]
      omega
    have qe : ((((((((⟨#[117, 105, 100, 61]⟩ : ByteArray) ++ dec c.real_ ++ (⟨#[32, 103, 105, 100, 61]⟩ : ByteArray) ++ dec c.group) ++ (⟨#[32, 101, 117, 105, 100, 61]⟩ : ByteArray)) ++ dec c.eff) ++ (⟨#[32, 101, 103, 105, 100, 61]⟩ : ByteArray)) ++ dec c.effGroup).size + (⟨#[10]⟩ : ByteArray).size : Nat) : Int) ≤ 9223372036854775807 := by
      simp only [ByteArray.size_append, z1, z2, z3, z4, z5]
      omega
    have htx : idText c = ((((((⟨#[117, 105, 100, 61]⟩ : ByteArray) ++ dec c.real_ ++ (⟨#[32, 103, 105, 100, 61]⟩ : ByteArray) ++ dec c.group) ++ (⟨#[32, 101, 117, 105, 100, 61]⟩ : ByteArray)) ++ dec c.eff) ++ (⟨#[32, 101, 103, 105, 100, 61]⟩ : ByteArray)) ++ dec c.effGroup) ++ (⟨#[10]⟩ : ByteArray) := by
      rw [idText_eq, hb1, hb2]; simp only [idT, ByteArray.append_assoc, if_true, if_false, Bool.false_eq_true]
    refine law_next 100 10 57 [true, true, true, true, true, true] { n := (idText c).size } ku bu [(7, .e (.c (.str ((((((⟨#[117, 105, 100, 61]⟩ : ByteArray) ++ dec c.real_ ++ (⟨#[32, 103, 105, 100, 61]⟩ : ByteArray) ++ dec c.group) ++ (⟨#[32, 101, 117, 105, 100, 61]⟩ : ByteArray)) ++ dec c.eff) ++ (⟨#[32, 101, 103, 105, 100, 61]⟩ : ByteArray)) ++ dec c.effGroup)))), (3, .e (.c (.bool true))), (5, .e (.c (.p 2 0))), (6, .e (.c (.p 3 0)))] [] (rs := ({ n := (idText c).size } : Res).cs none 0 0) (ad := none) (nn := 0) (cp := 0) (obs := [fun _ => (((((((⟨#[117, 105, 100, 61]⟩ : ByteArray) ++ dec c.real_ ++ (⟨#[32, 103, 105, 100, 61]⟩ : ByteArray) ++ dec c.group) ++ (⟨#[32, 101, 117, 105, 100, 61]⟩ : ByteArray)) ++ dec c.eff) ++ (⟨#[32, 101, 103, 105, 100, 61]⟩ : ByteArray)).size + (dec c.effGroup).size : Nat) : Int) ≤ 9223372036854775807]) hov31 hc31 hL31 (by kernel_rfl) ⟨qd, trivial⟩ (by kernel_rfl) (by kernel_rfl) (by kernel_rfl) rfl (strsAt_nil B _) (by kernel_rfl) (by kernel_rfl) (by kernel_rfl) (by kernel_rfl) (by kernel_rfl) (ni3 c) (ki3 c)
      (fun ε40 a40 w40 hov40 _ _ hc40 => ?_)
    refine gets_run tab_ok 100 hc40 (holds_of (obs := [fun _ => ((22 : Int) == 22) = true, fun _ => ((5 : Int) == 5) = true, fun _ => ((1 : Int) == 1) = true, fun _ => ((((((((⟨#[117, 105, 100, 61]⟩ : ByteArray) ++ dec c.real_ ++ (⟨#[32, 103, 105, 100, 61]⟩ : ByteArray) ++ dec c.group) ++ (⟨#[32, 101, 117, 105, 100, 61]⟩ : ByteArray)) ++ dec c.eff) ++ (⟨#[32, 101, 103, 105, 100, 61]⟩ : ByteArray)) ++ dec c.effGroup).size + (⟨#[10]⟩ : ByteArray).size : Nat) : Int) ≤ 9223372036854775807, fun _ => ((idText c).toList == (((((((⟨#[117, 105, 100, 61]⟩ : ByteArray) ++ dec c.real_ ++ (⟨#[32, 103, 105, 100, 61]⟩ : ByteArray) ++ dec c.group) ++ (⟨#[32, 101, 117, 105, 100, 61]⟩ : ByteArray)) ++ dec c.eff) ++ (⟨#[32, 101, 103, 105, 100, 61]⟩ : ByteArray)) ++ dec c.effGroup) ++ (⟨#[10]⟩ : ByteArray)).toList) = true, fun _ => ((20 : Int) == 20) = true, fun _ => ((0 : Int) == 0) = true]) (by kernel_rfl) ⟨rfl, rfl, rfl, qe, by rw [htx]; simp, rfl, rfl, trivial⟩) (fun a41 w41 hc41 => ?_)
    exact gets_fin tab_ok (l := [.c (.bool true)]) hc41 Tryz.func7 (by kernel_rfl) (by kernel_rfl) ⟨rfl, hov40.rel hc41.mem, trivial⟩

end Go.Proofs.YtoihipolfdhhnaaGreatDoor
