/-
  UtilsCats: what the statement's function comes to.
-/
import Derived.Test.YtoihipolfdhhnaaGreatDoorCatsD
namespace Go.Proofs.YtoihipolfdhhnaaGreatDoor

/-- From the arguments read to the loop that plays. -/
theorem cats_play (w0 : World) (hB : Base w0) (ad : Addr) (nf cf : Nat) (files : List (List ByteArray)) (hff : FilesAt w0.heap.size w0 (some ad) nf cf files) (h10 : files.length ≤ 10) (hne : files ≠ []) (hg : ∀ l ∈ files, GoodF l) (w : World) (a : Act) (ap : Option Addr) (cp : Nat) (hN : New w0 w)
    (hrow : Row w0.heap.size w ap (files.length + 1) cp (sCat :: cats files.length)) (hc : C1 w0 w a (some ad) nf cf ap (files.length + 1) cp (addFiles e0 files) files.length) : Gets Tryz.prog 4 catsH1 a w (CatR w0) := by
  have hnf := hff.len
  have hl0 : files.length ≠ 0 := fun e => hne (List.length_eq_zero_iff.1 e)
  have hlt : decide ((files.length : Int) < (nf : Int)) = false := by simp; omega
  have hz : ((nf : Int) == 0) = false := by rw [beq_eq_false_iff_ne]; omega
  have hG : GlobOk ⟨w0.heap.size, []⟩ w0 := GlobOk.start hB
  refine gets_run tab_ok 60 (hc.feed [false, false] []) (holds_of (obs := [fun _ => decide ((↑(List.length files) : Int) < (↑nf : Int)) = false, fun _ => ((↑nf : Int) == (0 : Int)) = false]) (by kernel_rfl) ⟨hlt, hz, trivial⟩) (fun a1 w1 hc1 => ?_)
  replace hc1 := hc1.pickx [(0, .e (.c (.sl (some ad) nf cf))), (3, .e (.c (.bool true))), (5, .e (.c (.str (addFiles e0 files)))), (81, .e (.c (.sl ap (List.length files + (1 : Nat)) cp)))] [] [] (by kernel_rfl) (by kernel_rfl)
  have hn1 := (Over.lenv (New.refl w) (by simp)).rel hc1.mem
  have hN1 := hN.trans hn1
  have hstrs : StrsAt ⟨w0.heap.size, []⟩ w1 ap (files.length + 1) cp (sCat :: cats files.length) := (hrow.fresh hn1).strs
  refine gets_new (B := ⟨w0.heap.size, []⟩) 82 [] sCat (sCat :: cats files.length) (.c (.sl ap (files.length + 1) cp)) ap (files.length + 1) cp .cat hc1 (hG.keep (hN1.keep _)) (by kernel_rfl) rfl hstrs (by simp [cats]; omega) prog_cat (by kernel_rfl) (by kernel_rfl) (by kernel_rfl) (by kernel_rfl) (fun a2 w2 ku b hn2 hku hu hown hc2 => ?_)
  have hN2 := hN1.trans hn2
  have hc3 := hc2.anchor0 w0.heap.size [(0, .e (.c (.sl (some ad) nf cf))), (3, .e (.c (.bool true))), (5, .e (.c (.str (addFiles e0 files)))), (82, .e (.c (.rp ⟨ku, 0, none⟩)))] [] [] ⟨by rfl, by rfl, by rfl, by rfl, trivial⟩
  clear hc2
  refine gets_run tab_ok 60 hc3 (holds_of (obs := []) (by kernel_rfl) trivial) (fun a4 w4 hc4 => ?_)
  replace hc4 := hc4.pickx [(0, .e (.c (.sl (some ad) nf cf))), (3, .e (.c (.bool true))), (5, .e (.c (.str (addFiles e0 files)))), (8, .e (.c (.rp ⟨ku, 0, none⟩))), (9, .e (.c (.str ⟨#[]⟩))), (10, .e (.c (.int .i64 (-1)))), (11, .e (.c (.int .i64 0))), (12, .e (.c (.int .i64 0))), (13, .e (.c (.p 0 0))), (14, .e (.c (.int .i64 0)))] [⟨35, [.int .i64 0, .int .i64 0, .int .i64 0, .str ⟨#[]⟩, .sl (none) 0 0, .int .i64 0, .int .i64 0, .int .i64 0, .int .i64 0, .int .i64 0, .int .i64 0, .int .i64 0, .int .i64 0, .int .i64 0, .int .i64 0, .int .i64 0, .int .i64 0, .int .i64 0, .int .i64 0]⟩] [] (by kernel_rfl) (by kernel_rfl)
  have hn4 := (Over.lenv (New.refl w2) (by simp)).rel hc4.mem
  have hN4 := hN2.trans hn4
  have hL2 : LU ⟨w0.heap.size, []⟩ w0 w2 ku b (cS files.length) := ⟨hu, fun j ho => Nat.le_trans hN1.size (hown j ho)⟩
  have hkr : (lenv w0.heap.size w2 []).ρ 0 = w2.heap.size := by show w2.heap.size + (0 - 0) = _; simp
  have hlt4 : w2.heap.size < w4.heap.size := by rw [hc4.mem.size]; show w2.heap.size < w2.heap.size + (1 - 0); omega
  have hL4 : LU ⟨w0.heap.size, [w2.heap.size]⟩ w0 w4 ku b (cS files.length) := hL2.excl hn4 (Nat.le_refl _) hlt4
  refine gets_loop (k' := catsH3) (by kernel_rfl) ?_
  have hc5 := hc4.anchor1 w0.heap.size 0 ⟨35, ({} : Res).cs none 0 0⟩ rfl rfl (by rw [hkr]; exact hN2.size) (C3tl (some ad) nf cf (addFiles e0 files) ku e0 (-1) 0 0 0) [] [] ⟨by rfl, by rfl, by rfl, by rfl, by rfl, by rfl, by rfl, by rfl, by rfl, by rfl, trivial⟩
  rw [hkr] at hc5
  exact cats_main w0 ad nf cf files hff hg h10 hne ku b w2.heap.size 400 0 rfl _ _ _ _ _ _ w4 a4 .start ⟨hN4, hL4, hN2.size, rfl, hc5⟩

/-- Once the files are ten at most. -/
theorem cats_ten (w0 : World) (hB : Base w0) (af : Option Addr) (nf cf : Nat) (files : List (List ByteArray)) (hff : FilesAt w0.heap.size w0 af nf cf files) (h10 : files.length ≤ 10) (w : World) (a : Act) (ap : Option Addr) (cp : Nat) (hN : New w0 w)
    (hrow : Row w0.heap.size w ap 1 cp [sCat]) (hc : C1 w0 w a af nf cf ap 1 cp e0 0) : Gets Tryz.prog 4 catsH1 a w (CatR w0) := by
  have hnf := hff.len
  cases hfs : files with
  | nil =>
    have hn0 : nf = 0 := by rw [hnf, hfs]; rfl
    subst hn0
    have o1 : decide ((0 : Int) < ((0 : Nat) : Int)) = false := rfl
    refine gets_run tab_ok 90 (hc.feed [false, true] []) (holds_of (obs := [fun _ => decide ((↑(0 : Nat) : Int) < (↑(0 : Nat) : Int)) = false, fun _ => ((↑(0 : Nat) : Int) == (0 : Int)) = true]) (by kernel_rfl) ⟨rfl, rfl, trivial⟩) (fun a1 w1 hc1 => ?_)
    replace hc1 := hc1.pickx [(0, .e (.c (.sl af 0 cf))), (2, .e (.c (.bool true))), (3, .e (.c (.bool true))), (4, .e (.c (.sl ap 1 cp))), (5, .e (.c (.str ⟨#[]⟩)))] [] [] (by kernel_rfl) (by kernel_rfl)
    exact gets_fin tab_ok (l := [.c (.bool true)]) hc1 Tryz.func4 (by kernel_rfl) (by kernel_rfl) ⟨rfl, hN.trans ((Over.lenv (New.refl w) (by simp)).rel hc1.mem), trivial⟩
  | cons l fs =>
    obtain ⟨ad, _, _, _, rfl, _⟩ := hff.at_ 0 l (by rw [hfs]; rfl)
    refine cats_out w0 ad nf cf files hff h10 (addFiles e0 files) (fun hg w' a' ap' cp' hN' hrow' hc' => cats_play w0 hB ad nf cf files hff h10 (by rw [hfs]; simp) hg w' a' ap' cp' hN' hrow' hc') files [] rfl (fun _ h => by cases h) e0 w a ap cp ?_ rfl hN hrow hc
    have : e0.size = 0 := rfl
    omega

theorem cats_calls (w0 : World) (hB : Base w0) (af : Option Addr) (nf cf : Nat) (files : List (List ByteArray)) (hff : FilesAt w0.heap.size w0 af nf cf files) : Calls Tryz.prog 4 #[.slice af nf cf] w0 (CatR w0) := by
  have hG : GlobOk ⟨w0.heap.size, []⟩ w0 := GlobOk.start hB
  have hnf := hff.len
  refine enter (B := ⟨w0.heap.size, []⟩) tab_ok [.e (.c (.sl af nf cf))] [] [] 20 Tryz.func4 rfl rfl rfl (obs := []) (by kernel_rfl) trivial (fun a1 w1 hc1 => ?_)
  have hn1 := (Over.env w0 (sro ⟨w0.heap.size, []⟩ w0)).rel hc1.mem
  have hc2 := hc1.anchor0 w0.heap.size [(0, .e (.c (.sl af nf cf)))] [] [] ⟨by rfl, trivial⟩
  refine gets_pure (Q := fun _ => True) (c := ⟨10, [], [], #[]⟩) 16 (.e (.c (.bool true))) [] [] hc2 (by kernel_rfl) (by kernel_rfl) (by kernel_rfl) (by kernel_rfl) (shown_calls w1 (hG.keep (hn1.keep _))) (by kernel_rfl) (by kernel_rfl) (fun a3 w3 hn3 _ hc3 => ?_)
  have hN3 := hn1.trans hn3
  have hc4 := hc3.anchor0 w0.heap.size [(0, .e (.c (.sl af nf cf))), (16, .e (.c (.bool true)))] [] [] ⟨by rfl, by rfl, trivial⟩
  clear hc1 hc2 hc3
  by_cases h10 : files.length ≤ 10
  · have o1 : decide ((nf : Int) > 10) = false := by simp; omega
    refine gets_run tab_ok 60 (hc4.feed [false] []) (holds_of (obs := [fun _ => decide ((↑nf : Int) > (10 : Int)) = false]) (by kernel_rfl) ⟨o1, trivial⟩) (fun a5 w5 hc5 => ?_)
    replace hc5 := hc5.pickx [(0, .e (.c (.sl af nf cf))), (3, .e (.c (.bool true))), (4, .e (.c (.nsl 0 0 1 1))), (5, .e (.c (.str ⟨#[]⟩))), (6, .e (.c (.int .i64 0)))] [⟨9, [.str ⟨#[99, 97, 116]⟩]⟩] [] (by kernel_rfl) (by kernel_rfl)
    have hn5 := (Over.lenv (New.refl w3) (by simp)).rel hc5.mem
    have hrow : Row w0.heap.size w5 (some ⟨w3.heap.size, 0, none⟩) 1 1 [sCat] := row_one sCat hN3.size (by have := hc5.mem.cells 0 _ rfl; exact this)
    have hc6 := hc5.anchor0 w0.heap.size [(0, .e (.c (.sl af nf cf))), (3, .e (.c (.bool true))), (4, .e (.c (.sl (some ⟨w3.heap.size, 0, none⟩) 1 1))), (5, .e (.c (.str e0))), (6, .e (.c (.int .i64 ((0 : Nat) : Int))))] [] [] ⟨by rfl, by rfl, by rfl, by rfl, by rfl, trivial⟩
    refine gets_loop (k' := catsH1) (by kernel_rfl) ?_
    exact cats_ten w0 hB af nf cf files hff h10 w5 a5 _ 1 (hN3.trans hn5) hrow hc6
  · have o1 : decide ((nf : Int) > 10) = true := by simp; omega
    have hcap := hff.cap
    refine gets_run tab_ok 60 (hc4.feed [true] []) (holds_of (obs := [fun _ => decide ((↑nf : Int) > (10 : Int)) = true, fun _ => okLo (some (10 : Int)) cf ∧ okLo none (hiOf (some (10 : Int)) nf)]) (by kernel_rfl) ⟨o1, ⟨⟨by omega, by omega⟩, trivial⟩, trivial⟩) (fun a5 w5 hc5 => ?_)
    replace hc5 := hc5.pickx [(0, .e (.c (.sl (if cf = loOf none then af else Option.map (fun (x : Addr) => Addr.add x (loOf none * (1 : Nat))) af) 10 (cf - loOf none)))), (3, .e (.c (.bool true))), (4, .e (.c (.nsl 0 0 1 1))), (5, .e (.c (.str ⟨#[]⟩))), (6, .e (.c (.int .i64 0)))] [⟨9, [.str ⟨#[99, 97, 116]⟩]⟩] [] (by kernel_rfl) (by kernel_rfl)
    have hn5 := (Over.lenv (New.refl w3) (by simp)).rel hc5.mem
    have hrow : Row w0.heap.size w5 (some ⟨w3.heap.size, 0, none⟩) 1 1 [sCat] := row_one sCat hN3.size (by have := hc5.mem.cells 0 _ rfl; exact this)
    have hff' : FilesAt w0.heap.size w0 af 10 cf (files.take 10) := ⟨by rw [List.length_take]; omega, by omega, fun j x hj => hff.at_ j x (by
      have hjl := (List.getElem?_eq_some_iff.1 hj).1
      rw [List.length_take] at hjl
      rw [List.getElem?_take_of_lt (by omega)] at hj
      exact hj)⟩
    have haf : (if cf = 0 then af else af.map (·.add (0 * 1))) = af := by
      split
      · rfl
      · cases af with
        | none => rfl
        | some x => simp [Addr.add]
    have hc6 := hc5.anchor0 w0.heap.size [(0, .e (.c (.sl af 10 cf))), (3, .e (.c (.bool true))), (4, .e (.c (.sl (some ⟨w3.heap.size, 0, none⟩) 1 1))), (5, .e (.c (.str e0))), (6, .e (.c (.int .i64 ((0 : Nat) : Int))))] [] [] ⟨by show some (Value.slice (if cf = 0 then af else af.map (·.add (0 * 1))) 10 cf) = _; rw [haf]; rfl, by rfl, by rfl, by rfl, by rfl, trivial⟩
    refine gets_loop (k' := catsH1) (by kernel_rfl) ?_
    exact cats_ten w0 hB af 10 cf (files.take 10) hff' (by rw [List.length_take]; omega) w5 a5 _ 1 (hN3.trans hn5) hrow hc6

end Go.Proofs.YtoihipolfdhhnaaGreatDoor
