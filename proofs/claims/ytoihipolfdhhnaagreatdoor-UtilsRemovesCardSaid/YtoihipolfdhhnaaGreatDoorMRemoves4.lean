/-
  Part 4 of the proof: RemA, CopyA, CatsC, CatsD, CopyB, RemB, RemC, RemD, RemE, RemF, Opens.
-/
import Derived.ProofKit
import Derived.OpenShut
import Derived.Deep.Slices
import Derived.SliceStrings
import Derived.ChangeSlices
import Derived.Test.YtoihipolfdhhnaaGreatDoorMRemoves3

namespace Go.Proofs.YtoihipolfdhhnaaGreatDoor

abbrev sRm : ByteArray := ⟨#[114, 109]⟩
abbrev sDR : ByteArray := ⟨#[45, 114]⟩
abbrev sD : ByteArray := ⟨#[47, 100]⟩
abbrev sR : ByteArray := ⟨#[114]⟩

/-- The rows of a descent: the innermost directory first, each with the names that are left in it. -/
def rT : List (ByteArray × List ByteArray) → List Fn
  | [] => [.exit0, .each [sD] (.rm sR)]
  | (p, ns) :: lv => rT lv ++ [.goneD p, .each ns (.gone p sR lv.length)]

/-- The directories that are open, the outermost first. -/
def rL (lv : List (ByteArray × List ByteArray)) : List ByteArray := (lv.map Prod.fst).reverse

def rS : M := (m0 sRm).push (.start .rm [sDR, sD])
def rU (lv : List (ByteArray × List ByteArray)) (p : ByteArray) : M := ⟨sRm, 0, rT lv, some (.gone p sR lv.length), { op := 11, path := p }, false⟩
def rLs (lv : List (ByteArray × List ByteArray)) (p : ByteArray) : M := ⟨sRm, 0, rT lv, some (.tries p (.goneL p sR lv.length)), { op := 9, path := p }, false⟩
def rD (lv : List (ByteArray × List ByteArray)) (p : ByteArray) : M := ⟨sRm, 0, rT lv, some (.tries p (.noop 142)), { op := 11, path := p, dir := true }, false⟩
def rX : M := ⟨sRm, 0, [], none, { op := 20, n := 0 }, true⟩

/-- What comes behind a word that is gone. -/
def rAft : List (ByteArray × List ByteArray) → M
  | [] => rX
  | (p, ns) :: lv => match ns.tail with
    | [] => rD lv p
    | n :: ns' => rU ((p, n :: ns') :: lv) (join p n)

theorem prog_rm : progOf sRm = some .rm := by simp [progOf]
theorem szRm : sRm.size = 2 := rfl

/-- The rows are well: not too deep, paths not too long. -/
structure LvOk (lv : List (ByteArray × List ByteArray)) : Prop where
  deep : lv.length ≤ 6
  size : ∀ x ∈ lv, x.1.size ≤ 100 ∧ x.2 ≠ [] ∧ ∀ s ∈ x.2, s.size ≤ 1

theorem rT_length (lv : List (ByteArray × List ByteArray)) : (rT lv).length = 2 + 2 * lv.length := by
  induction lv with
  | nil => rfl
  | cons x lv ih => obtain ⟨p, ns⟩ := x; simp [rT, ih]; omega

theorem holdsR : holdsB sR 114 = true := by decide
theorem holdsF : holdsB sR 102 = false := by decide

theorem join_size (p s : ByteArray) : (join p s).size ≤ p.size + 1 + s.size := by
  unfold join
  have h : (⟨#[47]⟩ : ByteArray).size = 1 := rfl
  split <;> simp only [ByteArray.size_append, h] <;> omega

theorem flags_rm : flagsG 102 114 [sDR, sD] ⟨#[]⟩ = some (sR, [sD]) := by kernel_rfl

theorem rm_uS : next 10 rS {} = rU [] sD := by
  simp [next, rS, rU, rT, m0, M.push, turn, runK, runD, runRm, flags_rm, runEach, runE, M.gone, M.sys]

theorem rm_vS : okNext 10 rS {} := by
  have h1 : sD.size = 2 := rfl
  have h2 : sDR.size = 2 := rfl
  simp [okNext, rS, m0, M.push, okTurn, okK, okD, okRm, runK, runD, runRm, flags_rm, okEach, okE, runEach, runE, M.gone, M.sys, szRm, h1, h2]

/-- The rows, worked off behind a word that is gone. -/
theorem rm_aft (lv : List (ByteArray × List ByteArray)) (h : LvOk lv) (n : Nat) (c : CallD) : turn (n + 3) ⟨sRm, 0, rT lv, none, c, false⟩ = rAft lv ∧ okTurn (n + 3) ⟨sRm, 0, rT lv, none, c, false⟩ := by
  cases lv with
  | nil =>
    have e : and255 0 = 0 := by decide
    constructor
    · simp [rT, rAft, rX, turn, runK, runEach, M.exit, e]
    · simp [rT, okTurn, okK, okEach, runK, runEach, M.exit]
  | cons x lv =>
    obtain ⟨p, ns⟩ := x
    obtain ⟨h1, h2, h3⟩ := h.size (p, ns) List.mem_cons_self
    have hd := h.deep
    simp only [List.length_cons] at hd
    have hl := rT_length lv
    have hw : wrap64 ((lv.length : Int) + 1) = ((lv.length + 1 : Nat) : Int) := wrap_succ (by omega)
    have hgl : (rT lv ++ [Fn.goneD p, Fn.each ns (.gone p sR lv.length)]).getLast? = some (Fn.each ns (.gone p sR lv.length)) := by simp
    have hdl : (rT lv ++ [Fn.goneD p, Fn.each ns (.gone p sR lv.length)]).dropLast = rT lv ++ [Fn.goneD p] := by
      rw [show rT lv ++ [Fn.goneD p, Fn.each ns (.gone p sR lv.length)] = (rT lv ++ [Fn.goneD p]) ++ [Fn.each ns (.gone p sR lv.length)] by simp, List.dropLast_concat]
    cases hns : ns.tail with
    | nil =>
      constructor
      · simp [rT, rAft, rD, turn, runK, runEach, hns, hgl, hdl, M.tries, M.sys]
      · simp [rT, okTurn, okK, okEach, runK, runEach, hns, hgl, hdl, M.tries, M.sys, h2]
    | cons s ns' =>
      have hs : s.size ≤ 1 := h3 s (List.mem_of_mem_tail (by rw [hns]; exact List.mem_cons_self))
      have h24 : ¬ (24 : Int) < ((lv.length + 1 : Nat) : Int) := by omega
      have hT : rT lv ++ [Fn.goneD p] ++ [Fn.each (s :: ns') (.gone p sR lv.length)] = rT ((p, s :: ns') :: lv) := by simp [rT]
      have h1' : p.size ≤ 100 := h1
      have hp : sRm.size + p.size + s.size + 1 ≤ 1152921504606846976 := by rw [szRm]; omega
      constructor
      · simp only [rT, turn, hgl, hdl, runK, hns, runEach, runE, M.push, M.gone, hw, gt_iff_lt, h24, if_false, M.sys, hT, rAft, rU]
        simp
      · simp only [rT, okTurn, hgl, hdl, okK, runK, hns, okEach, okE, runEach, runE, M.push, M.gone, hw, gt_iff_lt, h24, if_false, M.sys]
        exact ⟨⟨h2, by simp [hl]; omega, hp⟩, trivial⟩

/-- A file is gone. -/
theorem rm_u0 (lv : List (ByteArray × List ByteArray)) (h : LvOk lv) (p : ByteArray) (hp : p.size ≤ 100) : next 10 (rU lv p) {} = rAft lv ∧ okNext 10 (rU lv p) {} := by
  obtain ⟨h1, h2⟩ := rm_aft lv h 7 { op := 11, path := p }
  constructor
  · simpa [next, rU, runR, M.gone1] using h1
  · have : sRm.size + p.size ≤ 1152921504606846976 := by rw [szRm]; omega
    simpa [okNext, rU, okR, runR, M.gone1, this] using h2

/-- It is a directory. -/
theorem rm_u7 (lv : List (ByteArray × List ByteArray)) (p : ByteArray) (hp : p.size ≤ 100) : next 10 (rU lv p) { err := 7 } = rLs lv p ∧ okNext 10 (rU lv p) { err := 7 } := by
  have : sRm.size + p.size ≤ 1152921504606846976 := by rw [szRm]; omega
  constructor
  · simp [next, rU, rLs, turn, runR, M.gone1, holdsR, M.tries, M.sys]
  · simp [okNext, rU, okTurn, okR, runR, M.gone1, holdsR, M.tries, M.sys, this]

/-- A directory without names. -/
theorem rm_l0 (lv : List (ByteArray × List ByteArray)) (h : lv.length ≤ 6) (p : ByteArray) (hp : p.size ≤ 100) : next 10 (rLs lv p) {} = rD lv p ∧ okNext 10 (rLs lv p) {} := by
  have : sRm.size + p.size ≤ 1152921504606846976 := by rw [szRm]; omega
  have hl := rT_length lv
  constructor
  · simp [next, rLs, rD, turn, runR, M.tried, runEach, M.push, runK, M.tries, M.sys]
  · simp [okNext, rLs, okTurn, okR, okEach, runR, M.tried, runEach, M.push, okK, runK, M.tries, M.sys, this, hl]; omega

/-- A directory with names. -/
theorem rm_l1 (lv : List (ByteArray × List ByteArray)) (h : lv.length ≤ 6) (p : ByteArray) (hp : p.size ≤ 100) (s : ByteArray) (ns : List ByteArray) (hs : s.size ≤ 1) : next 10 (rLs lv p) { names := s :: ns } = rU ((p, s :: ns) :: lv) (join p s) ∧ okNext 10 (rLs lv p) { names := s :: ns } := by
  have h1 : sRm.size + p.size ≤ 1152921504606846976 := by rw [szRm]; omega
  have h2 : sRm.size + p.size + s.size + 1 ≤ 1152921504606846976 := by rw [szRm]; omega
  have hl := rT_length lv
  have hw : wrap64 ((lv.length : Int) + 1) = ((lv.length + 1 : Nat) : Int) := wrap_succ (by omega)
  have h24 : ¬ (24 : Int) < ((lv.length + 1 : Nat) : Int) := by omega
  constructor
  · simp only [next, rLs, runR, M.tried, runEach, runE, M.push, M.gone, hw, gt_iff_lt, h24, if_false, M.sys, rU, rT]
    simp [turn]
  · simp only [okNext, rLs, okR, okEach, okE, runR, M.tried, runEach, runE, M.push, M.gone, hw, gt_iff_lt, h24, if_false, M.sys]
    simp [okTurn, hl, h1, h2]; omega

/-- A directory is gone. -/
theorem rm_d (lv : List (ByteArray × List ByteArray)) (h : LvOk lv) (p : ByteArray) (hp : p.size ≤ 100) : next 10 (rD lv p) {} = rAft lv ∧ okNext 10 (rD lv p) {} := by
  obtain ⟨h1, h2⟩ := rm_aft lv h 7 { op := 11, path := p, dir := true }
  constructor
  · simpa [next, rD, runR, M.tried] using h1
  · have : sRm.size + p.size ≤ 1152921504606846976 := by rw [szRm]; omega
    simpa [okNext, rD, okR, runR, M.tried, this] using h2

end Go.Proofs.YtoihipolfdhhnaaGreatDoor

namespace Go.Proofs.YtoihipolfdhhnaaGreatDoor

abbrev sCp : ByteArray := ⟨#[99, 112]⟩
abbrev sB : ByteArray := ⟨#[47, 98]⟩

def low9 (mode : Int) : Int := IntKind.i64.wrap (BitVec.ofInt 64 mode &&& BitVec.ofInt 64 511).toNat

def pT : List Fn := [.exit0, .each [sA] (.place sB false .cop)]
def pS : M := (m0 sCp).push (.start .cp [sA, sB])
def p1 : M := ⟨sCp, 0, [.exit0], some (.places [sA, sB] 1 sB .cop), { op := 8, path := sB }, false⟩
def p2 : M := ⟨sCp, 0, pT, some (.tries sA (.copies1 sA sB)), { op := 8, path := sA }, false⟩
def p3 (mode : Int) : M := ⟨sCp, 0, pT, some (.tries sA (.copies2 sB (low9 mode))), { op := 2, path := sA, want := 4 }, false⟩
def p4 (mode : Int) : M := ⟨sCp, 0, pT, some (.copies3 sB { n := 3 }), { op := 2, path := sB, want := 2, make := true, empty := true, hmode := low9 mode }, false⟩
def pR : M := ⟨sCp, 0, pT, some (.pours 3 4 (.closes [3, 4])), { op := 4, fd := 3, n := 256 }, false⟩
def pW (t : ByteArray) : M := ⟨sCp, 0, pT, some (.say 4 t (.pours 3 4 (.closes [3, 4]))), { op := 5, fd := 4, text := t }, false⟩
def pC1 : M := ⟨sCp, 0, pT, some (.closes [3, 4]), { op := 3, fd := 3 }, false⟩
def pC2 : M := ⟨sCp, 0, pT, some (.closes [4]), { op := 3, fd := 4 }, false⟩
def pX : M := ⟨sCp, 0, [], none, { op := 20, n := 0 }, true⟩

theorem prog_cp : progOf sCp = some .cp := by simp [progOf]
theorem szCp : sCp.size = 2 := rfl
theorem szA : sA.size = 2 := rfl
theorem szB : sB.size = 2 := rfl

theorem cp_uS : next 10 pS {} = p1 := by
  simp [next, pS, p1, m0, M.push, turn, runK, runD, runPlaces, lastOf, M.sys]
theorem cp_vS : okNext 10 pS {} := by
  simp [okNext, pS, m0, M.push, okTurn, okK, okD, runK, runD, runPlaces, lastOf, M.sys, szCp]
theorem cp_u1 : next 10 p1 { err := 3 } = p2 := by
  simp [next, p1, p2, pT, turn, runR, runPlace, isDir, runEach, runE, M.push, M.bring, M.tries, M.sys]
theorem cp_v1 : okNext 10 p1 { err := 3 } := by
  simp [okNext, p1, okTurn, okR, okEach, okE, runR, runPlace, isDir, runEach, runE, M.push, M.bring, M.tries, M.sys, szCp]
theorem cp_u2 (mode : Int) : next 10 p2 { info := { mode := mode } } = p3 mode := by
  simp [next, p2, p3, pT, turn, runR, M.tried, M.copied1, M.tries, M.sys, low9]
theorem cp_v2 (mode : Int) : okNext 10 p2 { info := { mode := mode } } := by
  simp [okNext, p2, okTurn, okR, runR, M.tried, M.copied1, M.tries, M.sys, szCp, szA]
theorem cp_u3 (mode : Int) : next 10 (p3 mode) { n := 3 } = p4 mode := by
  simp [next, p3, p4, turn, runR, M.tried, M.sys]
theorem cp_v3 (mode : Int) : okNext 10 (p3 mode) { n := 3 } := by
  simp [okNext, p3, okTurn, okR, runR, M.tried, M.sys, szCp, szA]
theorem cp_u4 (mode : Int) : next 10 (p4 mode) { n := 4 } = pR := by
  simp [next, p4, pR, turn, runR, M.copied3, M.pours, M.sys]
theorem cp_v4 (mode : Int) : okNext 10 (p4 mode) { n := 4 } := by
  simp [okNext, p4, pT, okTurn, okR, runR, M.copied3, M.pours, M.sys, szCp, szB]
theorem cp_uRt (t : ByteArray) (h : (t.toList == []) = false) : next 10 pR { text := t } = pW t := by
  simp [next, pR, pW, turn, runR, M.poured, M.say, M.sys, h]
theorem cp_vRt (t : ByteArray) (h : (t.toList == []) = false) : okNext 10 pR { text := t } := by
  simp [okNext, pR, okTurn, okR, okK, runR, M.poured, M.say, M.sys, h]
theorem cp_uRe : next 10 pR {} = pC1 := by
  simp [next, pR, pC1, turn, runR, runK, M.poured, M.closes, M.sys, ByteArray.toList_eq]
theorem cp_vRe : okNext 10 pR {} := by
  simp [okNext, pR, okTurn, okR, okK, runR, runK, M.poured, M.closes, M.sys, ByteArray.toList_eq]
theorem cp_uW (t : ByteArray) : next 10 (pW t) { n := t.size } = pR := by
  simp [next, pW, pR, turn, runR, runK, M.said, M.pours, M.sys]
theorem cp_vW (t : ByteArray) : okNext 10 (pW t) { n := t.size } := by
  simp [okNext, pW, okTurn, okR, okK, runR, runK, M.said, M.pours, M.sys]
theorem cp_uC1 : next 10 pC1 {} = pC2 := by
  simp [next, pC1, pC2, turn, runR, M.closes, M.sys]
theorem cp_vC1 : okNext 10 pC1 {} := by
  simp [okNext, pC1, okTurn, okR, runR, M.closes, M.sys]
theorem cp_uC2 : next 10 pC2 {} = pX := by
  simp [next, pC2, pX, pT, turn, runR, runK, runEach, M.closes, M.exit]; decide
theorem cp_vC2 : okNext 10 pC2 {} := by
  simp [okNext, pC2, pT, okTurn, okR, okK, okEach, runR, runK, runEach, M.closes, M.exit]

end Go.Proofs.YtoihipolfdhhnaaGreatDoor

namespace Go.Proofs.YtoihipolfdhhnaaGreatDoor

noncomputable def cats5 : List Item := (run Tab Tryz.f4.ntmps 60 catsH1 { tl := [(0, .e (.c (.sl (some ⟨0, 0, none⟩) 1 1))), (3, .e (.c (.bool true))), (4, .e (.c (.sl none 0 0))), (5, .e (.c (.str ⟨#[]⟩))), (6, .e (.c (.int .i64 0)))], bs := [], orc := [false, false] }).1
noncomputable def cats6 : List Item := (run Tab Tryz.f4.ntmps 60 (popX cats5) { tl := [(82, .e (.c (.rp ⟨0, 0, none⟩))), (0, .e (.c (.sl (some ⟨0, 0, none⟩) 1 1))), (3, .e (.c (.bool true))), (5, .e (.c (.str ⟨#[]⟩)))], bs := [] }).1
noncomputable def catsH3 : List Item := (loopX cats6).getD []

abbrev C3tl (af : Option Addr) (nf cf : Nat) (want : ByteArray) (ku : Nat) (got : ByteArray) (file piece opn : Int) (n : Nat) : List (Nat × SV) :=
  [(0, .e (.c (.sl af nf cf))), (3, .e (.c (.bool true))), (5, .e (.c (.str want))), (8, .e (.c (.rp ⟨ku, 0, none⟩))), (9, .e (.c (.str got))), (10, .e (.c (.int .i64 file))), (11, .e (.c (.int .i64 piece))), (12, .e (.c (.int .i64 opn))), (13, .e (.c (.p 0 0))), (14, .e (.c (.int .i64 (n : Int))))]

/-- What holds at the loop's head. -/
structure K3 (w0 : World) (af : Option Addr) (nf cf : Nat) (want : ByteArray) (ku b kr : Nat) (m : M) (r : Res) (got : ByteArray) (file piece opn : Int) (n : Nat) (w : World) (a : Act) : Prop where
  new : New w0 w
  lu : LU ⟨w0.heap.size, [kr]⟩ w0 w ku b m
  kr0 : w0.heap.size ≤ kr
  nm : r.names = []
  rel : CRel (lenv w0.heap.size w [kr]) Tryz.f4.ntmps { tl := C3tl af nf cf want ku got file piece opn n, bs := [⟨35, r.cs none 0 0⟩] } a w

theorem cats_end (w0 : World) (af : Option Addr) (nf cf : Nat) (want : ByteArray) (ku b kr : Nat) (m : M) (r : Res) (got : ByteArray) (file piece opn : Int) (w : World) (a : Act) (h : K3 w0 af nf cf want ku b kr m r got file piece opn 400 w a) : Gets Tryz.prog 4 catsH3 a w (CatR w0) := by
  obtain ⟨hN, hu, hkr, hnm, hc⟩ := h
  have hlt : decide (((400 : Nat) : Int) < 400) = false := by decide
  refine gets_run tab_ok 60 (hc.feed [false] []) (holds_of (obs := [fun _ => decide ((↑(400 : Nat) : Int) < (400 : Int)) = false]) (by kernel_rfl) ⟨rfl, trivial⟩) (fun a1 w1 hc1 => ?_)
  replace hc1 := hc1.pickx [(2, .e (.c (.bool true)))] [⟨35, [.int .i64 (Res.err r), .int .i64 (Res.n r), .int .i64 (Res.m r), .str (Res.text r), .sl (none) 0 0, .int .i64 (InfoD.ino (Res.info r)), .int .i64 (InfoD.kind (Res.info r)), .int .i64 (InfoD.mode (Res.info r)), .int .i64 (InfoD.owner (Res.info r)), .int .i64 (InfoD.group (Res.info r)), .int .i64 (InfoD.links (Res.info r)), .int .i64 (InfoD.size (Res.info r)), .int .i64 (InfoD.tty (Res.info r)), .int .i64 (Res.may r), .int .i64 (CredD.real_ (Res.cred r)), .int .i64 (CredD.eff (Res.cred r)), .int .i64 (CredD.saved (Res.cred r)), .int .i64 (CredD.group (Res.cred r)), .int .i64 (CredD.effGroup (Res.cred r))]⟩] [] (by kernel_rfl) (by kernel_rfl)
  exact gets_fin tab_ok (l := [.c (.bool true)]) hc1 Tryz.func4 (by kernel_rfl) (by kernel_rfl) ⟨rfl, (Over.lenv hN (by simpa using hkr)).rel hc1.mem, trivial⟩

noncomputable def catsK : List Item := (run Tab Tryz.f4.ntmps 60 catsH3 { tl := C3tl none 0 0 ⟨#[]⟩ 0 ⟨#[]⟩ 0 0 0 0, bs := [⟨35, ({} : Res).cs none 0 0⟩], orc := [true] }).1

theorem cats_to (w0 : World) (af : Option Addr) (nf cf : Nat) (want : ByteArray) (ku b kr : Nat) (m m' : M) (r : Res) (got : ByteArray) (file piece opn : Int) (n : Nat) (w : World) (a : Act) (h : K3 w0 af nf cf want ku b kr m r got file piece opn n w a) (hn : n < 400) (hm : next 10 m r = m') (hok : okNext 10 m r)
    (hk : ∀ w' a', New w0 w' → LU ⟨w0.heap.size, [kr]⟩ w0 w' ku b m' → CRel (lenv w0.heap.size w' [kr]) Tryz.f4.ntmps { tl := (92, .e (.a m'.call.cs)) :: C3tl af nf cf want ku got file piece opn n, bs := [⟨35, r.cs none 0 0⟩] } a' w' → Gets Tryz.prog 4 (popX catsK) a' w' (CatR w0)) :
    Gets Tryz.prog 4 catsH3 a w (CatR w0) := by
  obtain ⟨hN, hu, hkr, hnm, hc⟩ := h
  have hlt : decide ((n : Int) < 400) = true := by simp; omega
  refine gets_run tab_ok 60 (hc.feed [true] []) (holds_of (obs := [fun _ => decide ((n : Int) < (400 : Int)) = true]) (by kernel_rfl) ⟨hlt, trivial⟩) (fun a1 w1 hc1 => ?_)
  have hn1 := hc.mem.same (hc1.mem.bs (bs' := [⟨35, r.cs none 0 0⟩]) (by kernel_rfl))
  refine law_next1 (m' := m') 10 92 r ku b 0 ⟨35, r.cs none 0 0⟩ (C3tl af nf cf want ku got file piece opn n) (ad := none) (nn := 0) (cp := 0) (rs := r.cs none 0 0) (hN.trans hn1) hc1 (hu.fresh hn1) (by kernel_rfl) (congrArg Value.agg (map_plain _ rfl)) (by rw [hnm]; exact strsAt_nil _ _) (by kernel_rfl) (by kernel_rfl) (by kernel_rfl) rfl (by show (35 : Nat) ≠ 66; decide) (by show (35 : Nat) ≠ 84; decide) (by show w0.heap.size ≤ kr; exact hkr) (fun w' => ⟨by rfl, by rfl, by rfl, by rfl, by rfl, by rfl, by rfl, by rfl, by rfl, by rfl, trivial⟩) hm hok (fun a2 w2 hN2 hu2 hc2 => ?_)
  exact hk w2 a2 hN2 hu2 hc2

theorem wrap_int {x : Int} (h0 : -1000000 ≤ x) (h1 : x ≤ 1000000) : IntKind.i64.wrap x = x := by
  simp only [IntKind.wrap, IntKind.bits, IntKind.signed]
  simp
  omega

/-- From the loop's end to its head. -/
theorem cats_back (w0 : World) (af : Option Addr) (nf cf : Nat) (want : ByteArray) (ku b kr : Nat) (m : M) (r : Res) (got : ByteArray) (file piece opn : Int) (n : Nat) (w0' w : World) (a : Act) (σ : St) (hN : New w0 w) (hu : LU ⟨w0.heap.size, [kr]⟩ w0 w ku b m) (hkr : w0.heap.size ≤ kr) (hnm : r.names = [])
    (hc : CRel (lenv w0.heap.size w0' [kr]) Tryz.f4.ntmps σ a w) (hb : σ.bs[0]? = some ⟨35, r.cs none 0 0⟩) (hT : AllT (lenv w0.heap.size w0' [kr]).ρ (lenv w0.heap.size w [kr]).ρ σ.tl (C3tl af nf cf want ku got file piece opn n)) : K3 w0 af nf cf want ku b kr m r got file piece opn n w a :=
  ⟨hN, hu, hkr, hnm, hc.anchor1 w0.heap.size 0 ⟨35, r.cs none 0 0⟩ hb rfl hkr _ [] [] hT⟩

theorem cats_open (w0 : World) (af : Option Addr) (nf cf : Nat) (want : ByteArray) (ku b kr : Nat) (m : M) (x : Nat) (r : Res) (got : ByteArray) (file piece opn : Int) (n : Nat) (w : World) (a : Act) (h : K3 w0 af nf cf want ku b kr m r got file piece opn n w a) (hn : n < 400) (hm : next 10 m r = cO x) (hok : okNext 10 m r)
    (hf : -1 ≤ file ∧ file ≤ 1000) (ho : -1 ≤ opn ∧ opn ≤ 1000) (hk : ∀ w' a', K3 w0 af nf cf want ku b kr (cO x) { n := 9 } got (file + 1) 0 (opn + 1) (n + 1) w' a' → Gets Tryz.prog 4 catsH3 a' w' (CatR w0)) : Gets Tryz.prog 4 catsH3 a w (CatR w0) := by
  refine cats_to w0 af nf cf want ku b kr m _ r got file piece opn n w a h hn hm hok (fun w2 a2 hN2 hu2 hc2 => ?_)
  replace hc2 : CRel (lenv w0.heap.size w2 [kr]) Tryz.f4.ntmps { tl := (92, .e (.a ({ op := 2, path := sF, want := 4 } : CallD).cs)) :: C3tl af nf cf want ku got file piece opn n, bs := [⟨35, r.cs none 0 0⟩] } a2 w2 := hc2
  refine gets_run tab_ok 120 (hc2.feed [false, true] []) (holds_of (obs := [fun _ => ((2 : Int) == (20 : Int)) = false, fun _ => ((2 : Int) == (2 : Int)) = true]) (by kernel_rfl) ⟨rfl, rfl, trivial⟩) (fun a3 w3 hc3 => ?_)
  replace hc3 := hc3.pickx [(0, .e (.c (.sl af nf cf))), (3, .e (.c (.bool true))), (5, .e (.c (.str want))), (8, .e (.c (.rp ⟨ku, 0, none⟩))), (9, .e (.c (.str got))), (10, .e (.c (.int .i64 (IntKind.wrap IntKind.i64 (file + (1 : Int)))))), (11, .e (.c (.int .i64 0))), (12, .e (.c (.int .i64 (IntKind.wrap IntKind.i64 (opn + (1 : Int)))))), (13, .e (.c (.p 0 0))), (14, .e (.c (.int .i64 (IntKind.wrap IntKind.i64 ((↑n : Int) + (1 : Int)))))), (15, .e (.c (.p 1 0))), (88, .e (.c (.int .i64 ((↑n : Int))))), (89, .e (.c (.int .i64 (IntKind.wrap IntKind.i64 ((↑n : Int) + (1 : Int)))))), (92, .e (.a (CallD.cs { op := (2 : Int), path := sF, want := (4 : Int) }))), (93, .e (.a [.int .i64 0, .int .i64 0, .int .i64 0, .str ⟨#[]⟩, .sl (none) 0 0, .int .i64 0, .int .i64 0, .int .i64 0, .int .i64 0, .int .i64 0, .int .i64 0, .int .i64 0, .int .i64 0, .int .i64 0, .int .i64 0, .int .i64 0, .int .i64 0, .int .i64 0, .int .i64 0])), (94, .e (.c (.p 1 0))), (95, .e (.c (.int .i64 2))), (96, .e (.c (.bool false))), (97, .e (.c (.bool false))), (120, .e (.c (.bool true))), (121, .e (.c (.bool true))), (122, .e (.c (.int .i64 file))), (123, .e (.c (.int .i64 (IntKind.wrap IntKind.i64 (file + (1 : Int)))))), (124, .e (.c (.int .i64 opn))), (125, .e (.c (.int .i64 (IntKind.wrap IntKind.i64 (opn + (1 : Int)))))), (126, .e (.c (.p 0 1)))] [⟨35, [.int .i64 0, .int .i64 9, .int .i64 0, .str ⟨#[]⟩, .sl (none) 0 0, .int .i64 0, .int .i64 0, .int .i64 0, .int .i64 0, .int .i64 0, .int .i64 0, .int .i64 0, .int .i64 0, .int .i64 0, .int .i64 0, .int .i64 0, .int .i64 0, .int .i64 0, .int .i64 0]⟩, ⟨39, [.int .i64 2, .str ⟨#[47, 102]⟩, .str ⟨#[]⟩, .str ⟨#[]⟩, .int .i64 0, .int .i64 0, .int .i64 0, .int .i64 0, .int .i64 0, .int .i64 0, .int .i64 4, .bool false, .bool false, .bool false, .bool false, .int .i64 0, .bool false, .bool false, .sl (none) 0 0, .sl (none) 0 0]⟩] [] (by kernel_rfl) (by kernel_rfl)
  have hN3 := (Over.lenv hN2 (by simpa using h.kr0)).rel hc3.mem
  have hu3 := hu2.rel35 h.kr0 (List.mem_singleton.2 rfl) (hc2.mem.cells 0 _ rfl) hc3.mem
  refine gets_loop (k' := catsH3) (by kernel_rfl) ?_
  refine hk w3 a3 (cats_back w0 af nf cf want ku b kr (cO x) { n := 9 } got (file + 1) 0 (opn + 1) (n + 1) w2 w3 a3 _ hN3 hu3 h.kr0 rfl hc3 rfl ⟨by rfl, by rfl, by rfl, by rfl, by rfl, ?_, by rfl, ?_, by rfl, ?_, trivial⟩)
  · show some (Value.int .i64 (IntKind.i64.wrap (file + 1))) = _; rw [wrap_int (by omega) (by omega)]; rfl
  · show some (Value.int .i64 (IntKind.i64.wrap (opn + 1))) = _; rw [wrap_int (by omega) (by omega)]; rfl
  · show some (Value.int .i64 (IntKind.i64.wrap ((n : Int) + 1))) = _; rw [wrap_succ (by omega)]; rfl

theorem cats_read (w0 : World) (ad : Addr) (nf cf : Nat) (files : List (List ByteArray)) (hff : FilesAt w0.heap.size w0 (some ad) nf cf files) (i k : Nat) (l : List ByteArray) (hl : files[i]? = some l) (hi : i < 1000) (hkk : k < 1000)
    (want : ByteArray) (ku b kr : Nat) (m : M) (x : Nat) (r : Res) (got : ByteArray) (opn : Int) (n : Nat) (w : World) (a : Act) (h : K3 w0 (some ad) nf cf want ku b kr m r got (i : Int) (k : Int) opn n w a) (hn : n < 400) (hm : next 10 m r = cR x) (hok : okNext 10 m r)
    (hk : ∀ w' a' (r' : Res) (k' : Nat), (match l[k]? with | some s => r' = { text := s } ∧ k' = k + 1 | none => r' = {} ∧ k' = k) → K3 w0 (some ad) nf cf want ku b kr (cR x) r' got (i : Int) (k' : Int) opn (n + 1) w' a' → Gets Tryz.prog 4 catsH3 a' w' (CatR w0)) : Gets Tryz.prog 4 catsH3 a w (CatR w0) := by
  refine cats_to w0 (some ad) nf cf want ku b kr m _ r got (i : Int) (k : Int) opn n w a h hn hm hok (fun w2 a2 hN2 hu2 hc2 => ?_)
  replace hc2 : CRel (lenv w0.heap.size w2 [kr]) Tryz.f4.ntmps { tl := (92, .e (.a ({ op := 4, fd := 9, n := 256 } : CallD).cs)) :: C3tl (some ad) nf cf want ku got (i : Int) (k : Int) opn n, bs := [⟨35, r.cs none 0 0⟩] } a2 w2 := hc2
  obtain ⟨ad0, a', n', c', e0, h2, h3, h4, h5, h6⟩ := (hff.fresh hN2).at_ i l hl
  cases e0
  have hA : oro w0.heap.size w2 (ad.add ((i : Int).toNat * 1)) = some (.slice a' n' c') := oro_of (by rw [addr_add_block]; exact h3) (by simpa using h2)
  have hil : i < nf := by have := (List.getElem?_eq_some_iff.1 hl).1; have := hff.len; omega
  have hin : 0 ≤ (i : Int) ∧ (i : Int) < (nf : Int) := ⟨by omega, by omega⟩
  have o1 : decide ((i : Int) ≥ 0) = true := by simp
  have o2 : decide ((i : Int) < (nf : Int)) = true := by simp; omega
  cases hlk : l[k]? with
  | some s =>
    obtain ⟨ad', rfl, g2, g3⟩ := h6 k s hlk
    have hkl := (List.getElem?_eq_some_iff.1 hlk).1
    have o3 : decide ((k : Int) < (n' : Int)) = true := by simp; omega
    have hin2 : 0 ≤ (k : Int) ∧ (k : Int) < (n' : Int) := ⟨by omega, by omega⟩
    have hS : oro w0.heap.size w2 (ad'.add ((k : Int).toNat * 1)) = some (.string s) := oro_of (by rw [addr_add_block]; exact g3) (by simpa using g2)
    refine gets_run tab_ok 160 (hc2.feed [false, false, false, true, true, true, true] [.e (.c (.sl (some ad') n' c')), .e (.c (.sl (some ad') n' c')), .e (.c (.str s))]) (holds_of (obs := [fun _ => ((4 : Int) == (20 : Int)) = false, fun _ => ((4 : Int) == (2 : Int)) = false, fun _ => ((4 : Int) == (3 : Int)) = false, fun _ => ((4 : Int) == (4 : Int)) = true, fun _ => decide ((↑i : Int) ≥ (0 : Int)) = true, fun _ => decide ((↑i : Int) < (↑nf : Int)) = true, fun _ => (0 : Int) ≤ (↑i : Int) ∧ (↑i : Int) < (↑nf : Int), fun ε => Env.ro ε (Addr.add ad (Int.toNat (↑i : Int) * (1 : Nat))) = some (C.real (Env.ρ ε) (C.sl (some ad') n' c')), fun _ => decide ((↑k : Int) < (↑n' : Int)) = true, fun _ => (0 : Int) ≤ (↑i : Int) ∧ (↑i : Int) < (↑nf : Int), fun ε => Env.ro ε (Addr.add ad (Int.toNat (↑i : Int) * (1 : Nat))) = some (C.real (Env.ρ ε) (C.sl (some ad') n' c')), fun _ => (0 : Int) ≤ (↑k : Int) ∧ (↑k : Int) < (↑n' : Int), fun ε => Env.ro ε (Addr.add ad' (Int.toNat (↑k : Int) * (1 : Nat))) = some (C.real (Env.ρ ε) (C.str s))]) (by kernel_rfl) ⟨rfl, rfl, rfl, rfl, rfl, o2, hin, (by assumption), o3, hin, (by assumption), hin2, (by assumption), trivial⟩) (fun a3 w3 hc3 => ?_)
    replace hc3 := hc3.pickx [(0, .e (.c (.sl (some ad) nf cf))), (3, .e (.c (.bool true))), (5, .e (.c (.str want))), (8, .e (.c (.rp ⟨ku, 0, none⟩))), (9, .e (.c (.str got))), (10, .e (.c (.int .i64 ((↑i : Int))))), (11, .e (.c (.int .i64 (IntKind.wrap IntKind.i64 ((↑k : Int) + (1 : Int)))))), (12, .e (.c (.int .i64 opn))), (13, .e (.c (.p 0 0))), (14, .e (.c (.int .i64 (IntKind.wrap IntKind.i64 ((↑n : Int) + (1 : Int)))))), (15, .e (.c (.p 1 0))), (88, .e (.c (.int .i64 ((↑n : Int))))), (89, .e (.c (.int .i64 (IntKind.wrap IntKind.i64 ((↑n : Int) + (1 : Int)))))), (92, .e (.a (CallD.cs { op := (4 : Int), fd := (9 : Int), n := (256 : Int) }))), (93, .e (.a [.int .i64 0, .int .i64 0, .int .i64 0, .str ⟨#[]⟩, .sl (none) 0 0, .int .i64 0, .int .i64 0, .int .i64 0, .int .i64 0, .int .i64 0, .int .i64 0, .int .i64 0, .int .i64 0, .int .i64 0, .int .i64 0, .int .i64 0, .int .i64 0, .int .i64 0, .int .i64 0])), (94, .e (.c (.p 1 0))), (95, .e (.c (.int .i64 4))), (96, .e (.c (.bool false))), (97, .e (.c (.bool false))), (120, .e (.c (.bool false))), (121, .e (.c (.bool false))), (127, .e (.c (.bool false))), (128, .e (.c (.bool false))), (131, .e (.c (.bool true))), (132, .e (.c (.bool true))), (133, .e (.c (.int .i64 ((↑i : Int))))), (134, .e (.c (.bool true))), (135, .e (.c (.bool true))), (136, .e (.c (.int .i64 ((↑i : Int))))), (137, .e (.c (.sl (some ad) nf cf))), (138, .e (.c (.int .i64 ((↑nf : Int))))), (139, .e (.c (.bool true))), (140, .e (.c (.bool true))), (141, .e (.c (.bool true))), (142, .e (.c (.int .i64 ((↑k : Int))))), (143, .e (.c (.sl (some ad) nf cf))), (144, .e (.c (.int .i64 ((↑i : Int))))), (145, .e (.c (.rp (Addr.add ad (Int.toNat (↑i : Int) * (1 : Nat)))))), (146, .e (.c (.sl (some ad') n' c'))), (147, .e (.c (.int .i64 ((↑n' : Int))))), (148, .e (.c (.bool true))), (149, .e (.c (.bool true))), (150, .e (.c (.sl (some ad) nf cf))), (151, .e (.c (.int .i64 ((↑i : Int))))), (152, .e (.c (.rp (Addr.add ad (Int.toNat (↑i : Int) * (1 : Nat)))))), (153, .e (.c (.sl (some ad') n' c'))), (154, .e (.c (.int .i64 ((↑k : Int))))), (155, .e (.c (.rp (Addr.add ad' (Int.toNat (↑k : Int) * (1 : Nat)))))), (156, .e (.c (.str s))), (157, .e (.c (.p 0 3))), (158, .e (.c (.int .i64 ((↑k : Int))))), (159, .e (.c (.int .i64 (IntKind.wrap IntKind.i64 ((↑k : Int) + (1 : Int))))))] [⟨35, [.int .i64 0, .int .i64 0, .int .i64 0, .str s, .sl (none) 0 0, .int .i64 0, .int .i64 0, .int .i64 0, .int .i64 0, .int .i64 0, .int .i64 0, .int .i64 0, .int .i64 0, .int .i64 0, .int .i64 0, .int .i64 0, .int .i64 0, .int .i64 0, .int .i64 0]⟩, ⟨39, [.int .i64 4, .str ⟨#[]⟩, .str ⟨#[]⟩, .str ⟨#[]⟩, .int .i64 9, .int .i64 0, .int .i64 256, .int .i64 0, .int .i64 0, .int .i64 0, .int .i64 0, .bool false, .bool false, .bool false, .bool false, .int .i64 0, .bool false, .bool false, .sl (none) 0 0, .sl (none) 0 0]⟩] [] (by kernel_rfl) (by kernel_rfl)
    have hN3 := (Over.lenv hN2 (by simpa using h.kr0)).rel hc3.mem
    have hu3 := hu2.rel35 h.kr0 (List.mem_singleton.2 rfl) (hc2.mem.cells 0 _ rfl) hc3.mem
    refine gets_loop (k' := catsH3) (by kernel_rfl) ?_
    refine hk w3 a3 { text := s } (k + 1) (by rw [hlk]; exact ⟨rfl, rfl⟩) (cats_back w0 (some ad) nf cf want ku b kr (cR x) { text := s } got (i : Int) ((k + 1 : Nat) : Int) opn (n + 1) w2 w3 a3 _ hN3 hu3 h.kr0 rfl hc3 rfl ⟨by rfl, by rfl, by rfl, by rfl, by rfl, by rfl, ?_, by rfl, by rfl, ?_, trivial⟩)
    · show some (Value.int .i64 (IntKind.i64.wrap ((k : Int) + 1))) = _; rw [wrap_succ (by omega)]; rfl
    · show some (Value.int .i64 (IntKind.i64.wrap ((n : Int) + 1))) = _; rw [wrap_succ (by omega)]; rfl
  | none =>
    have hkl : l.length ≤ k := List.getElem?_eq_none_iff.1 hlk
    have o3 : decide ((k : Int) < (n' : Int)) = false := by simp; omega
    refine gets_run tab_ok 160 (hc2.feed [false, false, false, true, true, true, false] [.e (.c (.sl a' n' c'))]) (holds_of (obs := [fun _ => ((4 : Int) == (20 : Int)) = false, fun _ => ((4 : Int) == (2 : Int)) = false, fun _ => ((4 : Int) == (3 : Int)) = false, fun _ => ((4 : Int) == (4 : Int)) = true, fun _ => decide ((↑i : Int) ≥ (0 : Int)) = true, fun _ => decide ((↑i : Int) < (↑nf : Int)) = true, fun _ => (0 : Int) ≤ (↑i : Int) ∧ (↑i : Int) < (↑nf : Int), fun ε => Env.ro ε (Addr.add ad (Int.toNat (↑i : Int) * (1 : Nat))) = some (C.real (Env.ρ ε) (C.sl a' n' c')), fun _ => decide ((↑k : Int) < (↑n' : Int)) = false]) (by kernel_rfl) ⟨rfl, rfl, rfl, rfl, rfl, o2, hin, (by assumption), o3, trivial⟩) (fun a3 w3 hc3 => ?_)
    replace hc3 := hc3.pickx [(0, .e (.c (.sl (some ad) nf cf))), (3, .e (.c (.bool true))), (5, .e (.c (.str want))), (8, .e (.c (.rp ⟨ku, 0, none⟩))), (9, .e (.c (.str got))), (10, .e (.c (.int .i64 ((↑i : Int))))), (11, .e (.c (.int .i64 ((↑k : Int))))), (12, .e (.c (.int .i64 opn))), (13, .e (.c (.p 0 0))), (14, .e (.c (.int .i64 (IntKind.wrap IntKind.i64 ((↑n : Int) + (1 : Int)))))), (15, .e (.c (.p 1 0))), (88, .e (.c (.int .i64 ((↑n : Int))))), (89, .e (.c (.int .i64 (IntKind.wrap IntKind.i64 ((↑n : Int) + (1 : Int)))))), (92, .e (.a (CallD.cs { op := (4 : Int), fd := (9 : Int), n := (256 : Int) }))), (93, .e (.a [.int .i64 0, .int .i64 0, .int .i64 0, .str ⟨#[]⟩, .sl (none) 0 0, .int .i64 0, .int .i64 0, .int .i64 0, .int .i64 0, .int .i64 0, .int .i64 0, .int .i64 0, .int .i64 0, .int .i64 0, .int .i64 0, .int .i64 0, .int .i64 0, .int .i64 0, .int .i64 0])), (94, .e (.c (.p 1 0))), (95, .e (.c (.int .i64 4))), (96, .e (.c (.bool false))), (97, .e (.c (.bool false))), (120, .e (.c (.bool false))), (121, .e (.c (.bool false))), (127, .e (.c (.bool false))), (128, .e (.c (.bool false))), (131, .e (.c (.bool true))), (132, .e (.c (.bool true))), (133, .e (.c (.int .i64 ((↑i : Int))))), (134, .e (.c (.bool true))), (135, .e (.c (.bool true))), (136, .e (.c (.int .i64 ((↑i : Int))))), (137, .e (.c (.sl (some ad) nf cf))), (138, .e (.c (.int .i64 ((↑nf : Int))))), (139, .e (.c (.bool true))), (140, .e (.c (.bool true))), (141, .e (.c (.bool true))), (142, .e (.c (.int .i64 ((↑k : Int))))), (143, .e (.c (.sl (some ad) nf cf))), (144, .e (.c (.int .i64 ((↑i : Int))))), (145, .e (.c (.rp (Addr.add ad (Int.toNat (↑i : Int) * (1 : Nat)))))), (146, .e (.c (.sl a' n' c'))), (147, .e (.c (.int .i64 ((↑n' : Int))))), (148, .e (.c (.bool false))), (149, .e (.c (.bool false)))] [⟨35, [.int .i64 0, .int .i64 0, .int .i64 0, .str ⟨#[]⟩, .sl (none) 0 0, .int .i64 0, .int .i64 0, .int .i64 0, .int .i64 0, .int .i64 0, .int .i64 0, .int .i64 0, .int .i64 0, .int .i64 0, .int .i64 0, .int .i64 0, .int .i64 0, .int .i64 0, .int .i64 0]⟩, ⟨39, [.int .i64 4, .str ⟨#[]⟩, .str ⟨#[]⟩, .str ⟨#[]⟩, .int .i64 9, .int .i64 0, .int .i64 256, .int .i64 0, .int .i64 0, .int .i64 0, .int .i64 0, .bool false, .bool false, .bool false, .bool false, .int .i64 0, .bool false, .bool false, .sl (none) 0 0, .sl (none) 0 0]⟩] [] (by kernel_rfl) (by kernel_rfl)
    have hN3 := (Over.lenv hN2 (by simpa using h.kr0)).rel hc3.mem
    have hu3 := hu2.rel35 h.kr0 (List.mem_singleton.2 rfl) (hc2.mem.cells 0 _ rfl) hc3.mem
    refine gets_loop (k' := catsH3) (by kernel_rfl) ?_
    refine hk w3 a3 {} k (by rw [hlk]; exact ⟨rfl, rfl⟩) (cats_back w0 (some ad) nf cf want ku b kr (cR x) {} got (i : Int) (k : Int) opn (n + 1) w2 w3 a3 _ hN3 hu3 h.kr0 rfl hc3 rfl ⟨by rfl, by rfl, by rfl, by rfl, by rfl, by rfl, by rfl, by rfl, by rfl, ?_, trivial⟩)
    show some (Value.int .i64 (IntKind.i64.wrap ((n : Int) + 1))) = _; rw [wrap_succ (by omega)]; rfl

theorem cats_close (w0 : World) (af : Option Addr) (nf cf : Nat) (want : ByteArray) (ku b kr : Nat) (m : M) (x : Nat) (r : Res) (got : ByteArray) (file piece opn : Int) (n : Nat) (w : World) (a : Act) (h : K3 w0 af nf cf want ku b kr m r got file piece opn n w a) (hn : n < 400) (hm : next 10 m r = cC x) (hok : okNext 10 m r)
    (ho : -1 ≤ opn ∧ opn ≤ 1000) (hk : ∀ w' a', K3 w0 af nf cf want ku b kr (cC x) {} got file piece (opn - 1) (n + 1) w' a' → Gets Tryz.prog 4 catsH3 a' w' (CatR w0)) : Gets Tryz.prog 4 catsH3 a w (CatR w0) := by
  refine cats_to w0 af nf cf want ku b kr m _ r got file piece opn n w a h hn hm hok (fun w2 a2 hN2 hu2 hc2 => ?_)
  replace hc2 : CRel (lenv w0.heap.size w2 [kr]) Tryz.f4.ntmps { tl := (92, .e (.a ({ op := 3, fd := 9 } : CallD).cs)) :: C3tl af nf cf want ku got file piece opn n, bs := [⟨35, r.cs none 0 0⟩] } a2 w2 := hc2
  refine gets_run tab_ok 120 (hc2.feed [false, false, true] []) (holds_of (obs := [fun _ => ((3 : Int) == (20 : Int)) = false, fun _ => ((3 : Int) == (2 : Int)) = false, fun _ => ((3 : Int) == (3 : Int)) = true]) (by kernel_rfl) ⟨rfl, rfl, rfl, trivial⟩) (fun a3 w3 hc3 => ?_)
  replace hc3 := hc3.pickx [(0, .e (.c (.sl af nf cf))), (3, .e (.c (.bool true))), (5, .e (.c (.str want))), (8, .e (.c (.rp ⟨ku, 0, none⟩))), (9, .e (.c (.str got))), (10, .e (.c (.int .i64 file))), (11, .e (.c (.int .i64 piece))), (12, .e (.c (.int .i64 (IntKind.wrap IntKind.i64 (opn - (1 : Int)))))), (13, .e (.c (.p 0 0))), (14, .e (.c (.int .i64 (IntKind.wrap IntKind.i64 ((↑n : Int) + (1 : Int)))))), (15, .e (.c (.p 1 0))), (88, .e (.c (.int .i64 ((↑n : Int))))), (89, .e (.c (.int .i64 (IntKind.wrap IntKind.i64 ((↑n : Int) + (1 : Int)))))), (92, .e (.a (CallD.cs { op := (3 : Int), fd := (9 : Int) }))), (93, .e (.a [.int .i64 0, .int .i64 0, .int .i64 0, .str ⟨#[]⟩, .sl (none) 0 0, .int .i64 0, .int .i64 0, .int .i64 0, .int .i64 0, .int .i64 0, .int .i64 0, .int .i64 0, .int .i64 0, .int .i64 0, .int .i64 0, .int .i64 0, .int .i64 0, .int .i64 0, .int .i64 0])), (94, .e (.c (.p 1 0))), (95, .e (.c (.int .i64 3))), (96, .e (.c (.bool false))), (97, .e (.c (.bool false))), (120, .e (.c (.bool false))), (121, .e (.c (.bool false))), (127, .e (.c (.bool true))), (128, .e (.c (.bool true))), (129, .e (.c (.int .i64 opn))), (130, .e (.c (.int .i64 (IntKind.wrap IntKind.i64 (opn - (1 : Int))))))] [⟨35, [.int .i64 0, .int .i64 0, .int .i64 0, .str ⟨#[]⟩, .sl (none) 0 0, .int .i64 0, .int .i64 0, .int .i64 0, .int .i64 0, .int .i64 0, .int .i64 0, .int .i64 0, .int .i64 0, .int .i64 0, .int .i64 0, .int .i64 0, .int .i64 0, .int .i64 0, .int .i64 0]⟩, ⟨39, [.int .i64 3, .str ⟨#[]⟩, .str ⟨#[]⟩, .str ⟨#[]⟩, .int .i64 9, .int .i64 0, .int .i64 0, .int .i64 0, .int .i64 0, .int .i64 0, .int .i64 0, .bool false, .bool false, .bool false, .bool false, .int .i64 0, .bool false, .bool false, .sl (none) 0 0, .sl (none) 0 0]⟩] [] (by kernel_rfl) (by kernel_rfl)
  have hN3 := (Over.lenv hN2 (by simpa using h.kr0)).rel hc3.mem
  have hu3 := hu2.rel35 h.kr0 (List.mem_singleton.2 rfl) (hc2.mem.cells 0 _ rfl) hc3.mem
  refine gets_loop (k' := catsH3) (by kernel_rfl) ?_
  refine hk w3 a3 (cats_back w0 af nf cf want ku b kr (cC x) {} got file piece (opn - 1) (n + 1) w2 w3 a3 _ hN3 hu3 h.kr0 rfl hc3 rfl ⟨by rfl, by rfl, by rfl, by rfl, by rfl, by rfl, by rfl, ?_, by rfl, ?_, trivial⟩)
  · show some (Value.int .i64 (IntKind.i64.wrap (opn - 1))) = _; rw [wrap_int (by omega) (by omega)]; rfl
  · show some (Value.int .i64 (IntKind.i64.wrap ((n : Int) + 1))) = _; rw [wrap_succ (by omega)]; rfl

/-- How many bytes are taken. -/
def some1 (t : ByteArray) : Int := if (t.size : Int).tdiv 2 > 1 then (t.size : Int).tdiv 2 else 1

theorem cats_write (w0 : World) (af : Option Addr) (nf cf : Nat) (want : ByteArray) (ku b kr : Nat) (m : M) (x : Nat) (t : ByteArray) (r : Res) (got : ByteArray) (file piece opn : Int) (n : Nat) (w : World) (a : Act) (h : K3 w0 af nf cf want ku b kr m r got file piece opn n w a) (hn : n < 400) (hm : next 10 m r = cW x t) (hok : okNext 10 m r)
    (ht : t.size ≤ 256) (ht1 : 1 ≤ t.size) (hg : got.size ≤ 1000000) (hk : ∀ w' a', K3 w0 af nf cf want ku b kr (cW x t) { n := some1 t } (got ++ t.extract 0 (some1 t).toNat) file piece opn (n + 1) w' a' → Gets Tryz.prog 4 catsH3 a' w' (CatR w0)) : Gets Tryz.prog 4 catsH3 a w (CatR w0) := by
  refine cats_to w0 af nf cf want ku b kr m _ r got file piece opn n w a h hn hm hok (fun w2 a2 hN2 hu2 hc2 => ?_)
  replace hc2 : CRel (lenv w0.heap.size w2 [kr]) Tryz.f4.ntmps { tl := (92, .e (.a ({ op := 5, fd := 1, text := t } : CallD).cs)) :: C3tl af nf cf want ku got file piece opn n, bs := [⟨35, r.cs none 0 0⟩] } a2 w2 := hc2
  have hq : IntKind.i64.wrap ((t.size : Int).tdiv 2) = (t.size : Int).tdiv 2 := wrap_int (by rw [Int.tdiv_eq_ediv_of_nonneg (by omega)]; omega) (by rw [Int.tdiv_eq_ediv_of_nonneg (by omega)]; omega)
  have hb : 1 ≤ some1 t ∧ some1 t ≤ t.size := by
    unfold some1
    rw [Int.tdiv_eq_ediv_of_nonneg (by omega)]
    split <;> omega
  have hM : (if (if (t.size : Int).tdiv 2 > 1 then (t.size : Int).tdiv 2 else 1) < (t.size : Int) then (if (t.size : Int).tdiv 2 > 1 then (t.size : Int).tdiv 2 else 1) else (t.size : Int)) = some1 t := by
    show (if some1 t < _ then some1 t else _) = _
    split <;> omega
  have hex : (t.extract 0 (some1 t).toNat).size ≤ 256 := by rw [ByteArray.size_extract]; omega
  refine gets_run tab_ok 160 (hc2.feed [false, false, false, false, true, false] []) (holds_of (obs := [fun _ => ((5 : Int) == (20 : Int)) = false, fun _ => ((5 : Int) == (2 : Int)) = false, fun _ => ((5 : Int) == (3 : Int)) = false, fun _ => ((5 : Int) == (4 : Int)) = false, fun _ => ((5 : Int) == (5 : Int)) = true, fun _ => ((1 : Int) != (1 : Int)) = false, fun _ => (2 : Int) ≠ (0 : Int), fun _ => okLo (some (if (if IntKind.wrap IntKind.i64 (Int.tdiv (↑(ByteArray.size t) : Int) (2 : Int)) > (1 : Int) then IntKind.wrap IntKind.i64 (Int.tdiv (↑(ByteArray.size t) : Int) (2 : Int)) else (1 : Int)) < (↑(ByteArray.size t) : Int) then if IntKind.wrap IntKind.i64 (Int.tdiv (↑(ByteArray.size t) : Int) (2 : Int)) > (1 : Int) then IntKind.wrap IntKind.i64 (Int.tdiv (↑(ByteArray.size t) : Int) (2 : Int)) else (1 : Int) else (↑(ByteArray.size t) : Int))) (ByteArray.size t) ∧ okLo none (hiOf (some (if (if IntKind.wrap IntKind.i64 (Int.tdiv (↑(ByteArray.size t) : Int) (2 : Int)) > (1 : Int) then IntKind.wrap IntKind.i64 (Int.tdiv (↑(ByteArray.size t) : Int) (2 : Int)) else (1 : Int)) < (↑(ByteArray.size t) : Int) then if IntKind.wrap IntKind.i64 (Int.tdiv (↑(ByteArray.size t) : Int) (2 : Int)) > (1 : Int) then IntKind.wrap IntKind.i64 (Int.tdiv (↑(ByteArray.size t) : Int) (2 : Int)) else (1 : Int) else (↑(ByteArray.size t) : Int))) (ByteArray.size t)), fun _ => (↑(ByteArray.size got + ByteArray.size (ByteArray.extract t (loOf none) (hiOf (some (if (if IntKind.wrap IntKind.i64 (Int.tdiv (↑(ByteArray.size t) : Int) (2 : Int)) > (1 : Int) then IntKind.wrap IntKind.i64 (Int.tdiv (↑(ByteArray.size t) : Int) (2 : Int)) else (1 : Int)) < (↑(ByteArray.size t) : Int) then if IntKind.wrap IntKind.i64 (Int.tdiv (↑(ByteArray.size t) : Int) (2 : Int)) > (1 : Int) then IntKind.wrap IntKind.i64 (Int.tdiv (↑(ByteArray.size t) : Int) (2 : Int)) else (1 : Int) else (↑(ByteArray.size t) : Int))) (ByteArray.size t)))) : Int) ≤ (9223372036854775807 : Int)]) (by kernel_rfl) ⟨rfl, rfl, rfl, rfl, rfl, rfl, (by simp), (by simp only [hq, hM, okLo]; exact ⟨⟨by omega, by omega⟩, trivial⟩), (by simp only [hq, hM, loOf, hiOf, Option.getD_none]; simp only [Int.toNat_zero]; omega), trivial⟩) (fun a3 w3 hc3 => ?_)
  replace hc3 := hc3.pickx [(0, .e (.c (.sl af nf cf))), (3, .e (.c (.bool true))), (5, .e (.c (.str want))), (8, .e (.c (.rp ⟨ku, 0, none⟩))), (9, .e (.c (.str (got ++ ByteArray.extract t (loOf none) (hiOf (some (if (if IntKind.wrap IntKind.i64 (Int.tdiv (↑(ByteArray.size t) : Int) (2 : Int)) > (1 : Int) then IntKind.wrap IntKind.i64 (Int.tdiv (↑(ByteArray.size t) : Int) (2 : Int)) else (1 : Int)) < (↑(ByteArray.size t) : Int) then if IntKind.wrap IntKind.i64 (Int.tdiv (↑(ByteArray.size t) : Int) (2 : Int)) > (1 : Int) then IntKind.wrap IntKind.i64 (Int.tdiv (↑(ByteArray.size t) : Int) (2 : Int)) else (1 : Int) else (↑(ByteArray.size t) : Int))) (ByteArray.size t)))))), (10, .e (.c (.int .i64 file))), (11, .e (.c (.int .i64 piece))), (12, .e (.c (.int .i64 opn))), (13, .e (.c (.p 0 0))), (14, .e (.c (.int .i64 (IntKind.wrap IntKind.i64 ((↑n : Int) + (1 : Int)))))), (15, .e (.c (.p 1 0))), (88, .e (.c (.int .i64 ((↑n : Int))))), (89, .e (.c (.int .i64 (IntKind.wrap IntKind.i64 ((↑n : Int) + (1 : Int)))))), (92, .e (.a (CallD.cs { op := (5 : Int), text := t, fd := (1 : Int) }))), (93, .e (.a [.int .i64 0, .int .i64 0, .int .i64 0, .str ⟨#[]⟩, .sl (none) 0 0, .int .i64 0, .int .i64 0, .int .i64 0, .int .i64 0, .int .i64 0, .int .i64 0, .int .i64 0, .int .i64 0, .int .i64 0, .int .i64 0, .int .i64 0, .int .i64 0, .int .i64 0, .int .i64 0])), (94, .e (.c (.p 1 0))), (95, .e (.c (.int .i64 ((5 : Int))))), (96, .e (.c (.bool false))), (97, .e (.c (.bool false))), (120, .e (.c (.bool false))), (121, .e (.c (.bool false))), (127, .e (.c (.bool false))), (128, .e (.c (.bool false))), (131, .e (.c (.bool false))), (132, .e (.c (.bool false))), (160, .e (.c (.bool true))), (161, .e (.c (.bool true))), (162, .e (.c (.p 1 4))), (163, .e (.c (.int .i64 ((1 : Int))))), (164, .e (.c (.bool false))), (165, .e (.c (.p 1 3))), (166, .e (.c (.str t))), (167, .e (.c (.int .i64 ((↑(ByteArray.size t) : Int))))), (168, .e (.c (.int .i64 (IntKind.wrap IntKind.i64 (Int.tdiv (↑(ByteArray.size t) : Int) (2 : Int)))))), (169, .e (.c (.int .i64 (if IntKind.wrap IntKind.i64 (Int.tdiv (↑(ByteArray.size t) : Int) (2 : Int)) > (1 : Int) then IntKind.wrap IntKind.i64 (Int.tdiv (↑(ByteArray.size t) : Int) (2 : Int)) else (1 : Int))))), (170, .e (.c (.p 0 1))), (171, .e (.c (.str got))), (172, .e (.c (.p 1 3))), (173, .e (.c (.str t))), (174, .e (.c (.p 1 3))), (175, .e (.c (.str t))), (176, .e (.c (.int .i64 ((↑(ByteArray.size t) : Int))))), (177, .e (.c (.p 0 1))), (178, .e (.c (.int .i64 (if IntKind.wrap IntKind.i64 (Int.tdiv (↑(ByteArray.size t) : Int) (2 : Int)) > (1 : Int) then IntKind.wrap IntKind.i64 (Int.tdiv (↑(ByteArray.size t) : Int) (2 : Int)) else (1 : Int))))), (179, .e (.c (.int .i64 (if (if IntKind.wrap IntKind.i64 (Int.tdiv (↑(ByteArray.size t) : Int) (2 : Int)) > (1 : Int) then IntKind.wrap IntKind.i64 (Int.tdiv (↑(ByteArray.size t) : Int) (2 : Int)) else (1 : Int)) < (↑(ByteArray.size t) : Int) then if IntKind.wrap IntKind.i64 (Int.tdiv (↑(ByteArray.size t) : Int) (2 : Int)) > (1 : Int) then IntKind.wrap IntKind.i64 (Int.tdiv (↑(ByteArray.size t) : Int) (2 : Int)) else (1 : Int) else (↑(ByteArray.size t) : Int))))), (180, .e (.c (.str (ByteArray.extract t (loOf none) (hiOf (some (if (if IntKind.wrap IntKind.i64 (Int.tdiv (↑(ByteArray.size t) : Int) (2 : Int)) > (1 : Int) then IntKind.wrap IntKind.i64 (Int.tdiv (↑(ByteArray.size t) : Int) (2 : Int)) else (1 : Int)) < (↑(ByteArray.size t) : Int) then if IntKind.wrap IntKind.i64 (Int.tdiv (↑(ByteArray.size t) : Int) (2 : Int)) > (1 : Int) then IntKind.wrap IntKind.i64 (Int.tdiv (↑(ByteArray.size t) : Int) (2 : Int)) else (1 : Int) else (↑(ByteArray.size t) : Int))) (ByteArray.size t)))))), (181, .e (.c (.str (got ++ ByteArray.extract t (loOf none) (hiOf (some (if (if IntKind.wrap IntKind.i64 (Int.tdiv (↑(ByteArray.size t) : Int) (2 : Int)) > (1 : Int) then IntKind.wrap IntKind.i64 (Int.tdiv (↑(ByteArray.size t) : Int) (2 : Int)) else (1 : Int)) < (↑(ByteArray.size t) : Int) then if IntKind.wrap IntKind.i64 (Int.tdiv (↑(ByteArray.size t) : Int) (2 : Int)) > (1 : Int) then IntKind.wrap IntKind.i64 (Int.tdiv (↑(ByteArray.size t) : Int) (2 : Int)) else (1 : Int) else (↑(ByteArray.size t) : Int))) (ByteArray.size t))))))] [⟨35, [.int .i64 0, .int .i64 (if IntKind.wrap IntKind.i64 (Int.tdiv (↑(ByteArray.size t) : Int) (2 : Int)) > (1 : Int) then IntKind.wrap IntKind.i64 (Int.tdiv (↑(ByteArray.size t) : Int) (2 : Int)) else (1 : Int)), .int .i64 0, .str ⟨#[]⟩, .sl (none) 0 0, .int .i64 0, .int .i64 0, .int .i64 0, .int .i64 0, .int .i64 0, .int .i64 0, .int .i64 0, .int .i64 0, .int .i64 0, .int .i64 0, .int .i64 0, .int .i64 0, .int .i64 0, .int .i64 0]⟩, ⟨39, [.int .i64 ((5 : Int)), .str ({ data := #[] }), .str ({ data := #[] }), .str t, .int .i64 ((1 : Int)), .int .i64 ((0 : Int)), .int .i64 ((0 : Int)), .int .i64 ((0 : Int)), .int .i64 ((0 : Int)), .int .i64 ((0 : Int)), .int .i64 ((0 : Int)), .bool false, .bool false, .bool false, .bool false, .int .i64 ((0 : Int)), .bool false, .bool false, .sl (none) 0 0, .sl (none) 0 0]⟩] [] (by kernel_rfl) (by kernel_rfl)
  have hN3 := (Over.lenv hN2 (by simpa using h.kr0)).rel hc3.mem
  have hu3 := hu2.rel35 h.kr0 (List.mem_singleton.2 rfl) (hc2.mem.cells 0 _ rfl) hc3.mem
  refine gets_loop (k' := catsH3) (by kernel_rfl) ?_
  simp only [hq, hM, loOf, hiOf, Option.getD_none, Int.toNat_zero] at hc3
  refine hk w3 a3 (cats_back w0 af nf cf want ku b kr (cW x t) { n := some1 t } (got ++ t.extract 0 (some1 t).toNat) file piece opn (n + 1) w2 w3 a3 _ hN3 hu3 h.kr0 rfl hc3 rfl ⟨by rfl, by rfl, by rfl, by rfl, by rfl, by rfl, by rfl, by rfl, by rfl, ?_, trivial⟩)
  show some (Value.int .i64 (IntKind.i64.wrap ((n : Int) + 1))) = _; rw [wrap_succ (by omega)]; rfl

theorem cats_exit (w0 : World) (af : Option Addr) (nf cf : Nat) (want : ByteArray) (ku b kr : Nat) (m : M) (r : Res) (got : ByteArray) (file piece opn : Int) (n : Nat) (w : World) (a : Act) (h : K3 w0 af nf cf want ku b kr m r got file piece opn n w a) (hn : n < 400) (hm : next 10 m r = cX) (hok : okNext 10 m r)
    (hg : got = want) (ho : opn = 0) (hf : file = (nf : Int) - 1) (hnf : nf ≤ 1000) : Gets Tryz.prog 4 catsH3 a w (CatR w0) := by
  refine cats_to w0 af nf cf want ku b kr m _ r got file piece opn n w a h hn hm hok (fun w2 a2 hN2 hu2 hc2 => ?_)
  replace hc2 : CRel (lenv w0.heap.size w2 [kr]) Tryz.f4.ntmps { tl := (92, .e (.a ({ op := 20, n := 0 } : CallD).cs)) :: C3tl af nf cf want ku got file piece opn n, bs := [⟨35, r.cs none 0 0⟩] } a2 w2 := hc2
  have hw : IntKind.i64.wrap ((nf : Int) - 1) = (nf : Int) - 1 := wrap_int (by omega) (by omega)
  have o1 : (got.toList == want.toList) = true := by rw [hg]; simp
  have o2 : (file == IntKind.i64.wrap ((nf : Int) - 1)) = true := by rw [hw, hf]; simp
  have o3 : (opn == (0 : Int)) = true := by rw [ho]; rfl
  refine gets_run tab_ok 160 (hc2.feed [true, true, true, true, true] []) (holds_of (obs := [fun _ => ((20 : Int) == (20 : Int)) = true, fun _ => (ByteArray.toList got == ByteArray.toList want) = true, fun _ => (opn == (0 : Int)) = true, fun _ => ((0 : Int) == (0 : Int)) = true, fun _ => (file == IntKind.wrap IntKind.i64 ((↑nf : Int) - (1 : Int))) = true]) (by kernel_rfl) ⟨rfl, o1, o3, rfl, o2, trivial⟩) (fun a3 w3 hc3 => ?_)
  replace hc3 := hc3.pickx [(0, .e (.c (.sl af nf cf))), (2, .e (.c (.bool true))), (3, .e (.c (.bool true))), (5, .e (.c (.str want))), (8, .e (.c (.rp ⟨ku, 0, none⟩))), (9, .e (.c (.str got))), (10, .e (.c (.int .i64 file))), (11, .e (.c (.int .i64 piece))), (12, .e (.c (.int .i64 opn))), (13, .e (.c (.p 0 0))), (14, .e (.c (.int .i64 ((↑n : Int))))), (15, .e (.c (.p 1 0))), (92, .e (.a (CallD.cs { op := (20 : Int) }))), (93, .e (.a [.int .i64 0, .int .i64 0, .int .i64 0, .str ⟨#[]⟩, .sl (none) 0 0, .int .i64 0, .int .i64 0, .int .i64 0, .int .i64 0, .int .i64 0, .int .i64 0, .int .i64 0, .int .i64 0, .int .i64 0, .int .i64 0, .int .i64 0, .int .i64 0, .int .i64 0, .int .i64 0])), (94, .e (.c (.p 1 0))), (95, .e (.c (.int .i64 20))), (96, .e (.c (.bool true))), (97, .e (.c (.bool true))), (98, .e (.c (.bool true))), (99, .e (.c (.bool true))), (100, .e (.c (.str got))), (101, .e (.c (.str want))), (102, .e (.c (.bool true))), (103, .e (.c (.bool true))), (104, .e (.c (.bool true))), (105, .e (.c (.int .i64 opn))), (106, .e (.c (.bool true))), (107, .e (.c (.bool true))), (108, .e (.c (.bool true))), (109, .e (.c (.p 1 6))), (110, .e (.c (.int .i64 0))), (111, .e (.c (.bool true))), (112, .e (.c (.bool true))), (113, .e (.c (.bool true))), (114, .e (.c (.int .i64 file))), (115, .e (.c (.sl af nf cf))), (116, .e (.c (.int .i64 ((↑nf : Int))))), (117, .e (.c (.int .i64 (IntKind.wrap IntKind.i64 ((↑nf : Int) - (1 : Int)))))), (118, .e (.c (.bool true))), (119, .e (.c (.bool true)))] [⟨35, [.int .i64 0, .int .i64 0, .int .i64 0, .str ⟨#[]⟩, .sl (none) 0 0, .int .i64 0, .int .i64 0, .int .i64 0, .int .i64 0, .int .i64 0, .int .i64 0, .int .i64 0, .int .i64 0, .int .i64 0, .int .i64 0, .int .i64 0, .int .i64 0, .int .i64 0, .int .i64 0]⟩, ⟨39, [.int .i64 20, .str ⟨#[]⟩, .str ⟨#[]⟩, .str ⟨#[]⟩, .int .i64 0, .int .i64 0, .int .i64 0, .int .i64 0, .int .i64 0, .int .i64 0, .int .i64 0, .bool false, .bool false, .bool false, .bool false, .int .i64 0, .bool false, .bool false, .sl (none) 0 0, .sl (none) 0 0]⟩] [] (by kernel_rfl) (by kernel_rfl)
  exact gets_fin tab_ok (l := [.c (.bool true)]) hc3 Tryz.func4 (by kernel_rfl) (by kernel_rfl) ⟨rfl, (Over.lenv hN2 (by simpa using h.kr0)).rel hc3.mem, trivial⟩

end Go.Proofs.YtoihipolfdhhnaaGreatDoor

namespace Go.Proofs.YtoihipolfdhhnaaGreatDoor

abbrev e0 : ByteArray := ⟨#[]⟩

inductive Ph (files : List (List ByteArray)) : M → Res → ByteArray → Int → Int → Int → Prop where
  | start : Ph files (cS files.length) {} e0 (-1) 0 0
  | opn (pre : List (List ByteArray)) (l : List ByteArray) (post : List (List ByteArray)) : files = pre ++ l :: post → Ph files (cO (post.length + 1)) { n := 9 } (addFiles e0 pre) (pre.length : Nat) ((0 : Nat) : Int) 1
  | rd (pre : List (List ByteArray)) (l : List ByteArray) (post : List (List ByteArray)) (p : List ByteArray) (s : ByteArray) (q : List ByteArray) : files = pre ++ l :: post → l = p ++ s :: q → Ph files (cR (post.length + 1)) { text := s } (addAll (addFiles e0 pre) p) (pre.length : Nat) ((p.length + 1 : Nat) : Int) 1
  | fin (pre : List (List ByteArray)) (l : List ByteArray) (post : List (List ByteArray)) : files = pre ++ l :: post → Ph files (cR (post.length + 1)) {} (addAll (addFiles e0 pre) l) (pre.length : Nat) ((l.length : Nat) : Int) 1
  | wr (pre : List (List ByteArray)) (l : List ByteArray) (post : List (List ByteArray)) (p : List ByteArray) (s : ByteArray) (q : List ByteArray) (t got : ByteArray) : files = pre ++ l :: post → l = p ++ s :: q → 1 ≤ t.size → t.size ≤ 256 → got ++ rest t (some1 t) = addAll (addFiles e0 pre) (p ++ [s]) →
      Ph files (cW (post.length + 1) t) { n := some1 t } got (pre.length : Nat) ((p.length + 1 : Nat) : Int) 1
  | cl (pre : List (List ByteArray)) (l : List ByteArray) (post : List (List ByteArray)) (piece : Int) : files = pre ++ l :: post → Ph files (cC (post.length + 1)) {} (addFiles e0 (pre ++ [l])) (pre.length : Nat) piece 0

theorem addFiles_size : ∀ (fs : List (List ByteArray)) (s : ByteArray), (∀ l ∈ fs, GoodF l) → (addFiles s fs).size ≤ s.size + 2560 * fs.length
  | [], s, _ => by simp [addFiles]
  | l :: fs, s, h => by
    have h1 := addFiles_size fs (addAll s l) (fun y hy => h y (List.mem_cons_of_mem _ hy))
    have h2 := h l (List.mem_cons_self ..)
    have h3 := addAll_size l s (fun x hx => (h2.2 x hx).2)
    have h4 := h2.1
    simp only [addFiles, List.foldl_cons, List.length_cons] at h1 ⊢
    omega

theorem addAll_snoc (s : ByteArray) (p : List ByteArray) (x : ByteArray) : addAll s (p ++ [x]) = addAll s p ++ x := by simp [addAll]
theorem addFiles_snoc (s : ByteArray) (p : List (List ByteArray)) (x : List ByteArray) : addFiles s (p ++ [x]) = addAll (addFiles s p) x := by simp [addFiles]

theorem halves (t : ByteArray) (n : Nat) (h : n ≤ t.size) : t.extract 0 n ++ t.extract n t.size = t := by
  rw [ByteArray.extract_append_extract]
  simp [Nat.min_eq_left, h]

theorem some1_ok {t : ByteArray} (h : 1 ≤ t.size) : 1 ≤ some1 t ∧ some1 t ≤ t.size := by
  unfold some1
  rw [Int.tdiv_eq_ediv_of_nonneg (by omega)]
  split <;> omega

theorem good_size {s : ByteArray} (h : Good s) : 1 ≤ s.size := by
  rcases Nat.lt_or_ge 0 s.size with h1 | h1
  · exact h1
  · have h2 : s = ⟨#[]⟩ := by
      apply ByteArray.ext
      have : s.data.size = 0 := by rw [ByteArray.size_data]; omega
      simpa using Array.size_eq_zero_iff.1 this
    have := h.1
    rw [h2, ByteArray.toList_eq] at this
    simp at this

theorem cats_main (w0 : World) (ad : Addr) (nf cf : Nat) (files : List (List ByteArray)) (hff : FilesAt w0.heap.size w0 (some ad) nf cf files) (hg : ∀ l ∈ files, GoodF l) (h10 : files.length ≤ 10) (hne : files ≠ []) (ku b kr : Nat) :
    ∀ (f n : Nat), n + f = 400 → ∀ (m : M) (r : Res) (got : ByteArray) (file piece opn : Int) (w : World) (a : Act), Ph files m r got file piece opn → K3 w0 (some ad) nf cf (addFiles e0 files) ku b kr m r got file piece opn n w a → Gets Tryz.prog 4 catsH3 a w (CatR w0) := by
  intro f
  induction f with
  | zero =>
    intro n hn m r got file piece opn w a _ hk
    have : n = 400 := by omega
    subst this
    exact cats_end w0 _ nf cf _ ku b kr m r got file piece opn w a hk
  | succ f ih =>
    intro n hn m r got file piece opn w a hph hk
    have hn4 : n < 400 := by omega
    have hn1 : n + 1 + f = 400 := by omega
    have hnf := hff.len
    -- what is read next
    have hread : ∀ (pre : List (List ByteArray)) (l : List ByteArray) (post : List (List ByteArray)) (k : Nat) (got : ByteArray) (m : M) (r : Res), files = pre ++ l :: post → k ≤ l.length → got = addAll (addFiles e0 pre) (l.take k) → next 10 m r = cR (post.length + 1) → okNext 10 m r →
        K3 w0 (some ad) nf cf (addFiles e0 files) ku b kr m r got (pre.length : Nat) (k : Nat) 1 n w a → Gets Tryz.prog 4 catsH3 a w (CatR w0) := by
      intro pre l post k got m r hf hkl hgot hm hok hk
      have hl : files[pre.length]? = some l := by rw [hf]; simp
      have hll := (hg l (by rw [hf]; simp)).1
      have hlen : files.length = pre.length + (post.length + 1) := by rw [hf]; simp
      refine cats_read w0 ad nf cf files hff pre.length k l hl (by omega) (by omega) _ ku b kr m (post.length + 1) r got 1 n w a hk hn4 hm hok (fun w' a' r' k' hr hk' => ?_)
      cases hlk : l[k]? with
      | some s =>
        rw [hlk] at hr
        obtain ⟨rfl, rfl⟩ := hr
        have hkl' := (List.getElem?_eq_some_iff.1 hlk)
        obtain ⟨h1, h2⟩ := hkl'
        have hsplit : l = l.take k ++ s :: l.drop (k + 1) := by
          rw [← h2, ← List.drop_eq_getElem_cons, List.take_append_drop]
        have htl : (l.take k).length = k := by rw [List.length_take]; omega
        refine ih (n + 1) hn1 _ _ _ _ _ _ w' a' (Ph.rd pre l post (l.take k) s (l.drop (k + 1)) hf hsplit) ?_
        rw [htl, ← hgot]
        exact hk'
      | none =>
        rw [hlk] at hr
        obtain ⟨rfl, rfl⟩ := hr
        have hkl' : l.length ≤ k' := List.getElem?_eq_none_iff.1 hlk
        have hke : k' = l.length := by omega
        have htk : l.take k' = l := List.take_of_length_le hkl'
        refine ih (n + 1) hn1 _ _ _ _ _ _ w' a' (Ph.fin pre l post hf) ?_
        rw [htk] at hgot
        rw [← hgot, ← hke]
        exact hk'
    cases hph with
    | start =>
      cases hfs : files with
      | nil => exact absurd hfs hne
      | cons l post =>
        have hl1 : files.length = post.length + 1 := by rw [hfs]; rfl
        rw [hl1] at hk
        refine cats_open w0 _ nf cf _ ku b kr _ (post.length + 1) _ _ _ _ _ n w a hk hn4 (tS _) (kS _) (by omega) (by omega) (fun w' a' hk' => ?_)
        exact ih (n + 1) hn1 _ _ _ _ _ _ w' a' (Ph.opn [] l post hfs) hk'
    | opn pre l post hf =>
      exact hread pre l post 0 _ _ _ hf (Nat.zero_le _) (by simp [addAll]) (tO _) (kO _) hk
    | rd pre l post p s q hf hl =>
      have hlm : l ∈ files := by rw [hf]; simp
      have hgs : Good s := (hg l hlm).2 s (by rw [hl]; simp)
      have h1 := good_size hgs
      have hlen : files.length = pre.length + (post.length + 1) := by rw [hf]; simp
      have hb1 := addFiles_size pre e0 (fun x hx => hg x (by rw [hf]; simp [hx]))
      have hb2 := addAll_size p (addFiles e0 pre) (fun x hx => ((hg l hlm).2 x (by rw [hl]; simp [hx])).2)
      have hpl : p.length ≤ 10 := by have := (hg l hlm).1; rw [hl] at this; simp at this; omega
      have he0 : e0.size = 0 := rfl
      refine cats_write w0 _ nf cf _ ku b kr _ (post.length + 1) s _ _ _ _ _ n w a hk hn4 (tRt _ s hgs.1) (kRt _ s hgs.1) hgs.2 h1 (by omega) (fun w' a' hk' => ?_)
      refine ih (n + 1) hn1 _ _ _ _ _ _ w' a' (Ph.wr pre l post p s q s _ hf hl h1 hgs.2 ?_) hk'
      have h2 := some1_ok h1
      rw [addAll_snoc, ByteArray.append_assoc]
      unfold rest
      rw [halves s _ (by omega)]
    | fin pre l post hf =>
      refine cats_close w0 _ nf cf _ ku b kr _ (post.length + 1) _ _ _ _ _ n w a hk hn4 (tRe _) (kRe _) (by omega) (fun w' a' hk' => ?_)
      rw [← addFiles_snoc] at hk'
      exact ih (n + 1) hn1 _ _ _ _ _ _ w' a' (Ph.cl pre l post _ hf) hk'
    | wr pre l post p s q t _ hf hl h1 h256 hgot =>
      have hlm : l ∈ files := by rw [hf]; simp
      have h2 := some1_ok h1
      have hlen : files.length = pre.length + (post.length + 1) := by rw [hf]; simp
      by_cases hlt : some1 t < t.size
      · have hrs : (rest t (some1 t)).size = t.size - (some1 t).toNat := by unfold rest; rw [ByteArray.size_extract]; omega
        have hb1 := addFiles_size pre e0 (fun x hx => hg x (by rw [hf]; simp [hx]))
        have hb2 := addAll_size (p ++ [s]) (addFiles e0 pre) (fun x hx => ((hg l hlm).2 x (by rw [hl]; simp at hx ⊢; rcases hx with hx | hx <;> simp [hx])).2)
        have hpl : p.length ≤ 10 := by have := (hg l hlm).1; rw [hl] at this; simp at this; omega
        have he0 : e0.size = 0 := rfl
        have hgs : got.size ≤ 1000000 := by
          have := congrArg ByteArray.size hgot
          rw [ByteArray.size_append] at this
          simp only [List.length_append, List.length_cons, List.length_nil] at hb2
          omega
        refine cats_write w0 _ nf cf _ ku b kr _ (post.length + 1) (rest t (some1 t)) _ _ _ _ _ n w a hk hn4 (tWr _ t _ h2.1 hlt) (kWe _ t _) (by omega) (by omega) hgs (fun w' a' hk' => ?_)
        refine ih (n + 1) hn1 _ _ _ _ _ _ w' a' (Ph.wr pre l post p s q _ _ hf hl (by omega) (by omega) ?_) hk'
        rw [← hgot, ByteArray.append_assoc]
        congr 1
        have h3 := some1_ok (t := rest t (some1 t)) (by omega)
        exact halves _ _ (by omega)
      · have heq : (some1 t).toNat = t.size := by omega
        have hre : rest t (some1 t) = e0 := by
          unfold rest
          rw [heq]
          exact ByteArray.extract_eq_empty_iff.2 (by omega)
        rw [hre] at hgot
        have hge : got = addAll (addFiles e0 pre) (p ++ [s]) := by rw [← hgot]; exact (ByteArray.append_empty).symm
        refine hread pre l post (p.length + 1) _ _ _ hf (by rw [hl]; simp) ?_ (tWe _ t _ (by omega)) (kWe _ t _) hk
        have htk : l.take (p.length + 1) = p ++ [s] := by
          rw [hl, show p ++ s :: q = (p ++ [s]) ++ q by simp]
          exact List.take_left' (by simp)
        rw [hge, htk]
    | cl pre l post piece hf =>
      cases post with
      | nil =>
        refine cats_exit w0 _ nf cf _ ku b kr _ _ _ _ _ _ n w a hk hn4 tC1 kC1 (by rw [hf]) rfl ?_ (by omega)
        rw [hnf, hf]
        simp
      | cons l' post =>
        have hlen : files.length = pre.length + (post.length + 2) := by rw [hf]; simp
        refine cats_open w0 _ nf cf _ ku b kr _ (post.length + 1) _ _ _ _ _ n w a hk hn4 (tC2 _) (kC2 _) (by omega) (by omega) (fun w' a' hk' => ?_)
        have hpl : ((pre.length : Nat) : Int) + 1 = ((pre ++ [l]).length : Nat) := by simp
        rw [hpl] at hk'
        exact ih (n + 1) hn1 _ _ _ _ _ _ w' a' (Ph.opn (pre ++ [l]) l' post (by rw [hf]; simp)) hk'

end Go.Proofs.YtoihipolfdhhnaaGreatDoor

namespace Go.Proofs.YtoihipolfdhhnaaGreatDoor

/-- A slice of texts in old memory. -/
structure OldStrs (B : Nat) (w : World) (a : Option Addr) (n c : Nat) (l : List ByteArray) : Prop where
  len : n = l.length
  cap : n ≤ c
  at_ : ∀ i s, l[i]? = some s → ∃ ad, a = some ad ∧ w.cell? (ad.add i) = some (.string s) ∧ ad.block < B

theorem OldStrs.fresh {B : Nat} {w w' : World} {a : Option Addr} {n c : Nat} {l : List ByteArray} (h : OldStrs B w a n c l) (hn : New w w') : OldStrs B w' a n c l :=
  ⟨h.len, h.cap, fun i s hi => by obtain ⟨ad, g1, g2, g3⟩ := h.at_ i s hi; exact ⟨ad, g1, cell_new hn g2, g3⟩⟩

noncomputable def copy0 : List Item := (run Tab Tryz.f5.ntmps 20 (code Tryz.f5) (ini [.e (.c (.sl none 0 0)), .e (.c (.int .i64 0))] [] [])).1
noncomputable def copy1 : List Item := (run Tab Tryz.f5.ntmps 60 (popX copy0) { tl := [(0, .e (.c (.sl none 0 0))), (18, .e (.c (.bool true)))], bs := [], orc := [false] }).1
noncomputable def copyH1 : List Item := (loopX copy1).getD []

abbrev D1tl (af : Option Addr) (nf cf : Nat) (mode : Int) (want : ByteArray) (i : Nat) : List (Nat × SV) :=
  [(0, .e (.c (.sl af nf cf))), (1, .e (.c (.int .i64 mode))), (5, .e (.c (.bool true))), (6, .e (.c (.str want))), (7, .e (.c (.int .i64 (i : Int))))]
abbrev D1 (w0 w : World) (a : Act) (af : Option Addr) (nf cf : Nat) (mode : Int) (want : ByteArray) (i : Nat) : Prop :=
  CRel (lenv w0.heap.size w []) Tryz.f5.ntmps { tl := D1tl af nf cf mode want i, bs := [] } a w

theorem copies_in (w0 : World) (af : Option Addr) (nf cf : Nat) (mode : Int) (l : List ByteArray) (hf : OldStrs w0.heap.size w0 af nf cf l) (hl20 : l.length ≤ 20) (tot : ByteArray)
    (hcont : (∀ s ∈ l, Good s) → ∀ w a, New w0 w → D1 w0 w a af nf cf mode tot l.length → Gets Tryz.prog 5 copyH1 a w (CatR w0)) :
    ∀ (ls pre : List ByteArray), l = pre ++ ls → (∀ s ∈ pre, Good s) → ∀ (want : ByteArray) (w : World) (a : Act), want.size + 256 * ls.length ≤ 1000000 → addAll want ls = tot → New w0 w → D1 w0 w a af nf cf mode want pre.length → Gets Tryz.prog 5 copyH1 a w (CatR w0) := by
  intro ls
  induction ls with
  | nil =>
    intro pre hpre hg want w a _ htot hN hc
    have hpre' : l = pre := by simpa using hpre
    subst hpre'
    simp only [addAll, List.foldl_nil] at htot
    subst htot
    exact hcont hg w a hN hc
  | cons s ls ih =>
    intro pre hpre hg want w a hsz htot hN hc
    have hls : l[pre.length]? = some s := by rw [hpre]; simp
    obtain ⟨ad, rfl, g2, g3⟩ := (hf.fresh hN).at_ pre.length s hls
    have hll : l.length = pre.length + (ls.length + 1) := by rw [hpre]; simp
    have hnf := hf.len
    have hS : oro w0.heap.size w (ad.add ((pre.length : Int).toNat * 1)) = some (.string s) := oro_of (by rw [addr_add_block]; exact g3) (by simpa using g2)
    have hin2 : 0 ≤ (pre.length : Int) ∧ (pre.length : Int) < (nf : Int) := ⟨by omega, by omega⟩
    have hlt : decide ((pre.length : Int) < (nf : Int)) = true := by simp; omega
    have hem : (⟨#[]⟩ : ByteArray).toList = [] := by rw [ByteArray.toList_eq]
    by_cases he : (s.toList == []) = true
    · have he' : (s.toList == (⟨#[]⟩ : ByteArray).toList) = true := by rw [hem]; exact he
      refine gets_run tab_ok 90 (hc.feed [true, true] [.e (.c (.str s))]) (holds_of (obs := [fun _ => decide ((↑(List.length pre) : Int) < (↑nf : Int)) = true, fun _ => (0 : Int) ≤ (↑(List.length pre) : Int) ∧ (↑(List.length pre) : Int) < (↑nf : Int), fun ε => Env.ro ε (Addr.add ad (Int.toNat (↑(List.length pre) : Int) * (1 : Nat))) = some (Value.string s), fun _ => (ByteArray.toList s == ByteArray.toList { data := #[] }) = true]) (by kernel_rfl) ⟨hlt, hin2, hS, he', trivial⟩) (fun a1 w1 hc1 => ?_)
      replace hc1 := hc1.pickx [(0, .e (.c (.sl (some ad) nf cf))), (1, .e (.c (.int .i64 mode))), (4, .e (.c (.bool true))), (5, .e (.c (.bool true))), (6, .e (.c (.str want))), (7, .e (.c (.int .i64 ((↑(List.length pre) : Int))))), (24, .e (.c (.int .i64 ((↑(List.length pre) : Int))))), (25, .e (.c (.sl (some ad) nf cf))), (26, .e (.c (.int .i64 ((↑nf : Int))))), (27, .e (.c (.bool true))), (30, .e (.c (.sl (some ad) nf cf))), (31, .e (.c (.int .i64 ((↑(List.length pre) : Int))))), (32, .e (.c (.rp (Addr.add ad (Int.toNat (↑(List.length pre) : Int) * (1 : Nat)))))), (33, .e (.c (.str s))), (34, .e (.c (.bool true))), (35, .e (.c (.bool true))), (42, .e (.c (.bool true))), (43, .e (.c (.bool true)))] [] [] (by kernel_rfl) (by kernel_rfl)
      exact gets_fin tab_ok (l := [.c (.bool true)]) hc1 Tryz.func5 (by kernel_rfl) (by kernel_rfl) ⟨rfl, hN.trans ((Over.lenv (New.refl w) (by simp)).rel hc1.mem), trivial⟩
    · have he' : (s.toList == (⟨#[]⟩ : ByteArray).toList) = false := by rw [hem]; simpa using he
      by_cases hb : s.size ≤ 256
      · have hb' : decide ((s.size : Int) > 256) = false := by simp; omega
        have hso : ((want.size + s.size : Nat) : Int) ≤ 9223372036854775807 := by simp only [List.length_cons] at hsz; omega
        refine gets_run tab_ok 120 (hc.feed [true, false, false] [.e (.c (.str s)), .e (.c (.str s)), .e (.c (.str s))]) (holds_of (obs := [fun _ => decide ((↑(List.length pre) : Int) < (↑nf : Int)) = true, fun _ => (0 : Int) ≤ (↑(List.length pre) : Int) ∧ (↑(List.length pre) : Int) < (↑nf : Int), fun ε => Env.ro ε (Addr.add ad (Int.toNat (↑(List.length pre) : Int) * (1 : Nat))) = some (Value.string s), fun _ => (ByteArray.toList s == ByteArray.toList { data := #[] }) = false, fun _ => (0 : Int) ≤ (↑(List.length pre) : Int) ∧ (↑(List.length pre) : Int) < (↑nf : Int), fun ε => Env.ro ε (Addr.add ad (Int.toNat (↑(List.length pre) : Int) * (1 : Nat))) = some (Value.string s), fun _ => decide ((↑(ByteArray.size s) : Int) > (256 : Int)) = false, fun _ => (0 : Int) ≤ (↑(List.length pre) : Int) ∧ (↑(List.length pre) : Int) < (↑nf : Int), fun ε => Env.ro ε (Addr.add ad (Int.toNat (↑(List.length pre) : Int) * (1 : Nat))) = some (Value.string s), fun _ => (↑(ByteArray.size want + ByteArray.size s) : Int) ≤ (9223372036854775807 : Int)]) (by kernel_rfl) ⟨hlt, hin2, hS, he', hin2, hS, hb', hin2, hS, hso, trivial⟩) (fun a1 w1 hc1 => ?_)
        replace hc1 := hc1.pickx [(0, .e (.c (.sl (some ad) nf cf))), (1, .e (.c (.int .i64 mode))), (5, .e (.c (.bool true))), (6, .e (.c (.str (want ++ s)))), (7, .e (.c (.int .i64 (IntKind.wrap IntKind.i64 ((↑(List.length pre) : Int) + (1 : Int)))))), (24, .e (.c (.int .i64 ((↑(List.length pre) : Int))))), (25, .e (.c (.sl (some ad) nf cf))), (26, .e (.c (.int .i64 ((↑nf : Int))))), (27, .e (.c (.bool true))), (28, .e (.c (.int .i64 ((↑(List.length pre) : Int))))), (29, .e (.c (.int .i64 (IntKind.wrap IntKind.i64 ((↑(List.length pre) : Int) + (1 : Int)))))), (30, .e (.c (.sl (some ad) nf cf))), (31, .e (.c (.int .i64 ((↑(List.length pre) : Int))))), (32, .e (.c (.rp (Addr.add ad (Int.toNat (↑(List.length pre) : Int) * (1 : Nat)))))), (33, .e (.c (.str s))), (34, .e (.c (.bool false))), (35, .e (.c (.bool false))), (36, .e (.c (.sl (some ad) nf cf))), (37, .e (.c (.int .i64 ((↑(List.length pre) : Int))))), (38, .e (.c (.rp (Addr.add ad (Int.toNat (↑(List.length pre) : Int) * (1 : Nat)))))), (39, .e (.c (.str s))), (40, .e (.c (.int .i64 ((↑(ByteArray.size s) : Int))))), (41, .e (.c (.bool false))), (42, .e (.c (.bool false))), (44, .e (.c (.str want))), (45, .e (.c (.sl (some ad) nf cf))), (46, .e (.c (.int .i64 ((↑(List.length pre) : Int))))), (47, .e (.c (.rp (Addr.add ad (Int.toNat (↑(List.length pre) : Int) * (1 : Nat)))))), (48, .e (.c (.str s))), (49, .e (.c (.str (want ++ s))))] [] [] (by kernel_rfl) (by kernel_rfl)
        have hN1 := hN.trans ((Over.lenv (New.refl w) (by simp)).rel hc1.mem)
        have hc2 := hc1.anchor0 w0.heap.size (D1tl (some ad) nf cf mode (want ++ s) (pre.length + 1)) [] [] ⟨by rfl, by rfl, by rfl, by rfl, by show some (Value.int .i64 (IntKind.i64.wrap ((pre.length : Int) + 1))) = _; rw [wrap_succ (by omega)]; rfl, trivial⟩
        refine gets_loop (k' := copyH1) (by kernel_rfl) ?_
        have hpl : (pre ++ [s]).length = pre.length + 1 := by simp
        refine ih (pre ++ [s]) (by rw [hpre]; simp) (fun x hx => ?_) (want ++ s) w1 a1 (by rw [ByteArray.size_append]; simp only [List.length_cons] at hsz; omega) htot hN1 (by rw [hpl]; exact hc2)
        rcases List.mem_append.1 hx with hx | hx
        · exact hg x hx
        · simp only [List.mem_singleton] at hx
          subst hx
          exact ⟨by simpa using he, hb⟩
      · have hb' : decide ((s.size : Int) > 256) = true := by simp; omega
        refine gets_run tab_ok 120 (hc.feed [true, false, true] [.e (.c (.str s)), .e (.c (.str s))]) (holds_of (obs := [fun _ => decide ((↑(List.length pre) : Int) < (↑nf : Int)) = true, fun _ => (0 : Int) ≤ (↑(List.length pre) : Int) ∧ (↑(List.length pre) : Int) < (↑nf : Int), fun ε => Env.ro ε (Addr.add ad (Int.toNat (↑(List.length pre) : Int) * (1 : Nat))) = some (Value.string s), fun _ => (ByteArray.toList s == ByteArray.toList { data := #[] }) = false, fun _ => (0 : Int) ≤ (↑(List.length pre) : Int) ∧ (↑(List.length pre) : Int) < (↑nf : Int), fun ε => Env.ro ε (Addr.add ad (Int.toNat (↑(List.length pre) : Int) * (1 : Nat))) = some (Value.string s), fun _ => decide ((↑(ByteArray.size s) : Int) > (256 : Int)) = true]) (by kernel_rfl) ⟨hlt, hin2, hS, he', hin2, hS, hb', trivial⟩) (fun a1 w1 hc1 => ?_)
        replace hc1 := hc1.pickx [(0, .e (.c (.sl (some ad) nf cf))), (1, .e (.c (.int .i64 mode))), (4, .e (.c (.bool true))), (5, .e (.c (.bool true))), (6, .e (.c (.str want))), (7, .e (.c (.int .i64 ((↑(List.length pre) : Int))))), (24, .e (.c (.int .i64 ((↑(List.length pre) : Int))))), (25, .e (.c (.sl (some ad) nf cf))), (26, .e (.c (.int .i64 ((↑nf : Int))))), (27, .e (.c (.bool true))), (30, .e (.c (.sl (some ad) nf cf))), (31, .e (.c (.int .i64 ((↑(List.length pre) : Int))))), (32, .e (.c (.rp (Addr.add ad (Int.toNat (↑(List.length pre) : Int) * (1 : Nat)))))), (33, .e (.c (.str s))), (34, .e (.c (.bool false))), (35, .e (.c (.bool false))), (36, .e (.c (.sl (some ad) nf cf))), (37, .e (.c (.int .i64 ((↑(List.length pre) : Int))))), (38, .e (.c (.rp (Addr.add ad (Int.toNat (↑(List.length pre) : Int) * (1 : Nat)))))), (39, .e (.c (.str s))), (40, .e (.c (.int .i64 ((↑(ByteArray.size s) : Int))))), (41, .e (.c (.bool true))), (42, .e (.c (.bool true))), (43, .e (.c (.bool true)))] [] [] (by kernel_rfl) (by kernel_rfl)
        exact gets_fin tab_ok (l := [.c (.bool true)]) hc1 Tryz.func5 (by kernel_rfl) (by kernel_rfl) ⟨rfl, hN.trans ((Over.lenv (New.refl w) (by simp)).rel hc1.mem), trivial⟩

abbrev D3tl (af : Option Addr) (nf cf : Nat) (want : ByteArray) (ku : Nat) (got : ByteArray) (i n : Nat) : List (Nat × SV) :=
  [(0, .e (.c (.sl af nf cf))), (5, .e (.c (.bool true))), (6, .e (.c (.str want))), (8, .e (.c (.rp ⟨ku, 0, none⟩))), (13, .e (.c (.str got))), (14, .e (.c (.int .i64 (i : Int)))), (15, .e (.c (.p 0 0))), (16, .e (.c (.int .i64 (n : Int))))]

theorem Rel.newer {ε : Env} {bs bs' : List NB} {w w' : World} (h : Rel ε bs w) (h' : Rel ε bs' w') {i : Nat} (h1 : bs.length ≤ i) (h2 : i < bs'.length) : w.heap.size ≤ ε.ρ i ∧ ε.ρ i < w'.heap.size := by
  have a1 := h.n0
  have a2 := h.size
  have a3 := h'.size
  rw [h.new i (by omega)]
  omega

/-- What holds at the head of the loop that plays. -/
structure L3 (w0 : World) (af : Option Addr) (nf cf : Nat) (want : ByteArray) (ku b kr : Nat) (m : M) (r : Res) (got : ByteArray) (i n : Nat) (w : World) (a : Act) : Prop where
  new : New w0 w
  lu : LU ⟨w0.heap.size, [kr]⟩ w0 w ku b m
  kr0 : w0.heap.size ≤ kr
  nm : r.names = []
  rel : CRel (lenv w0.heap.size w [kr]) Tryz.f5.ntmps { tl := D3tl af nf cf want ku got i n, bs := [⟨35, r.cs none 0 0⟩] } a w

noncomputable def copy2 : List Item := (run Tab Tryz.f5.ntmps 60 copyH1 { tl := D1tl none 0 0 0 ⟨#[]⟩ 0, bs := [], orc := [false] }).1
noncomputable def copy3 : List Item := (run Tab Tryz.f5.ntmps 40 (popX copy2) { tl := (51, .e (.c (.rp ⟨0, 0, none⟩))) :: D1tl none 0 0 0 ⟨#[]⟩ 0, bs := [] }).1
noncomputable def copy4 : List Item := (run Tab Tryz.f5.ntmps 40 (popX copy3) { tl := (56, .e (.a ({} : CallD).cs)) :: (8, .e (.c (.rp ⟨0, 0, none⟩))) :: D1tl none 0 0 0 ⟨#[]⟩ 0, bs := [] }).1
noncomputable def copy5 : List Item := (run Tab Tryz.f5.ntmps 40 (popX copy4) { tl := (59, .e (.a ({} : CallD).cs)) :: (8, .e (.c (.rp ⟨0, 0, none⟩))) :: D1tl none 0 0 0 ⟨#[]⟩ 0, bs := [] }).1
noncomputable def copy6 : List Item := (run Tab Tryz.f5.ntmps 40 (popX copy5) { tl := (64, .e (.a ({} : CallD).cs)) :: (8, .e (.c (.rp ⟨0, 0, none⟩))) :: D1tl none 0 0 0 ⟨#[]⟩ 0, bs := [] }).1
noncomputable def copy7 : List Item := (run Tab Tryz.f5.ntmps 400 (popX copy6) { tl := (67, .e (.a ({ empty := true, make := true } : CallD).cs)) :: (9, .e (.c (.p 0 0))) :: (10, .e (.c (.p 0 0))) :: (11, .e (.c (.p 0 0))) :: (8, .e (.c (.rp ⟨0, 0, none⟩))) :: D1tl none 0 0 0 ⟨#[]⟩ 0, bs := [⟨39, ({ empty := true, make := true } : CallD).cs⟩], orc := [false, false, false, false, false, false, false, false, false] }).1
noncomputable def copyH3 : List Item := (loopX copy7).getD []

theorem copies_play (w0 : World) (hB : Base w0) (af : Option Addr) (nf cf : Nat) (mode : Int) (want : ByteArray) (i : Nat) (w : World) (a : Act) (hN : New w0 w) (hge : nf ≤ i) (hc : D1 w0 w a af nf cf mode want i)
    (hH : ∀ ku b kr w' a', L3 w0 af nf cf want ku b kr (p4 mode) { n := 4 } e0 0 0 w' a' → Gets Tryz.prog 5 copyH3 a' w' (CatR w0)) : Gets Tryz.prog 5 copyH1 a w (CatR w0) := by
  have hlt : decide ((i : Int) < (nf : Int)) = false := by simp; omega
  have hG : GlobOk ⟨w0.heap.size, []⟩ w0 := GlobOk.start hB
  refine gets_run tab_ok 60 (hc.feed [false] []) (holds_of (obs := [fun _ => decide ((↑i : Int) < (↑nf : Int)) = false]) (by kernel_rfl) ⟨hlt, trivial⟩) (fun a1 w1 hc1 => ?_)
  replace hc1 := hc1.pickx [(0, .e (.c (.sl af nf cf))), (1, .e (.c (.int .i64 mode))), (5, .e (.c (.bool true))), (6, .e (.c (.str want))), (50, .e (.c (.nsl 0 0 3 3)))] [⟨9, [.str ⟨#[99, 112]⟩, .str ⟨#[47, 97]⟩, .str ⟨#[47, 98]⟩]⟩] [] (by kernel_rfl) (by kernel_rfl)
  have hn1 := (Over.lenv (New.refl w) (by simp)).rel hc1.mem
  have hN1 := hN.trans hn1
  refine gets_new (B := ⟨w0.heap.size, []⟩) 51 [] sCp [sCp, sA, sB] (.c (.nsl 0 0 3 3)) _ 3 3 .cp hc1 (hG.keep (hN1.keep _)) (by kernel_rfl) rfl (strsAt_new hc1.mem 0 [sCp, sA, sB] rfl List.not_mem_nil) (by simp) prog_cp (by kernel_rfl) (by kernel_rfl) (by kernel_rfl) (by kernel_rfl) (fun a2 w2 ku b hn2 hku hu hown hc2 => ?_)
  have hN2 := hN1.trans hn2
  have hc3 := hc2.anchor0 w0.heap.size [(0, .e (.c (.sl af nf cf))), (1, .e (.c (.int .i64 mode))), (5, .e (.c (.bool true))), (6, .e (.c (.str want))), (51, .e (.c (.rp ⟨ku, 0, none⟩)))] [] [] ⟨by rfl, by rfl, by rfl, by rfl, by rfl, trivial⟩
  clear hc2 hc1
  have hov3 : Over w0 (lenv w0.heap.size w2 []) := Over.lenv hN2 (by simp)
  have hL2 : LU ⟨w0.heap.size, []⟩ w0 w2 ku b pS := ⟨hu, fun j ho => Nat.le_trans hN1.size (hown j ho)⟩
  refine law_next 40 10 56 [] {} ku b [(0, .e (.c (.sl af nf cf))), (1, .e (.c (.int .i64 mode))), (5, .e (.c (.bool true))), (6, .e (.c (.str want))), (8, .e (.c (.rp ⟨ku, 0, none⟩)))] [] (rs := ({} : Res).cs none 0 0) (ad := none) (nn := 0) (cp := 0) (obs := []) hov3 hc3 hL2 (by kernel_rfl) trivial (by kernel_rfl) (by kernel_rfl) (by kernel_rfl) rfl (strsAt_nil _ w2) (by kernel_rfl) (by kernel_rfl) (by kernel_rfl) (by kernel_rfl) (by kernel_rfl) cp_uS cp_vS
    (fun ε4 a4 w4 hov4 hL4 _ hc4 => ?_)
  refine law_next 40 10 59 [] { err := 3 } ku b [(0, .e (.c (.sl af nf cf))), (1, .e (.c (.int .i64 mode))), (5, .e (.c (.bool true))), (6, .e (.c (.str want))), (8, .e (.c (.rp ⟨ku, 0, none⟩))), (9, .e (.c (.p 0 0)))] [⟨39, p1.call.cs⟩] (rs := ({ err := 3 } : Res).cs none 0 0) (ad := none) (nn := 0) (cp := 0) (obs := []) hov4 hc4 hL4 (by kernel_rfl) trivial (by kernel_rfl) (by kernel_rfl) (by kernel_rfl) rfl (strsAt_nil _ w4) (by kernel_rfl) (by kernel_rfl) (by kernel_rfl) (by kernel_rfl) (by kernel_rfl) cp_u1 cp_v1
    (fun ε5 a5 w5 hov5 hL5 _ hc5 => ?_)
  refine law_next 40 10 64 [] { info := { mode := mode } } ku b [(0, .e (.c (.sl af nf cf))), (1, .e (.c (.int .i64 mode))), (5, .e (.c (.bool true))), (6, .e (.c (.str want))), (8, .e (.c (.rp ⟨ku, 0, none⟩))), (9, .e (.c (.p 0 0))), (10, .e (.c (.p 1 0)))] [⟨39, p2.call.cs⟩] (rs := ({ info := { mode := mode } } : Res).cs none 0 0) (ad := none) (nn := 0) (cp := 0) (obs := []) hov5 hc5 hL5 (by kernel_rfl) trivial (by kernel_rfl) (by kernel_rfl) (by kernel_rfl) rfl (strsAt_nil _ w5) (by kernel_rfl) (by kernel_rfl) (by kernel_rfl) (by kernel_rfl) (by kernel_rfl) (cp_u2 mode) (cp_v2 mode)
    (fun ε6 a6 w6 hov6 hL6 _ hc6 => ?_)
  refine law_next 40 10 67 [] { n := 3 } ku b [(0, .e (.c (.sl af nf cf))), (1, .e (.c (.int .i64 mode))), (5, .e (.c (.bool true))), (6, .e (.c (.str want))), (8, .e (.c (.rp ⟨ku, 0, none⟩))), (9, .e (.c (.p 0 0))), (10, .e (.c (.p 1 0))), (11, .e (.c (.p 2 0)))] [⟨39, (p3 mode).call.cs⟩] (rs := ({ n := 3 } : Res).cs none 0 0) (ad := none) (nn := 0) (cp := 0) (obs := []) hov6 hc6 hL6 (by kernel_rfl) trivial (by kernel_rfl) (by kernel_rfl) (by kernel_rfl) rfl (strsAt_nil _ w6) (by kernel_rfl) (by kernel_rfl) (by kernel_rfl) (by kernel_rfl) (by kernel_rfl) (cp_u3 mode) (cp_v3 mode)
    (fun ε7 a7 w7 hov7 hL7 _ hc7 => ?_)
  have hq : (low9 mode != low9 mode) = false := by simp
  refine gets_run tab_ok 400 (hc7.feed [false, false, false, false, false, false, false, false, false] []) (holds_of (obs := [fun _ => ((8 : Int) != (8 : Int)) = false, fun _ => (!ByteArray.toList sB == ByteArray.toList { data := #[(47 : UInt8), (98 : UInt8)] }) = false, fun _ => ((8 : Int) != (8 : Int)) = false, fun _ => (!ByteArray.toList sA == ByteArray.toList { data := #[(47 : UInt8), (97 : UInt8)] }) = false, fun _ => ((2 : Int) != (2 : Int)) = false, fun _ => (!ByteArray.toList sA == ByteArray.toList { data := #[(47 : UInt8), (97 : UInt8)] }) = false, fun _ => ((2 : Int) != (2 : Int)) = false, fun _ => (!ByteArray.toList sB == ByteArray.toList { data := #[(47 : UInt8), (98 : UInt8)] }) = false, fun _ => (low9 mode != IntKind.wrap IntKind.i64 (↑(BitVec.toNat (BitVec.ofInt (IntKind.bits IntKind.i64) mode &&& BitVec.ofInt (IntKind.bits IntKind.i64) (511 : Int))) : Int)) = false]) (by kernel_rfl) ⟨rfl, (by simp), rfl, (by simp), rfl, (by simp), rfl, (by simp), hq, trivial⟩) (fun a8 w8 hc8 => ?_)
  replace hc8 := hc8.pickx [(0, .e (.c (.sl af nf cf))), (5, .e (.c (.bool true))), (6, .e (.c (.str want))), (8, .e (.c (.rp ⟨ku, 0, none⟩))), (13, .e (.c (.str ⟨#[]⟩))), (14, .e (.c (.int .i64 0))), (15, .e (.c (.p 4 0))), (16, .e (.c (.int .i64 0)))] [⟨39, [.int .i64 8, .str ⟨#[47, 98]⟩, .str ⟨#[]⟩, .str ⟨#[]⟩, .int .i64 0, .int .i64 0, .int .i64 0, .int .i64 0, .int .i64 0, .int .i64 0, .int .i64 0, .bool false, .bool false, .bool false, .bool false, .int .i64 0, .bool false, .bool false, .sl (none) 0 0, .sl (none) 0 0]⟩, ⟨39, [.int .i64 8, .str ⟨#[47, 97]⟩, .str ⟨#[]⟩, .str ⟨#[]⟩, .int .i64 0, .int .i64 0, .int .i64 0, .int .i64 0, .int .i64 0, .int .i64 0, .int .i64 0, .bool false, .bool false, .bool false, .bool false, .int .i64 0, .bool false, .bool false, .sl (none) 0 0, .sl (none) 0 0]⟩, ⟨39, [.int .i64 ((2 : Int)), .str (sA), .str ({ data := #[] }), .str ({ data := #[] }), .int .i64 ((0 : Int)), .int .i64 ((0 : Int)), .int .i64 ((0 : Int)), .int .i64 ((0 : Int)), .int .i64 ((0 : Int)), .int .i64 ((0 : Int)), .int .i64 ((4 : Int)), .bool false, .bool false, .bool false, .bool false, .int .i64 ((0 : Int)), .bool false, .bool false, .sl (none) 0 0, .sl (none) 0 0]⟩, ⟨39, [.int .i64 ((2 : Int)), .str (sB), .str ({ data := #[] }), .str ({ data := #[] }), .int .i64 ((0 : Int)), .int .i64 ((0 : Int)), .int .i64 ((0 : Int)), .int .i64 ((0 : Int)), .int .i64 ((0 : Int)), .int .i64 ((0 : Int)), .int .i64 ((2 : Int)), .bool true, .bool false, .bool true, .bool false, .int .i64 (low9 mode), .bool false, .bool false, .sl (none) 0 0, .sl (none) 0 0]⟩, ⟨35, [.int .i64 0, .int .i64 4, .int .i64 0, .str ⟨#[]⟩, .sl (none) 0 0, .int .i64 0, .int .i64 0, .int .i64 0, .int .i64 0, .int .i64 0, .int .i64 0, .int .i64 0, .int .i64 0, .int .i64 0, .int .i64 0, .int .i64 0, .int .i64 0, .int .i64 0, .int .i64 0]⟩] [] (by kernel_rfl) (by kernel_rfl)
  have hr7 := hc7.mem.bs (bs' := [⟨39, p1.call.cs⟩, ⟨39, p2.call.cs⟩, ⟨39, (p3 mode).call.cs⟩]) (by kernel_rfl)
  have hr8 := hc8.mem.bs (bs' := [⟨39, p1.call.cs⟩, ⟨39, p2.call.cs⟩, ⟨39, (p3 mode).call.cs⟩] ++ [⟨39, (p4 mode).call.cs⟩, ⟨35, ({ n := 4 } : Res).cs none 0 0⟩]) (by kernel_rfl)
  have hn8 := hr7.grow hr8
  obtain ⟨hge8, hlt8⟩ := hr7.newer hr8 (i := 4) (Nat.le_of_ble_eq_true rfl) (Nat.le_of_ble_eq_true rfl)
  have hN8 : New w0 w8 := hov7.rel hr8
  have hL8 : LU ⟨w0.heap.size, [ε7.ρ 4]⟩ w0 w8 ku b (p4 mode) := hL7.excl hn8 hge8 hlt8
  have hkr : w0.heap.size ≤ ε7.ρ 4 := Nat.le_trans (hov7.rel hr7).size hge8
  have hc9 := hc8.anchor1 w0.heap.size 4 ⟨35, ({ n := 4 } : Res).cs none 0 0⟩ rfl rfl hkr (D3tl af nf cf want ku e0 0 0) [] [] ⟨by rfl, by rfl, by rfl, by rfl, by rfl, by rfl, by rfl, by rfl, trivial⟩
  refine gets_loop (k' := copyH3) (by kernel_rfl) ?_
  exact hH ku b (ε7.ρ 4) w8 a8 ⟨hN8, hL8, hkr, rfl, hc9⟩

end Go.Proofs.YtoihipolfdhhnaaGreatDoor

namespace Go.Proofs.YtoihipolfdhhnaaGreatDoor

/-- A slice of numbers in old memory. -/
structure OldInts (B : Nat) (w : World) (a : Option Addr) (n c : Nat) (l : List Int) : Prop where
  len : n = l.length
  cap : n ≤ c
  at_ : ∀ i s, l[i]? = some s → ∃ ad, a = some ad ∧ w.cell? (ad.add i) = some (.int .i64 s) ∧ ad.block < B

theorem OldInts.fresh {B : Nat} {w w' : World} {a : Option Addr} {n c : Nat} {l : List Int} (h : OldInts B w a n c l) (hn : New w w') : OldInts B w' a n c l :=
  ⟨h.len, h.cap, fun i s hi => by obtain ⟨ad, g1, g2, g3⟩ := h.at_ i s hi; exact ⟨ad, g1, cell_new hn g2, g3⟩⟩

noncomputable def rem0 : List Item := (run Tab Tryz.f6.ntmps 20 (code Tryz.f6) (ini [.e (.c (.sl none 0 0))] [] [])).1
noncomputable def rem1 : List Item := (run Tab Tryz.f6.ntmps 60 (popX rem0) { tl := [(0, .e (.c (.sl none 0 0))), (11, .e (.c (.bool true)))], bs := [] }).1
noncomputable def rem2 : List Item := (run Tab Tryz.f6.ntmps 60 (popX rem1) { tl := [(0, .e (.c (.sl none 0 0))), (3, .e (.c (.bool true))), (13, .e (.c (.rp ⟨0, 0, none⟩)))], bs := [] }).1
noncomputable def remH : List Item := (loopX rem2).getD []

abbrev L6tl (tr : Option Addr) (nt ct : Nat) (ku : Nat) (ap : Option Addr) (nl cl : Nat) (i n : Nat) : List (Nat × SV) :=
  [(0, .e (.c (.sl tr nt ct))), (3, .e (.c (.bool true))), (4, .e (.c (.rp ⟨ku, 0, none⟩))), (5, .e (.c (.sl ap nl cl))), (6, .e (.c (.int .i64 (i : Int)))), (7, .e (.c (.p 0 0))), (8, .e (.c (.int .i64 (n : Int))))]

/-- What holds at the loop's head. -/
structure L6 (w0 : World) (tr : Option Addr) (nt ct : Nat) (ku b kr : Nat) (x : List Nat) (m : M) (r : Res) (an : Option Addr) (nn cn : Nat) (ap : Option Addr) (nl cl : Nat) (l : List ByteArray) (i n : Nat) (w : World) (a : Act) : Prop where
  new : New w0 w
  lu : LU ⟨w0.heap.size, x⟩ w0 w ku b m
  kr0 : w0.heap.size ≤ kr
  krx : kr ∈ x
  row : Row w0.heap.size w ap nl cl l
  rowx : ∀ g, ap = some ⟨g, 0, none⟩ → g ∈ x
  nms : StrsAt ⟨w0.heap.size, x⟩ w an nn cn r.names
  rel : CRel (lenv w0.heap.size w [kr]) Tryz.f6.ntmps { tl := L6tl tr nt ct ku ap nl cl i n, bs := [⟨35, r.cs an nn cn⟩] } a w

noncomputable def remK : List Item := (run Tab Tryz.f6.ntmps 60 remH { tl := L6tl none 0 0 0 none 0 0 0 0, bs := [⟨35, ({} : Res).cs none 0 0⟩], orc := [true] }).1

theorem rem_to (w0 : World) (tr : Option Addr) (nt ct : Nat) (ku b kr : Nat) (x : List Nat) (m m' : M) (r : Res) (an : Option Addr) (nn cn : Nat) (ap : Option Addr) (nl cl : Nat) (l : List ByteArray) (i n : Nat) (w : World) (a : Act) (h : L6 w0 tr nt ct ku b kr x m r an nn cn ap nl cl l i n w a) (hn : n < 600) (hm : next 10 m r = m') (hok : okNext 10 m r)
    (hk : ∀ w' a', New w0 w' → LU ⟨w0.heap.size, x⟩ w0 w' ku b m' → Row w0.heap.size w' ap nl cl l → CRel (lenv w0.heap.size w' [kr]) Tryz.f6.ntmps { tl := (23, .e (.a m'.call.cs)) :: L6tl tr nt ct ku ap nl cl i n, bs := [⟨35, r.cs an nn cn⟩] } a' w' → Gets Tryz.prog 6 (popX remK) a' w' (CatR w0)) :
    Gets Tryz.prog 6 remH a w (CatR w0) := by
  obtain ⟨hN, hu, hkr, hkx, hrow, hrx, hnm, hc⟩ := h
  have hlt : decide ((n : Int) < 600) = true := by simp; omega
  refine gets_run tab_ok 60 (hc.feed [true] []) (holds_of (obs := [fun _ => decide ((n : Int) < (600 : Int)) = true]) (by kernel_rfl) ⟨hlt, trivial⟩) (fun a1 w1 hc1 => ?_)
  have hn1 := hc.mem.same (hc1.mem.bs (bs' := [⟨35, r.cs an nn cn⟩]) (by kernel_rfl))
  refine law_next2 (m' := m') 10 23 r ku b 0 ⟨35, r.cs an nn cn⟩ (L6tl tr nt ct ku ap nl cl i n) (ad := an) (nn := nn) (cp := cn) (rs := r.cs an nn cn) (hN.trans hn1) hc1 (hu.fresh hn1) (by kernel_rfl) (congrArg Value.agg (map_plain _ rfl)) (hnm.keep (hn1.keep _)) (by kernel_rfl) (by kernel_rfl) (by kernel_rfl) rfl (by show (35 : Nat) ≠ 66; decide) (by show (35 : Nat) ≠ 84; decide) (by show w0.heap.size ≤ kr; exact hkr) (fun w' => ⟨by rfl, by rfl, by rfl, by rfl, by rfl, by rfl, by rfl, trivial⟩) hm hok (fun a2 w2 hN2 hu2 hs2 hb2 hc2 => ?_)
  exact hk w2 a2 hN2 hu2 ((hrow.fresh hn1).keep (fun g cur _ hg => hb2 g cur 9 hg (by decide) (by decide))) hc2

/-- The round's end: the block of the answer keeps its name. -/
theorem rem_back (w0 : World) (tr : Option Addr) (nt ct : Nat) (ku b kr : Nat) (x : List Nat) (m : M) (r : Res) (an : Option Addr) (nn cn : Nat) (ap : Option Addr) (nl cl : Nat) (l : List ByteArray) (i n : Nat) (ε : Env) (hε : ε.ρ 0 = kr) (w : World) (a : Act) (σ : St) (hN : New w0 w) (hu : LU ⟨w0.heap.size, x⟩ w0 w ku b m) (hkr : w0.heap.size ≤ kr) (hkx : kr ∈ x) (hrow : Row w0.heap.size w ap nl cl l) (hrx : ∀ g, ap = some ⟨g, 0, none⟩ → g ∈ x) (hnm : StrsAt ⟨w0.heap.size, x⟩ w an nn cn r.names)
    (hc : CRel ε Tryz.f6.ntmps σ a w) (cs : List C) (hb : σ.bs[0]? = some ⟨35, cs⟩) (hcs : cs = r.cs an nn cn) (hT : AllT ε.ρ (lenv w0.heap.size w [kr]).ρ σ.tl (L6tl tr nt ct ku ap nl cl i n)) : L6 w0 tr nt ct ku b kr x m r an nn cn ap nl cl l i n w a := by
  subst hcs
  subst hε
  exact ⟨hN, hu, hkr, hkx, hrow, hrx, hnm, hc.anchor1 w0.heap.size 0 ⟨35, r.cs an nn cn⟩ hb rfl hkr _ [] [] hT⟩

/-- Own work that writes the answer's block alone leaves a row. -/
theorem row_rel {B kr : Nat} {w w' : World} {bs : List NB} {ro : Addr → Option Value} {ap : Option Addr} {nl cl : Nat} {l : List ByteArray} (hrow : Row B w ap nl cl l) (hr : Rel (env w [kr] ro) bs w') {y : Array Value} (hk : w.heap[kr]? = some (.cells y 35 (0, 0))) : Row B w' ap nl cl l :=
  hrow.keep (fun g cur _ hg => by
    rw [hr.keep g (lt_of_block hg) (fun i hi e => by
      have hi1 : i < 1 := hi
      have : i = 0 := by omega
      subst this
      have e' : kr = g := e
      rw [e', hg] at hk
      simp only [Option.some.injEq, Obj.cells.injEq] at hk
      exact absurd hk.2.1 (by decide))]
    exact hg)

/-- The end: all is gone. -/
theorem rem_exit (w0 : World) (tr : Option Addr) (nt ct : Nat) (ku b kr : Nat) (x : List Nat) (m : M) (r : Res) (an : Option Addr) (nn cn : Nat) (ap : Option Addr) (cl : Nat) (i n : Nat) (w : World) (a : Act) (h : L6 w0 tr nt ct ku b kr x m r an nn cn ap 0 cl [] i n w a) (hn : n < 600) (hm : next 10 m r = rX) (hok : okNext 10 m r) :
    Gets Tryz.prog 6 remH a w (CatR w0) := by
  refine rem_to w0 tr nt ct ku b kr x m _ r an nn cn ap 0 cl [] i n w a h hn hm hok (fun w2 a2 hN2 hu2 _ hc2 => ?_)
  replace hc2 : CRel (lenv w0.heap.size w2 [kr]) Tryz.f6.ntmps { tl := (23, .e (.a ({ op := 20, n := 0 } : CallD).cs)) :: L6tl tr nt ct ku ap 0 cl i n, bs := [⟨35, r.cs an nn cn⟩] } a2 w2 := hc2
  refine gets_run tab_ok 160 (hc2.feed [true, true, true] []) (holds_of (obs := [fun _ => ((20 : Int) == (20 : Int)) = true, fun _ => ((0 : Int) == (0 : Int)) = true, fun _ => ((↑(0 : Nat) : Int) == (0 : Int)) = true]) (by kernel_rfl) ⟨rfl, rfl, rfl, trivial⟩) (fun a3 w3 hc3 => ?_)
  replace hc3 := hc3.pickx [(0, .e (.c (.sl tr nt ct))), (2, .e (.c (.bool true))), (3, .e (.c (.bool true))), (4, .e (.c (.rp ⟨ku, 0, none⟩))), (5, .e (.c (.sl ap 0 cl))), (6, .e (.c (.int .i64 ((↑i : Int))))), (7, .e (.c (.p 0 0))), (8, .e (.c (.int .i64 ((↑n : Int))))), (9, .e (.c (.p 1 0))), (23, .e (.a (CallD.cs { op := (20 : Int) }))), (24, .e (.a [.int .i64 0, .int .i64 0, .int .i64 0, .str ⟨#[]⟩, .sl (none) 0 0, .int .i64 0, .int .i64 0, .int .i64 0, .int .i64 0, .int .i64 0, .int .i64 0, .int .i64 0, .int .i64 0, .int .i64 0, .int .i64 0, .int .i64 0, .int .i64 0, .int .i64 0, .int .i64 0])), (25, .e (.c (.bool true))), (26, .e (.c (.p 1 0))), (27, .e (.c (.int .i64 20))), (28, .e (.c (.bool true))), (29, .e (.c (.bool true))), (30, .e (.c (.bool true))), (31, .e (.c (.p 1 6))), (32, .e (.c (.int .i64 0))), (33, .e (.c (.bool true))), (34, .e (.c (.bool true))), (35, .e (.c (.bool true))), (36, .e (.c (.sl ap 0 cl))), (37, .e (.c (.int .i64 0))), (38, .e (.c (.bool true))), (39, .e (.c (.bool true)))] [⟨35, [.int .i64 0, .int .i64 0, .int .i64 0, .str ⟨#[]⟩, .sl (none) 0 0, .int .i64 0, .int .i64 0, .int .i64 0, .int .i64 0, .int .i64 0, .int .i64 0, .int .i64 0, .int .i64 0, .int .i64 0, .int .i64 0, .int .i64 0, .int .i64 0, .int .i64 0, .int .i64 0]⟩, ⟨39, [.int .i64 20, .str ⟨#[]⟩, .str ⟨#[]⟩, .str ⟨#[]⟩, .int .i64 0, .int .i64 0, .int .i64 0, .int .i64 0, .int .i64 0, .int .i64 0, .int .i64 0, .bool false, .bool false, .bool false, .bool false, .int .i64 0, .bool false, .bool false, .sl (none) 0 0, .sl (none) 0 0]⟩] [] (by kernel_rfl) (by kernel_rfl)
  exact gets_fin tab_ok (l := [.c (.bool true)]) hc3 Tryz.func6 (by kernel_rfl) (by kernel_rfl) ⟨rfl, (Over.lenv hN2 (by simpa using h.kr0)).rel hc3.mem, trivial⟩

/-- A name is to go: it is gone, or it is a directory. -/
theorem rem_name (w0 : World) (tr : Option Addr) (nt ct : Nat) (tree : List Int) (hf : OldInts w0.heap.size w0 tr nt ct tree) (ku b kr : Nat) (x : List Nat) (m m' : M) (p : ByteArray) (hp : m'.call = { op := 11, path := p }) (r : Res) (an : Option Addr) (nn cn : Nat) (ap : Option Addr) (nl cl : Nat) (l : List ByteArray) (i n : Nat) (hi : i ≤ 1000) (w : World) (a : Act)
    (h : L6 w0 tr nt ct ku b kr x m r an nn cn ap nl cl l i n w a) (hn : n < 600) (hm : next 10 m r = m') (hok : okNext 10 m r)
    (hk : ∀ w' a' e, (e = 0 ∨ (e = 7 ∧ nl < 6)) → L6 w0 tr nt ct ku b kr x m' { err := e } none 0 0 ap nl cl l (i + 1) (n + 1) w' a' → Gets Tryz.prog 6 remH a' w' (CatR w0)) :
    Gets Tryz.prog 6 remH a w (CatR w0) := by
  refine rem_to w0 tr nt ct ku b kr x m _ r an nn cn ap nl cl l i n w a h hn hm hok (fun w2 a2 hN2 hu2 hrow2 hc2 => ?_)
  rw [hp] at hc2
  have hnt := hf.len
  by_cases hlt : i < nt
  · obtain ⟨v, hv⟩ : ∃ v, tree[i]? = some v := ⟨_, List.getElem?_eq_getElem (by omega)⟩
    obtain ⟨ad, rfl, g2, g3⟩ := (hf.fresh hN2).at_ i v hv
    have o1 : decide ((i : Int) < (nt : Int)) = true := by simp; omega
    have hin2 : 0 ≤ (i : Int) ∧ (i : Int) < (nt : Int) := ⟨by omega, by omega⟩
    have hS : oro w0.heap.size w2 (ad.add ((i : Int).toNat * 1)) = some (.int .i64 v) := oro_of (by rw [addr_add_block]; exact g3) (by simpa using g2)
    cases hb : (IntKind.i64.wrap (BitVec.ofInt 64 v &&& BitVec.ofInt 64 1).toNat == 1) with
    | true =>
      by_cases h6 : nl < 6
      · have o2 : decide ((nl : Int) < 6) = true := by simp; omega
        refine gets_run tab_ok 160 (hc2.feed [false, true, true, true, true] [.e (.c (.int .i64 v))]) (holds_of (obs := [fun _ => ((11 : Int) == (20 : Int)) = false, fun _ => ((11 : Int) == (11 : Int)) = true, fun _ => decide ((↑i : Int) < (↑nt : Int)) = true, fun _ => (0 : Int) ≤ (↑i : Int) ∧ (↑i : Int) < (↑nt : Int), fun ε => Env.ro ε (Addr.add ad (Int.toNat (↑i : Int) * (1 : Nat))) = some (Value.int IntKind.i64 v), fun _ => (IntKind.wrap IntKind.i64 (↑(BitVec.toNat (BitVec.ofInt (IntKind.bits IntKind.i64) v &&& BitVec.ofInt (IntKind.bits IntKind.i64) (1 : Int))) : Int) == (1 : Int)) = true, fun _ => decide ((↑nl : Int) < (6 : Int)) = true]) (by kernel_rfl) ⟨rfl, rfl, o1, hin2, hS, (by assumption), o2, trivial⟩) (fun a3 w3 hc3 => ?_)
        replace hc3 := hc3.pickx [(0, .e (.c (.sl (some ad) nt ct))), (3, .e (.c (.bool true))), (4, .e (.c (.rp ⟨ku, 0, none⟩))), (5, .e (.c (.sl ap nl cl))), (6, .e (.c (.int .i64 (IntKind.wrap IntKind.i64 ((↑i : Int) + (1 : Int)))))), (7, .e (.c (.p 0 0))), (8, .e (.c (.int .i64 (IntKind.wrap IntKind.i64 ((↑n : Int) + (1 : Int)))))), (9, .e (.c (.p 1 0))), (19, .e (.c (.int .i64 ((↑n : Int))))), (20, .e (.c (.int .i64 (IntKind.wrap IntKind.i64 ((↑n : Int) + (1 : Int)))))), (23, .e (.a (CallD.cs { op := (11 : Int), path := p }))), (24, .e (.a [.int .i64 0, .int .i64 0, .int .i64 0, .str ⟨#[]⟩, .sl (none) 0 0, .int .i64 0, .int .i64 0, .int .i64 0, .int .i64 0, .int .i64 0, .int .i64 0, .int .i64 0, .int .i64 0, .int .i64 0, .int .i64 0, .int .i64 0, .int .i64 0, .int .i64 0, .int .i64 0])), (25, .e (.c (.bool false))), (26, .e (.c (.p 1 0))), (27, .e (.c (.int .i64 ((11 : Int))))), (28, .e (.c (.bool false))), (40, .e (.c (.bool true))), (41, .e (.c (.p 1 0))), (42, .e (.c (.int .i64 ((11 : Int))))), (43, .e (.c (.bool true))), (44, .e (.c (.bool true))), (45, .e (.c (.p 1 17))), (46, .e (.c (.bool false))), (47, .e (.c (.bool true))), (48, .e (.c (.bool true))), (49, .e (.c (.int .i64 ((↑i : Int))))), (50, .e (.c (.sl (some ad) nt ct))), (51, .e (.c (.int .i64 ((↑nt : Int))))), (52, .e (.c (.bool true))), (53, .e (.c (.bool true))), (54, .e (.c (.sl (some ad) nt ct))), (55, .e (.c (.int .i64 ((↑i : Int))))), (56, .e (.c (.rp (Addr.add ad (Int.toNat (↑i : Int) * (1 : Nat)))))), (57, .e (.c (.int .i64 v))), (58, .e (.c (.int .i64 (IntKind.wrap IntKind.i64 (↑(BitVec.toNat (BitVec.ofInt (IntKind.bits IntKind.i64) v &&& BitVec.ofInt (IntKind.bits IntKind.i64) (1 : Int))) : Int))))), (59, .e (.c (.bool true))), (60, .e (.c (.bool true))), (61, .e (.c (.bool true))), (62, .e (.c (.sl ap nl cl))), (63, .e (.c (.int .i64 ((↑nl : Int))))), (64, .e (.c (.bool true))), (65, .e (.c (.bool true))), (66, .e (.c (.p 0 0))), (67, .e (.c (.int .i64 ((↑i : Int))))), (68, .e (.c (.int .i64 (IntKind.wrap IntKind.i64 ((↑i : Int) + (1 : Int))))))] [⟨35, [.int .i64 7, .int .i64 0, .int .i64 0, .str ⟨#[]⟩, .sl (none) 0 0, .int .i64 0, .int .i64 0, .int .i64 0, .int .i64 0, .int .i64 0, .int .i64 0, .int .i64 0, .int .i64 0, .int .i64 0, .int .i64 0, .int .i64 0, .int .i64 0, .int .i64 0, .int .i64 0]⟩, ⟨39, [.int .i64 ((11 : Int)), .str p, .str ({ data := #[] }), .str ({ data := #[] }), .int .i64 ((0 : Int)), .int .i64 ((0 : Int)), .int .i64 ((0 : Int)), .int .i64 ((0 : Int)), .int .i64 ((0 : Int)), .int .i64 ((0 : Int)), .int .i64 ((0 : Int)), .bool false, .bool false, .bool false, .bool false, .int .i64 ((0 : Int)), .bool false, .bool false, .sl (none) 0 0, .sl (none) 0 0]⟩] [] (by kernel_rfl) (by kernel_rfl)
        have hN3 := (Over.lenv hN2 (by simpa using h.kr0)).rel hc3.mem
        have hu3 := hu2.rel35 h.kr0 h.krx (hc2.mem.cells 0 _ rfl) hc3.mem
        refine gets_loop (k' := remH) (by kernel_rfl) ?_
        refine hk w3 a3 7 (.inr ⟨rfl, h6⟩) (rem_back w0 (some ad) nt ct ku b kr x m' { err := 7 } none 0 0 ap nl cl l (i + 1) (n + 1) _ rfl w3 a3 _ hN3 hu3 h.kr0 h.krx (row_rel hrow2 hc3.mem (hc2.mem.cells 0 _ rfl)) h.rowx (strsAt_nil _ _) hc3 _ rfl rfl ⟨by rfl, by rfl, by rfl, by rfl, ?_, by rfl, ?_, trivial⟩)
        · show some (Value.int .i64 (IntKind.i64.wrap ((i : Int) + 1))) = _; rw [wrap_succ (by omega)]; rfl
        · show some (Value.int .i64 (IntKind.i64.wrap ((n : Int) + 1))) = _; rw [wrap_succ (by omega)]; rfl
      · have o2 : decide ((nl : Int) < 6) = false := by simp; omega
        refine gets_run tab_ok 160 (hc2.feed [false, true, true, true, false] [.e (.c (.int .i64 v))]) (holds_of (obs := [fun _ => ((11 : Int) == (20 : Int)) = false, fun _ => ((11 : Int) == (11 : Int)) = true, fun _ => decide ((↑i : Int) < (↑nt : Int)) = true, fun _ => (0 : Int) ≤ (↑i : Int) ∧ (↑i : Int) < (↑nt : Int), fun ε => Env.ro ε (Addr.add ad (Int.toNat (↑i : Int) * (1 : Nat))) = some (Value.int IntKind.i64 v), fun _ => (IntKind.wrap IntKind.i64 (↑(BitVec.toNat (BitVec.ofInt (IntKind.bits IntKind.i64) v &&& BitVec.ofInt (IntKind.bits IntKind.i64) (1 : Int))) : Int) == (1 : Int)) = true, fun _ => decide ((↑nl : Int) < (6 : Int)) = false]) (by kernel_rfl) ⟨rfl, rfl, o1, hin2, hS, (by assumption), o2, trivial⟩) (fun a3 w3 hc3 => ?_)
        replace hc3 := hc3.pickx [(0, .e (.c (.sl (some ad) nt ct))), (3, .e (.c (.bool true))), (4, .e (.c (.rp ⟨ku, 0, none⟩))), (5, .e (.c (.sl ap nl cl))), (6, .e (.c (.int .i64 (IntKind.wrap IntKind.i64 ((↑i : Int) + (1 : Int)))))), (7, .e (.c (.p 0 0))), (8, .e (.c (.int .i64 (IntKind.wrap IntKind.i64 ((↑n : Int) + (1 : Int)))))), (9, .e (.c (.p 1 0))), (19, .e (.c (.int .i64 ((↑n : Int))))), (20, .e (.c (.int .i64 (IntKind.wrap IntKind.i64 ((↑n : Int) + (1 : Int)))))), (23, .e (.a (CallD.cs { op := (11 : Int), path := p }))), (24, .e (.a [.int .i64 0, .int .i64 0, .int .i64 0, .str ⟨#[]⟩, .sl (none) 0 0, .int .i64 0, .int .i64 0, .int .i64 0, .int .i64 0, .int .i64 0, .int .i64 0, .int .i64 0, .int .i64 0, .int .i64 0, .int .i64 0, .int .i64 0, .int .i64 0, .int .i64 0, .int .i64 0])), (25, .e (.c (.bool false))), (26, .e (.c (.p 1 0))), (27, .e (.c (.int .i64 ((11 : Int))))), (28, .e (.c (.bool false))), (40, .e (.c (.bool true))), (41, .e (.c (.p 1 0))), (42, .e (.c (.int .i64 ((11 : Int))))), (43, .e (.c (.bool true))), (44, .e (.c (.bool true))), (45, .e (.c (.p 1 17))), (46, .e (.c (.bool false))), (47, .e (.c (.bool true))), (48, .e (.c (.bool true))), (49, .e (.c (.int .i64 ((↑i : Int))))), (50, .e (.c (.sl (some ad) nt ct))), (51, .e (.c (.int .i64 ((↑nt : Int))))), (52, .e (.c (.bool true))), (53, .e (.c (.bool true))), (54, .e (.c (.sl (some ad) nt ct))), (55, .e (.c (.int .i64 ((↑i : Int))))), (56, .e (.c (.rp (Addr.add ad (Int.toNat (↑i : Int) * (1 : Nat)))))), (57, .e (.c (.int .i64 v))), (58, .e (.c (.int .i64 (IntKind.wrap IntKind.i64 (↑(BitVec.toNat (BitVec.ofInt (IntKind.bits IntKind.i64) v &&& BitVec.ofInt (IntKind.bits IntKind.i64) (1 : Int))) : Int))))), (59, .e (.c (.bool true))), (60, .e (.c (.bool true))), (61, .e (.c (.bool true))), (62, .e (.c (.sl ap nl cl))), (63, .e (.c (.int .i64 ((↑nl : Int))))), (64, .e (.c (.bool false))), (65, .e (.c (.bool false))), (67, .e (.c (.int .i64 ((↑i : Int))))), (68, .e (.c (.int .i64 (IntKind.wrap IntKind.i64 ((↑i : Int) + (1 : Int))))))] [⟨35, [.int .i64 0, .int .i64 0, .int .i64 0, .str ⟨#[]⟩, .sl (none) 0 0, .int .i64 0, .int .i64 0, .int .i64 0, .int .i64 0, .int .i64 0, .int .i64 0, .int .i64 0, .int .i64 0, .int .i64 0, .int .i64 0, .int .i64 0, .int .i64 0, .int .i64 0, .int .i64 0]⟩, ⟨39, [.int .i64 ((11 : Int)), .str p, .str ({ data := #[] }), .str ({ data := #[] }), .int .i64 ((0 : Int)), .int .i64 ((0 : Int)), .int .i64 ((0 : Int)), .int .i64 ((0 : Int)), .int .i64 ((0 : Int)), .int .i64 ((0 : Int)), .int .i64 ((0 : Int)), .bool false, .bool false, .bool false, .bool false, .int .i64 ((0 : Int)), .bool false, .bool false, .sl (none) 0 0, .sl (none) 0 0]⟩] [] (by kernel_rfl) (by kernel_rfl)
        have hN3 := (Over.lenv hN2 (by simpa using h.kr0)).rel hc3.mem
        have hu3 := hu2.rel35 h.kr0 h.krx (hc2.mem.cells 0 _ rfl) hc3.mem
        refine gets_loop (k' := remH) (by kernel_rfl) ?_
        refine hk w3 a3 0 (.inl rfl) (rem_back w0 (some ad) nt ct ku b kr x m' { err := 0 } none 0 0 ap nl cl l (i + 1) (n + 1) _ rfl w3 a3 _ hN3 hu3 h.kr0 h.krx (row_rel hrow2 hc3.mem (hc2.mem.cells 0 _ rfl)) h.rowx (strsAt_nil _ _) hc3 _ rfl rfl ⟨by rfl, by rfl, by rfl, by rfl, ?_, by rfl, ?_, trivial⟩)
        · show some (Value.int .i64 (IntKind.i64.wrap ((i : Int) + 1))) = _; rw [wrap_succ (by omega)]; rfl
        · show some (Value.int .i64 (IntKind.i64.wrap ((n : Int) + 1))) = _; rw [wrap_succ (by omega)]; rfl
    | false =>
      refine gets_run tab_ok 160 (hc2.feed [false, true, true, false] [.e (.c (.int .i64 v))]) (holds_of (obs := [fun _ => ((11 : Int) == (20 : Int)) = false, fun _ => ((11 : Int) == (11 : Int)) = true, fun _ => decide ((↑i : Int) < (↑nt : Int)) = true, fun _ => (0 : Int) ≤ (↑i : Int) ∧ (↑i : Int) < (↑nt : Int), fun ε => Env.ro ε (Addr.add ad (Int.toNat (↑i : Int) * (1 : Nat))) = some (Value.int IntKind.i64 v), fun _ => (IntKind.wrap IntKind.i64 (↑(BitVec.toNat (BitVec.ofInt (IntKind.bits IntKind.i64) v &&& BitVec.ofInt (IntKind.bits IntKind.i64) (1 : Int))) : Int) == (1 : Int)) = false]) (by kernel_rfl) ⟨rfl, rfl, o1, hin2, hS, (by assumption), trivial⟩) (fun a3 w3 hc3 => ?_)
      replace hc3 := hc3.pickx [(0, .e (.c (.sl (some ad) nt ct))), (3, .e (.c (.bool true))), (4, .e (.c (.rp ⟨ku, 0, none⟩))), (5, .e (.c (.sl ap nl cl))), (6, .e (.c (.int .i64 (IntKind.wrap IntKind.i64 ((↑i : Int) + (1 : Int)))))), (7, .e (.c (.p 0 0))), (8, .e (.c (.int .i64 (IntKind.wrap IntKind.i64 ((↑n : Int) + (1 : Int)))))), (9, .e (.c (.p 1 0))), (19, .e (.c (.int .i64 ((↑n : Int))))), (20, .e (.c (.int .i64 (IntKind.wrap IntKind.i64 ((↑n : Int) + (1 : Int)))))), (23, .e (.a (CallD.cs { op := (11 : Int), path := p }))), (24, .e (.a [.int .i64 0, .int .i64 0, .int .i64 0, .str ⟨#[]⟩, .sl (none) 0 0, .int .i64 0, .int .i64 0, .int .i64 0, .int .i64 0, .int .i64 0, .int .i64 0, .int .i64 0, .int .i64 0, .int .i64 0, .int .i64 0, .int .i64 0, .int .i64 0, .int .i64 0, .int .i64 0])), (25, .e (.c (.bool false))), (26, .e (.c (.p 1 0))), (27, .e (.c (.int .i64 ((11 : Int))))), (28, .e (.c (.bool false))), (40, .e (.c (.bool true))), (41, .e (.c (.p 1 0))), (42, .e (.c (.int .i64 ((11 : Int))))), (43, .e (.c (.bool true))), (44, .e (.c (.bool true))), (45, .e (.c (.p 1 17))), (46, .e (.c (.bool false))), (47, .e (.c (.bool true))), (48, .e (.c (.bool true))), (49, .e (.c (.int .i64 ((↑i : Int))))), (50, .e (.c (.sl (some ad) nt ct))), (51, .e (.c (.int .i64 ((↑nt : Int))))), (52, .e (.c (.bool true))), (53, .e (.c (.bool true))), (54, .e (.c (.sl (some ad) nt ct))), (55, .e (.c (.int .i64 ((↑i : Int))))), (56, .e (.c (.rp (Addr.add ad (Int.toNat (↑i : Int) * (1 : Nat)))))), (57, .e (.c (.int .i64 v))), (58, .e (.c (.int .i64 (IntKind.wrap IntKind.i64 (↑(BitVec.toNat (BitVec.ofInt (IntKind.bits IntKind.i64) v &&& BitVec.ofInt (IntKind.bits IntKind.i64) (1 : Int))) : Int))))), (59, .e (.c (.bool false))), (60, .e (.c (.bool false))), (61, .e (.c (.bool false))), (65, .e (.c (.bool false))), (67, .e (.c (.int .i64 ((↑i : Int))))), (68, .e (.c (.int .i64 (IntKind.wrap IntKind.i64 ((↑i : Int) + (1 : Int))))))] [⟨35, [.int .i64 0, .int .i64 0, .int .i64 0, .str ⟨#[]⟩, .sl (none) 0 0, .int .i64 0, .int .i64 0, .int .i64 0, .int .i64 0, .int .i64 0, .int .i64 0, .int .i64 0, .int .i64 0, .int .i64 0, .int .i64 0, .int .i64 0, .int .i64 0, .int .i64 0, .int .i64 0]⟩, ⟨39, [.int .i64 ((11 : Int)), .str p, .str ({ data := #[] }), .str ({ data := #[] }), .int .i64 ((0 : Int)), .int .i64 ((0 : Int)), .int .i64 ((0 : Int)), .int .i64 ((0 : Int)), .int .i64 ((0 : Int)), .int .i64 ((0 : Int)), .int .i64 ((0 : Int)), .bool false, .bool false, .bool false, .bool false, .int .i64 ((0 : Int)), .bool false, .bool false, .sl (none) 0 0, .sl (none) 0 0]⟩] [] (by kernel_rfl) (by kernel_rfl)
      have hN3 := (Over.lenv hN2 (by simpa using h.kr0)).rel hc3.mem
      have hu3 := hu2.rel35 h.kr0 h.krx (hc2.mem.cells 0 _ rfl) hc3.mem
      refine gets_loop (k' := remH) (by kernel_rfl) ?_
      refine hk w3 a3 0 (.inl rfl) (rem_back w0 (some ad) nt ct ku b kr x m' { err := 0 } none 0 0 ap nl cl l (i + 1) (n + 1) _ rfl w3 a3 _ hN3 hu3 h.kr0 h.krx (row_rel hrow2 hc3.mem (hc2.mem.cells 0 _ rfl)) h.rowx (strsAt_nil _ _) hc3 _ rfl rfl ⟨by rfl, by rfl, by rfl, by rfl, ?_, by rfl, ?_, trivial⟩)
      · show some (Value.int .i64 (IntKind.i64.wrap ((i : Int) + 1))) = _; rw [wrap_succ (by omega)]; rfl
      · show some (Value.int .i64 (IntKind.i64.wrap ((n : Int) + 1))) = _; rw [wrap_succ (by omega)]; rfl
  · have o1 : decide ((i : Int) < (nt : Int)) = false := by simp; omega
    refine gets_run tab_ok 160 (hc2.feed [false, true, false] []) (holds_of (obs := [fun _ => ((11 : Int) == (20 : Int)) = false, fun _ => ((11 : Int) == (11 : Int)) = true, fun _ => decide ((↑i : Int) < (↑nt : Int)) = false]) (by kernel_rfl) ⟨rfl, rfl, o1, trivial⟩) (fun a3 w3 hc3 => ?_)
    replace hc3 := hc3.pickx [(0, .e (.c (.sl tr nt ct))), (3, .e (.c (.bool true))), (4, .e (.c (.rp ⟨ku, 0, none⟩))), (5, .e (.c (.sl ap nl cl))), (6, .e (.c (.int .i64 (IntKind.wrap IntKind.i64 ((↑i : Int) + (1 : Int)))))), (7, .e (.c (.p 0 0))), (8, .e (.c (.int .i64 (IntKind.wrap IntKind.i64 ((↑n : Int) + (1 : Int)))))), (9, .e (.c (.p 1 0))), (19, .e (.c (.int .i64 ((↑n : Int))))), (20, .e (.c (.int .i64 (IntKind.wrap IntKind.i64 ((↑n : Int) + (1 : Int)))))), (23, .e (.a (CallD.cs { op := (11 : Int), path := p }))), (24, .e (.a [.int .i64 0, .int .i64 0, .int .i64 0, .str ⟨#[]⟩, .sl (none) 0 0, .int .i64 0, .int .i64 0, .int .i64 0, .int .i64 0, .int .i64 0, .int .i64 0, .int .i64 0, .int .i64 0, .int .i64 0, .int .i64 0, .int .i64 0, .int .i64 0, .int .i64 0, .int .i64 0])), (25, .e (.c (.bool false))), (26, .e (.c (.p 1 0))), (27, .e (.c (.int .i64 ((11 : Int))))), (28, .e (.c (.bool false))), (40, .e (.c (.bool true))), (41, .e (.c (.p 1 0))), (42, .e (.c (.int .i64 ((11 : Int))))), (43, .e (.c (.bool true))), (44, .e (.c (.bool true))), (45, .e (.c (.p 1 17))), (46, .e (.c (.bool false))), (47, .e (.c (.bool true))), (48, .e (.c (.bool true))), (49, .e (.c (.int .i64 ((↑i : Int))))), (50, .e (.c (.sl tr nt ct))), (51, .e (.c (.int .i64 ((↑nt : Int))))), (52, .e (.c (.bool false))), (53, .e (.c (.bool false))), (60, .e (.c (.bool false))), (61, .e (.c (.bool false))), (65, .e (.c (.bool false))), (67, .e (.c (.int .i64 ((↑i : Int))))), (68, .e (.c (.int .i64 (IntKind.wrap IntKind.i64 ((↑i : Int) + (1 : Int))))))] [⟨35, [.int .i64 0, .int .i64 0, .int .i64 0, .str ⟨#[]⟩, .sl (none) 0 0, .int .i64 0, .int .i64 0, .int .i64 0, .int .i64 0, .int .i64 0, .int .i64 0, .int .i64 0, .int .i64 0, .int .i64 0, .int .i64 0, .int .i64 0, .int .i64 0, .int .i64 0, .int .i64 0]⟩, ⟨39, [.int .i64 ((11 : Int)), .str p, .str ({ data := #[] }), .str ({ data := #[] }), .int .i64 ((0 : Int)), .int .i64 ((0 : Int)), .int .i64 ((0 : Int)), .int .i64 ((0 : Int)), .int .i64 ((0 : Int)), .int .i64 ((0 : Int)), .int .i64 ((0 : Int)), .bool false, .bool false, .bool false, .bool false, .int .i64 ((0 : Int)), .bool false, .bool false, .sl (none) 0 0, .sl (none) 0 0]⟩] [] (by kernel_rfl) (by kernel_rfl)
    have hN3 := (Over.lenv hN2 (by simpa using h.kr0)).rel hc3.mem
    have hu3 := hu2.rel35 h.kr0 h.krx (hc2.mem.cells 0 _ rfl) hc3.mem
    refine gets_loop (k' := remH) (by kernel_rfl) ?_
    refine hk w3 a3 0 (.inl rfl) (rem_back w0 tr nt ct ku b kr x m' { err := 0 } none 0 0 ap nl cl l (i + 1) (n + 1) _ rfl w3 a3 _ hN3 hu3 h.kr0 h.krx (row_rel hrow2 hc3.mem (hc2.mem.cells 0 _ rfl)) h.rowx (strsAt_nil _ _) hc3 _ rfl rfl ⟨by rfl, by rfl, by rfl, by rfl, ?_, by rfl, ?_, trivial⟩)
    · show some (Value.int .i64 (IntKind.i64.wrap ((i : Int) + 1))) = _; rw [wrap_succ (by omega)]; rfl
    · show some (Value.int .i64 (IntKind.i64.wrap ((n : Int) + 1))) = _; rw [wrap_succ (by omega)]; rfl

end Go.Proofs.YtoihipolfdhhnaaGreatDoor

namespace Go.Proofs.YtoihipolfdhhnaaGreatDoor

theorem and7 (v : Int) : ∃ k : Nat, k ≤ 7 ∧ IntKind.wrap IntKind.i64 (((BitVec.ofInt (IntKind.bits IntKind.i64) v &&& BitVec.ofInt (IntKind.bits IntKind.i64) (7 : Int)).toNat : Nat) : Int) = (k : Int) := by
  have h7 : (BitVec.ofInt (IntKind.bits IntKind.i64) (7 : Int)).toNat = 7 := by decide
  have h : (BitVec.ofInt (IntKind.bits IntKind.i64) v &&& BitVec.ofInt (IntKind.bits IntKind.i64) (7 : Int)).toNat ≤ 7 := by
    rw [BitVec.toNat_and, h7]; exact Nat.and_le_right
  exact ⟨_, h, wrap_small (by omega) (by omega)⟩

/-- The names that a directory may hold. -/
def letters : List ByteArray := [⟨#[97]⟩, ⟨#[98]⟩, ⟨#[99]⟩, ⟨#[100]⟩, ⟨#[101]⟩, ⟨#[102]⟩, ⟨#[103]⟩, ⟨#[104]⟩]

theorem letters_at {B : Bd} {w : World} {kn k : Nat} (hk : k ≤ 7) (h : w.heap[kn]? = some (.cells (letters.map Value.string).toArray 9 (0, 0))) (hx : kn ∉ B.x) : StrsAt B w (some ⟨kn, 0, none⟩) k 8 (letters.take k) := by
  refine ⟨by simp [letters]; omega, by omega, fun j s hj => ⟨_, rfl, ?_, .inr ⟨_, _, _, h, by show (9 : Nat) ≠ 66; decide, by show (9 : Nat) ≠ 84; decide, by show (9 : Nat) ≠ 39; decide, hx⟩⟩⟩
  have hj' : letters[j]? = some s := by
    rw [List.getElem?_take] at hj
    split at hj
    · exact hj
    · cases hj
  rw [addr_add]
  simp [World.cell?, h, hj']

/-- A directory is listed. -/
theorem rem_list (w0 : World) (tr : Option Addr) (nt ct : Nat) (tree : List Int) (hf : OldInts w0.heap.size w0 tr nt ct tree) (ku b kr : Nat) (x : List Nat) (m m' : M) (p : ByteArray) (hp : m'.call = { op := 9, path := p }) (r : Res) (an : Option Addr) (nn cn : Nat) (ap : Option Addr) (nl cl : Nat) (l : List ByteArray) (i n : Nat) (hi : i ≤ 1000) (w : World) (a : Act)
    (h : L6 w0 tr nt ct ku b kr x m r an nn cn ap nl cl l i n w a) (hn : n < 600) (hl : nl ≤ 1000) (hm : next 10 m r = m') (hok : okNext 10 m r)
    (hk : ∀ w' a' (k : Nat) x' an' nn' cn' ap' cl', k ≤ 7 → L6 w0 tr nt ct ku b kr x' m' { names := letters.take k } an' nn' cn' ap' (nl + 1) cl' (l ++ [p]) i (n + 1) w' a' → Gets Tryz.prog 6 remH a' w' (CatR w0)) :
    Gets Tryz.prog 6 remH a w (CatR w0) := by
  refine rem_to w0 tr nt ct ku b kr x m _ r an nn cn ap nl cl l i n w a h hn hm hok (fun w2 a2 hN2 hu2 hrow2 hc2 => ?_)
  rw [hp] at hc2
  have hnt := hf.len
  refine gets_run tab_ok 160 (hc2.feed [false, false, true] []) (holds_of (obs := [fun _ => ((9 : Int) == (20 : Int)) = false, fun _ => ((9 : Int) == (11 : Int)) = false, fun _ => ((9 : Int) == (9 : Int)) = true]) (by kernel_rfl) ⟨rfl, rfl, rfl, trivial⟩) (fun a3 w3 hc3 => ?_)
  replace hc3 := hc3.pickx [(0, .e (.c (.sl tr nt ct))), (3, .e (.c (.bool true))), (4, .e (.c (.rp ⟨ku, 0, none⟩))), (5, .e (.c (.sl ap nl cl))), (6, .e (.c (.int .i64 ((↑i : Int))))), (7, .e (.c (.p 0 0))), (8, .e (.c (.int .i64 ((↑n : Int))))), (9, .e (.c (.p 1 0))), (23, .e (.a (CallD.cs { op := (9 : Int), path := p }))), (24, .e (.a [.int .i64 0, .int .i64 0, .int .i64 0, .str ⟨#[]⟩, .sl (none) 0 0, .int .i64 0, .int .i64 0, .int .i64 0, .int .i64 0, .int .i64 0, .int .i64 0, .int .i64 0, .int .i64 0, .int .i64 0, .int .i64 0, .int .i64 0, .int .i64 0, .int .i64 0, .int .i64 0])), (25, .e (.c (.bool false))), (26, .e (.c (.p 1 0))), (27, .e (.c (.int .i64 ((9 : Int))))), (28, .e (.c (.bool false))), (40, .e (.c (.bool false))), (41, .e (.c (.p 1 0))), (42, .e (.c (.int .i64 ((9 : Int))))), (43, .e (.c (.bool false))), (44, .e (.c (.bool false))), (48, .e (.c (.bool false))), (69, .e (.c (.bool true))), (70, .e (.c (.p 1 0))), (71, .e (.c (.int .i64 ((9 : Int))))), (72, .e (.c (.bool true))), (73, .e (.c (.sl ap nl cl))), (74, .e (.c (.p 1 1))), (75, .e (.c (.str p))), (76, .e (.c (.nsl 2 0 1 1)))] [⟨35, [.int .i64 0, .int .i64 0, .int .i64 0, .str ⟨#[]⟩, .sl (none) 0 0, .int .i64 0, .int .i64 0, .int .i64 0, .int .i64 0, .int .i64 0, .int .i64 0, .int .i64 0, .int .i64 0, .int .i64 0, .int .i64 0, .int .i64 0, .int .i64 0, .int .i64 0, .int .i64 0]⟩, ⟨39, [.int .i64 ((9 : Int)), .str p, .str ({ data := #[] }), .str ({ data := #[] }), .int .i64 ((0 : Int)), .int .i64 ((0 : Int)), .int .i64 ((0 : Int)), .int .i64 ((0 : Int)), .int .i64 ((0 : Int)), .int .i64 ((0 : Int)), .int .i64 ((0 : Int)), .bool false, .bool false, .bool false, .bool false, .int .i64 ((0 : Int)), .bool false, .bool false, .sl (none) 0 0, .sl (none) 0 0]⟩, ⟨9, [.str p]⟩] [] (by kernel_rfl) (by kernel_rfl)
  have hN3 := (Over.lenv hN2 (by simpa using h.kr0)).rel hc3.mem
  have hu3 := hu2.rel35 h.kr0 h.krx (hc2.mem.cells 0 _ rfl) hc3.mem
  have hrow3 := row_rel hrow2 hc3.mem (hc2.mem.cells 0 _ rfl)
  refine gets_append9m 77 73 76 2 0 ⟨35, ({} : Res).cs none 0 0⟩ ap nl cl l p [(0, .e (.c (.sl tr nt ct))), (3, .e (.c (.bool true))), (4, .e (.c (.rp ⟨ku, 0, none⟩))), (6, .e (.c (.int .i64 (i : Int)))), (7, .e (.c (.p 0 0))), (8, .e (.c (.int .i64 (n : Int))))] hN3 hu3 hc3 (by kernel_rfl) (by kernel_rfl) (by kernel_rfl) (by kernel_rfl) (by kernel_rfl) (by kernel_rfl) (by show (35 : Nat) ≠ 9; decide) h.kr0 hrow3 h.rowx (by omega) (by kernel_rfl) (fun w' => ⟨by rfl, by rfl, by rfl, by rfl, by rfl, by rfl, trivial⟩) (fun a4 w4 ap4 cp4 x4 hN4 hu4 hx4 hap4 hrow4 hs4 hc4 => ?_)
  replace hc4 : CRel (lenv w0.heap.size w4 [kr]) Tryz.f6.ntmps { tl := [(77, .e (.c (.sl ap4 (nl + 1) cp4))), (0, .e (.c (.sl tr nt ct))), (3, .e (.c (.bool true))), (4, .e (.c (.rp ⟨ku, 0, none⟩))), (6, .e (.c (.int .i64 (i : Int)))), (7, .e (.c (.p 0 0))), (8, .e (.c (.int .i64 (n : Int))))], bs := [⟨35, ({} : Res).cs none 0 0⟩] } a4 w4 := hc4
  have hkrlt : kr < w4.heap.size := hu4.u.2.2.xs kr (hx4 _ h.krx)
  by_cases hlt : i < nt
  · obtain ⟨v, hv⟩ : ∃ v, tree[i]? = some v := ⟨_, List.getElem?_eq_getElem (by omega)⟩
    obtain ⟨ad, rfl, g2, g3⟩ := (hf.fresh hN4).at_ i v hv
    have o1 : decide ((i : Int) < (nt : Int)) = true := by simp; omega
    have hin2 : 0 ≤ (i : Int) ∧ (i : Int) < (nt : Int) := ⟨by omega, by omega⟩
    have hS : oro w0.heap.size w4 (ad.add ((i : Int).toNat * 1)) = some (.int .i64 v) := oro_of (by rw [addr_add_block]; exact g3) (by simpa using g2)
    refine gets_run tab_ok 160 (hc4.feed [true] [.e (.c (.int .i64 v))]) (holds_of (obs := [fun _ => decide ((↑i : Int) < (↑nt : Int)) = true, fun _ => (0 : Int) ≤ (↑i : Int) ∧ (↑i : Int) < (↑nt : Int), fun ε => Env.ro ε (Addr.add ad (Int.toNat (↑i : Int) * (1 : Nat))) = some (Value.int IntKind.i64 v), fun _ => (0 : Int) ≤ (1 : Int)]) (by kernel_rfl) ⟨o1, hin2, hS, (by simp), trivial⟩) (fun a5 w5 hc5 => ?_)
    replace hc5 := hc5.pickx [(0, .e (.c (.sl (some ad) nt ct))), (3, .e (.c (.bool true))), (4, .e (.c (.rp ⟨ku, 0, none⟩))), (5, .e (.c (.sl ap4 (nl + (1 : Nat)) cp4))), (6, .e (.c (.int .i64 ((↑i : Int))))), (7, .e (.c (.p 0 0))), (8, .e (.c (.int .i64 ((↑n : Int))))), (10, .e (.c (.int .i64 (IntKind.wrap IntKind.i64 (↑(BitVec.toNat (BitVec.ofInt (IntKind.bits IntKind.i64) (Int.fdiv v ((2 : Int) ^ min (Int.toNat (1 : Int)) (IntKind.bits IntKind.i64))) &&& BitVec.ofInt (IntKind.bits IntKind.i64) (7 : Int))) : Int))))), (77, .e (.c (.sl ap4 (nl + (1 : Nat)) cp4))), (78, .e (.c (.int .i64 ((↑i : Int))))), (79, .e (.c (.sl (some ad) nt ct))), (80, .e (.c (.int .i64 ((↑nt : Int))))), (81, .e (.c (.bool true))), (82, .e (.c (.sl (some ad) nt ct))), (83, .e (.c (.int .i64 ((↑i : Int))))), (84, .e (.c (.rp (Addr.add ad (Int.toNat (↑i : Int) * (1 : Nat)))))), (85, .e (.c (.int .i64 v))), (86, .e (.c (.int .i64 (Int.fdiv v ((2 : Int) ^ min (Int.toNat (1 : Int)) (IntKind.bits IntKind.i64)))))), (87, .e (.c (.int .i64 (IntKind.wrap IntKind.i64 (↑(BitVec.toNat (BitVec.ofInt (IntKind.bits IntKind.i64) (Int.fdiv v ((2 : Int) ^ min (Int.toNat (1 : Int)) (IntKind.bits IntKind.i64))) &&& BitVec.ofInt (IntKind.bits IntKind.i64) (7 : Int))) : Int))))), (88, .e (.c (.nsl 1 0 8 8))), (89, .e (.c (.int .i64 (IntKind.wrap IntKind.i64 (↑(BitVec.toNat (BitVec.ofInt (IntKind.bits IntKind.i64) (Int.fdiv v ((2 : Int) ^ min (Int.toNat (1 : Int)) (IntKind.bits IntKind.i64))) &&& BitVec.ofInt (IntKind.bits IntKind.i64) (7 : Int))) : Int)))))] [⟨35, [.int .i64 0, .int .i64 0, .int .i64 0, .str ⟨#[]⟩, .sl (none) 0 0, .int .i64 0, .int .i64 0, .int .i64 0, .int .i64 0, .int .i64 0, .int .i64 0, .int .i64 0, .int .i64 0, .int .i64 0, .int .i64 0, .int .i64 0, .int .i64 0, .int .i64 0, .int .i64 0]⟩, ⟨9, [.str ⟨#[97]⟩, .str ⟨#[98]⟩, .str ⟨#[99]⟩, .str ⟨#[100]⟩, .str ⟨#[101]⟩, .str ⟨#[102]⟩, .str ⟨#[103]⟩, .str ⟨#[104]⟩]⟩] [] (by kernel_rfl) (by kernel_rfl)
    have hN5 := (Over.lenv hN4 (by simpa using h.kr0)).rel hc5.mem
    have hu5 := hu4.rel35 h.kr0 (hx4 _ h.krx) (hc4.mem.cells 0 _ rfl) hc5.mem
    have hrow5 := row_rel hrow4 hc5.mem (hc4.mem.cells 0 _ rfl)
    obtain ⟨hkn1, hkn2⟩ := Rel.newer hc4.mem hc5.mem (i := 1) (Nat.le_refl 1) (by show 1 < 2; decide)
    have hlet := hc5.mem.cells 1 _ rfl
    obtain ⟨k, hk7, hke⟩ := and7 (Int.fdiv v ((2 : Int) ^ min (Int.toNat (1 : Int)) (IntKind.bits IntKind.i64)))
    have hc6 := hc5.anchor1 w0.heap.size 0 ⟨35, ({} : Res).cs none 0 0⟩ rfl rfl h.kr0 [(0, .e (.c (.sl (some ad) nt ct))), (3, .e (.c (.bool true))), (4, .e (.c (.rp ⟨ku, 0, none⟩))), (5, .e (.c (.sl ap4 (nl + 1) cp4))), (6, .e (.c (.int .i64 (i : Int)))), (7, .e (.c (.p 0 0))), (8, .e (.c (.int .i64 (n : Int)))), (88, .e (.c (.sl (some ⟨(lenv w0.heap.size w4 [kr]).ρ 1, 0, none⟩) 8 8))), (89, .e (.c (.int .i64 (k : Int))))] [] [] ⟨by rfl, by rfl, by rfl, by rfl, by rfl, by rfl, by rfl, by rfl, by show some (Value.int .i64 (IntKind.wrap IntKind.i64 _)) = _; rw [hke]; rfl, trivial⟩
    replace hc6 : CRel (lenv w0.heap.size w5 [kr]) Tryz.f6.ntmps _ a5 w5 := hc6
    generalize (lenv w0.heap.size w4 [kr]).ρ 1 = kn at hc6 hkn1 hkn2 hlet
    have hcap : (0 : Int) ≤ (k : Int) ∧ (k : Int) ≤ ((8 : Nat) : Int) := ⟨by omega, by omega⟩
    refine gets_run tab_ok 60 hc6 (holds_of (obs := [fun _ => ((0 : Int) ≤ (↑k : Int) ∧ (↑k : Int) ≤ (↑(8 : Nat) : Int)) ∧ True]) (by kernel_rfl) ⟨(by simp; omega), trivial⟩) (fun a7 w7 hc7 => ?_)
    replace hc7 := hc7.pickx [(0, .e (.c (.sl (some ad) nt ct))), (3, .e (.c (.bool true))), (4, .e (.c (.rp ⟨ku, 0, none⟩))), (5, .e (.c (.sl ap4 (nl + (1 : Nat)) cp4))), (6, .e (.c (.int .i64 ((↑i : Int))))), (7, .e (.c (.p 0 0))), (8, .e (.c (.int .i64 (IntKind.wrap IntKind.i64 ((↑n : Int) + (1 : Int)))))), (19, .e (.c (.int .i64 ((↑n : Int))))), (20, .e (.c (.int .i64 (IntKind.wrap IntKind.i64 ((↑n : Int) + (1 : Int)))))), (88, .e (.c (.sl (some { block := kn, off := (0 : Nat) }) 8 8))), (89, .e (.c (.int .i64 ((↑k : Int))))), (90, .e (.c (.sl (if (8 : Nat) = loOf none then some { block := kn, off := (0 : Nat) } else Option.map (fun (x : Addr) => Addr.add x (loOf none * (1 : Nat))) (some { block := kn, off := (0 : Nat) })) (hiOf (some (↑k : Int)) (8 : Nat) - loOf none) 8))), (91, .e (.c (.p 0 4)))] [⟨35, [.int .i64 0, .int .i64 0, .int .i64 0, .str ⟨#[]⟩, .sl (if (8 : Nat) = loOf none then some { block := kn, off := (0 : Nat) } else Option.map (fun (x : Addr) => Addr.add x (loOf none * (1 : Nat))) (some { block := kn, off := (0 : Nat) })) (hiOf (some (↑k : Int)) (8 : Nat) - loOf none) 8, .int .i64 0, .int .i64 0, .int .i64 0, .int .i64 0, .int .i64 0, .int .i64 0, .int .i64 0, .int .i64 0, .int .i64 0, .int .i64 0, .int .i64 0, .int .i64 0, .int .i64 0, .int .i64 0]⟩] [] (by kernel_rfl) (by kernel_rfl)
    have hlet' : w5.heap[kn]? = some (.cells (letters.map Value.string).toArray 9 (0, 0)) := hlet
    have hl7 : w7.heap[kn]? = some (.cells (letters.map Value.string).toArray 9 (0, 0)) := by
      rw [hc7.mem.keep kn hkn2 (fun i hi e => by
        have hi1 : i < 1 := hi
        have : i = 0 := by omega
        subst this
        have e' : kr = kn := e
        omega)]
      exact hlet'
    have hN7 := (Over.lenv hN5 (by simpa using h.kr0)).rel hc7.mem
    have hu7 := hu5.rel35 h.kr0 (hx4 _ h.krx) (hc6.mem.cells 0 _ rfl) hc7.mem
    refine gets_loop (k' := remH) (by kernel_rfl) ?_
    refine hk w7 a7 k x4 (some ⟨kn, 0, none⟩) k 8 ap4 cp4 hk7 (rem_back w0 (some ad) nt ct ku b kr x4 m' { names := letters.take k } (some ⟨kn, 0, none⟩) k 8 ap4 (nl + 1) cp4 (l ++ [p]) i (n + 1) _ rfl w7 a7 _ hN7 hu7 h.kr0 (hx4 _ h.krx) (row_rel hrow5 hc7.mem (hc6.mem.cells 0 _ rfl)) hap4 (letters_at hk7 hl7 (hu4.u.2.2.notx hkn1)) hc7 _ rfl ?_ ⟨by rfl, by rfl, by rfl, by rfl, by rfl, by rfl, ?_, trivial⟩)
    · simp [Res.cs, Addr.add, loOf, hiOf]
    · show some (Value.int .i64 (IntKind.i64.wrap ((n : Int) + 1))) = _; rw [wrap_succ (by omega)]; rfl
  · have o1 : decide ((i : Int) < (nt : Int)) = false := by simp; omega
    refine gets_run tab_ok 160 (hc4.feed [false] []) (holds_of (obs := [fun _ => decide ((↑i : Int) < (↑nt : Int)) = false]) (by kernel_rfl) ⟨o1, trivial⟩) (fun a5 w5 hc5 => ?_)
    replace hc5 := hc5.pickx [(0, .e (.c (.sl tr nt ct))), (3, .e (.c (.bool true))), (4, .e (.c (.rp ⟨ku, 0, none⟩))), (5, .e (.c (.sl ap4 (nl + (1 : Nat)) cp4))), (6, .e (.c (.int .i64 ((↑i : Int))))), (7, .e (.c (.p 0 0))), (8, .e (.c (.int .i64 ((↑n : Int))))), (10, .e (.c (.int .i64 0))), (77, .e (.c (.sl ap4 (nl + (1 : Nat)) cp4))), (78, .e (.c (.int .i64 ((↑i : Int))))), (79, .e (.c (.sl tr nt ct))), (80, .e (.c (.int .i64 ((↑nt : Int))))), (81, .e (.c (.bool false))), (88, .e (.c (.nsl 1 0 8 8))), (89, .e (.c (.int .i64 0)))] [⟨35, [.int .i64 0, .int .i64 0, .int .i64 0, .str ⟨#[]⟩, .sl (none) 0 0, .int .i64 0, .int .i64 0, .int .i64 0, .int .i64 0, .int .i64 0, .int .i64 0, .int .i64 0, .int .i64 0, .int .i64 0, .int .i64 0, .int .i64 0, .int .i64 0, .int .i64 0, .int .i64 0]⟩, ⟨9, [.str ⟨#[97]⟩, .str ⟨#[98]⟩, .str ⟨#[99]⟩, .str ⟨#[100]⟩, .str ⟨#[101]⟩, .str ⟨#[102]⟩, .str ⟨#[103]⟩, .str ⟨#[104]⟩]⟩] [] (by kernel_rfl) (by kernel_rfl)
    have hN5 := (Over.lenv hN4 (by simpa using h.kr0)).rel hc5.mem
    have hu5 := hu4.rel35 h.kr0 (hx4 _ h.krx) (hc4.mem.cells 0 _ rfl) hc5.mem
    have hrow5 := row_rel hrow4 hc5.mem (hc4.mem.cells 0 _ rfl)
    obtain ⟨hkn1, hkn2⟩ := Rel.newer hc4.mem hc5.mem (i := 1) (Nat.le_refl 1) (by show 1 < 2; decide)
    have hlet := hc5.mem.cells 1 _ rfl
    obtain ⟨k, hk7, hke⟩ : ∃ k : Nat, k ≤ 7 ∧ (0 : Int) = (k : Int) := ⟨0, by omega, rfl⟩
    have hc6 := hc5.anchor1 w0.heap.size 0 ⟨35, ({} : Res).cs none 0 0⟩ rfl rfl h.kr0 [(0, .e (.c (.sl tr nt ct))), (3, .e (.c (.bool true))), (4, .e (.c (.rp ⟨ku, 0, none⟩))), (5, .e (.c (.sl ap4 (nl + 1) cp4))), (6, .e (.c (.int .i64 (i : Int)))), (7, .e (.c (.p 0 0))), (8, .e (.c (.int .i64 (n : Int)))), (88, .e (.c (.sl (some ⟨(lenv w0.heap.size w4 [kr]).ρ 1, 0, none⟩) 8 8))), (89, .e (.c (.int .i64 (k : Int))))] [] [] ⟨by rfl, by rfl, by rfl, by rfl, by rfl, by rfl, by rfl, by rfl, by show some (Value.int .i64 0) = _; rw [hke]; rfl, trivial⟩
    replace hc6 : CRel (lenv w0.heap.size w5 [kr]) Tryz.f6.ntmps _ a5 w5 := hc6
    generalize (lenv w0.heap.size w4 [kr]).ρ 1 = kn at hc6 hkn1 hkn2 hlet
    have hcap : (0 : Int) ≤ (k : Int) ∧ (k : Int) ≤ ((8 : Nat) : Int) := ⟨by omega, by omega⟩
    refine gets_run tab_ok 60 hc6 (holds_of (obs := [fun _ => ((0 : Int) ≤ (↑k : Int) ∧ (↑k : Int) ≤ (↑(8 : Nat) : Int)) ∧ True]) (by kernel_rfl) ⟨(by simp; omega), trivial⟩) (fun a7 w7 hc7 => ?_)
    replace hc7 := hc7.pickx [(0, .e (.c (.sl tr nt ct))), (3, .e (.c (.bool true))), (4, .e (.c (.rp ⟨ku, 0, none⟩))), (5, .e (.c (.sl ap4 (nl + (1 : Nat)) cp4))), (6, .e (.c (.int .i64 ((↑i : Int))))), (7, .e (.c (.p 0 0))), (8, .e (.c (.int .i64 (IntKind.wrap IntKind.i64 ((↑n : Int) + (1 : Int)))))), (19, .e (.c (.int .i64 ((↑n : Int))))), (20, .e (.c (.int .i64 (IntKind.wrap IntKind.i64 ((↑n : Int) + (1 : Int)))))), (88, .e (.c (.sl (some { block := kn, off := (0 : Nat) }) 8 8))), (89, .e (.c (.int .i64 ((↑k : Int))))), (90, .e (.c (.sl (if (8 : Nat) = loOf none then some { block := kn, off := (0 : Nat) } else Option.map (fun (x : Addr) => Addr.add x (loOf none * (1 : Nat))) (some { block := kn, off := (0 : Nat) })) (hiOf (some (↑k : Int)) (8 : Nat) - loOf none) 8))), (91, .e (.c (.p 0 4)))] [⟨35, [.int .i64 0, .int .i64 0, .int .i64 0, .str ⟨#[]⟩, .sl (if (8 : Nat) = loOf none then some { block := kn, off := (0 : Nat) } else Option.map (fun (x : Addr) => Addr.add x (loOf none * (1 : Nat))) (some { block := kn, off := (0 : Nat) })) (hiOf (some (↑k : Int)) (8 : Nat) - loOf none) 8, .int .i64 0, .int .i64 0, .int .i64 0, .int .i64 0, .int .i64 0, .int .i64 0, .int .i64 0, .int .i64 0, .int .i64 0, .int .i64 0, .int .i64 0, .int .i64 0, .int .i64 0, .int .i64 0]⟩] [] (by kernel_rfl) (by kernel_rfl)
    have hlet' : w5.heap[kn]? = some (.cells (letters.map Value.string).toArray 9 (0, 0)) := hlet
    have hl7 : w7.heap[kn]? = some (.cells (letters.map Value.string).toArray 9 (0, 0)) := by
      rw [hc7.mem.keep kn hkn2 (fun i hi e => by
        have hi1 : i < 1 := hi
        have : i = 0 := by omega
        subst this
        have e' : kr = kn := e
        omega)]
      exact hlet'
    have hN7 := (Over.lenv hN5 (by simpa using h.kr0)).rel hc7.mem
    have hu7 := hu5.rel35 h.kr0 (hx4 _ h.krx) (hc6.mem.cells 0 _ rfl) hc7.mem
    refine gets_loop (k' := remH) (by kernel_rfl) ?_
    refine hk w7 a7 k x4 (some ⟨kn, 0, none⟩) k 8 ap4 cp4 hk7 (rem_back w0 tr nt ct ku b kr x4 m' { names := letters.take k } (some ⟨kn, 0, none⟩) k 8 ap4 (nl + 1) cp4 (l ++ [p]) i (n + 1) _ rfl w7 a7 _ hN7 hu7 h.kr0 (hx4 _ h.krx) (row_rel hrow5 hc7.mem (hc6.mem.cells 0 _ rfl)) hap4 (letters_at hk7 hl7 (hu4.u.2.2.notx hkn1)) hc7 _ rfl ?_ ⟨by rfl, by rfl, by rfl, by rfl, by rfl, by rfl, ?_, trivial⟩)
    · simp [Res.cs, Addr.add, loOf, hiOf]
    · show some (Value.int .i64 (IntKind.i64.wrap ((n : Int) + 1))) = _; rw [wrap_succ (by omega)]; rfl

end Go.Proofs.YtoihipolfdhhnaaGreatDoor

namespace Go.Proofs.YtoihipolfdhhnaaGreatDoor

/-- A directory goes: it is the last that was listed. -/
theorem rem_dir (w0 : World) (tr : Option Addr) (nt ct : Nat) (ku b kr : Nat) (x : List Nat) (m m' : M) (p : ByteArray) (hp : m'.call = { op := 11, path := p, dir := true }) (r : Res) (an : Option Addr) (nn cn : Nat) (ap : Option Addr) (nl cl : Nat) (l : List ByteArray) (i n : Nat) (w : World) (a : Act)
    (h : L6 w0 tr nt ct ku b kr x m r an nn cn ap (nl + 1) cl (l ++ [p]) i n w a) (hn : n < 600) (hl : nl ≤ 1000) (hm : next 10 m r = m') (hok : okNext 10 m r)
    (hk : ∀ w' a', L6 w0 tr nt ct ku b kr x m' {} none 0 0 ap nl cl l i (n + 1) w' a' → Gets Tryz.prog 6 remH a' w' (CatR w0)) :
    Gets Tryz.prog 6 remH a w (CatR w0) := by
  refine rem_to w0 tr nt ct ku b kr x m _ r an nn cn ap (nl + 1) cl (l ++ [p]) i n w a h hn hm hok (fun w2 a2 hN2 hu2 hrow2 hc2 => ?_)
  rw [hp] at hc2
  obtain ⟨hlen, hcap, hat⟩ := hrow2.at_
  have hnl : nl = l.length := by simp only [List.length_append, List.length_singleton] at hlen; omega
  obtain ⟨g, cur, rfl, hgB, hgc⟩ : ∃ g cur, ap = some ⟨g, 0, none⟩ ∧ w0.heap.size ≤ g ∧ w2.heap[g]? = some (.cells cur 9 (0, 0)) := by
    rcases hat with ⟨_, _, h3⟩ | h3
    · simp at h3
    · exact h3
  have hkrc := hc2.mem.cells 0 _ rfl
  have hne : kr ≠ g := by
    rintro rfl
    have hkrc' : w2.heap[kr]? = _ := hkrc
    rw [hgc] at hkrc'
    simp only [Option.some.injEq, Obj.cells.injEq] at hkrc'
    exact absurd hkrc'.2.1 (by show ¬ (9 : Nat) = 35; decide)
  have hcG := hc2.anchorG w0.heap.size 0 [g] ⟨35, r.cs an nn cn⟩ rfl rfl h.kr0 (fun e => hne (List.mem_singleton.1 e)) ((23, .e (.a ({ op := 11, path := p, dir := true } : CallD).cs)) :: L6tl tr nt ct ku (some ⟨g, 0, none⟩) (nl + 1) cl i n) [] [] ⟨by rfl, by rfl, by rfl, by rfl, by rfl, by rfl, by rfl, by rfl, trivial⟩
  replace hcG : CRel (genv w0.heap.size [g] w2 [kr]) Tryz.f6.ntmps _ a2 w2 := hcG
  obtain ⟨ad, e1, e2, _⟩ := (hrow2.strs (B' := ⟨0, []⟩) (by simp)).at_ nl p (by rw [hnl]; simp)
  simp only [Option.some.injEq] at e1
  subst e1
  have hS : oroG w0.heap.size [g] w2 ((⟨g, 0, none⟩ : Addr).add nl) = some (.string p) := oroG_of (by rw [addr_add_block]; exact .inr (by simp)) e2
  refine gets_run tab_ok 160 (hcG.feed [false, true, false, true] []) (holds_of (obs := [fun _ => ((11 : Int) == (20 : Int)) = false, fun _ => ((11 : Int) == (11 : Int)) = true, fun _ => ((11 : Int) == (9 : Int)) = false, fun _ => ((11 : Int) == (11 : Int)) = true]) (by kernel_rfl) ⟨rfl, rfl, rfl, rfl, trivial⟩) (fun a3 w3 hc3 => ?_)
  replace hc3 := hc3.pickx [(0, .e (.c (.sl tr nt ct))), (3, .e (.c (.bool true))), (4, .e (.c (.rp ⟨ku, 0, none⟩))), (5, .e (.c (.sl (some { block := g, off := (0 : Nat) }) (nl + (1 : Nat)) cl))), (6, .e (.c (.int .i64 ((↑i : Int))))), (7, .e (.c (.p 0 0))), (8, .e (.c (.int .i64 ((↑n : Int))))), (9, .e (.c (.p 1 0))), (23, .e (.a (CallD.cs { op := (11 : Int), path := p, dir := true }))), (24, .e (.a [.int .i64 0, .int .i64 0, .int .i64 0, .str ⟨#[]⟩, .sl (none) 0 0, .int .i64 0, .int .i64 0, .int .i64 0, .int .i64 0, .int .i64 0, .int .i64 0, .int .i64 0, .int .i64 0, .int .i64 0, .int .i64 0, .int .i64 0, .int .i64 0, .int .i64 0, .int .i64 0])), (25, .e (.c (.bool false))), (26, .e (.c (.p 1 0))), (27, .e (.c (.int .i64 ((11 : Int))))), (28, .e (.c (.bool false))), (40, .e (.c (.bool false))), (41, .e (.c (.p 1 0))), (42, .e (.c (.int .i64 ((11 : Int))))), (43, .e (.c (.bool true))), (44, .e (.c (.bool true))), (45, .e (.c (.p 1 17))), (46, .e (.c (.bool true))), (47, .e (.c (.bool false))), (48, .e (.c (.bool false))), (69, .e (.c (.bool false))), (70, .e (.c (.p 1 0))), (71, .e (.c (.int .i64 ((11 : Int))))), (72, .e (.c (.bool false))), (92, .e (.c (.bool true))), (93, .e (.c (.p 1 0))), (94, .e (.c (.int .i64 ((11 : Int))))), (95, .e (.c (.bool true)))] [⟨35, [.int .i64 0, .int .i64 0, .int .i64 0, .str ⟨#[]⟩, .sl (none) 0 0, .int .i64 0, .int .i64 0, .int .i64 0, .int .i64 0, .int .i64 0, .int .i64 0, .int .i64 0, .int .i64 0, .int .i64 0, .int .i64 0, .int .i64 0, .int .i64 0, .int .i64 0, .int .i64 0]⟩, ⟨39, [.int .i64 ((11 : Int)), .str p, .str ({ data := #[] }), .str ({ data := #[] }), .int .i64 ((0 : Int)), .int .i64 ((0 : Int)), .int .i64 ((0 : Int)), .int .i64 ((0 : Int)), .int .i64 ((0 : Int)), .int .i64 ((0 : Int)), .int .i64 ((0 : Int)), .bool false, .bool false, .bool false, .bool false, .int .i64 ((0 : Int)), .bool false, .bool true, .sl (none) 0 0, .sl (none) 0 0]⟩] [] (by kernel_rfl) (by kernel_rfl)
  replace hc3 := hc3.pick [(0, .e (.c (.sl tr nt ct))), (3, .e (.c (.bool true))), (4, .e (.c (.rp ⟨ku, 0, none⟩))), (5, .e (.c (.sl (some ⟨g, 0, none⟩) (nl + 1) cl))), (6, .e (.c (.int .i64 (i : Int)))), (7, .e (.c (.p 0 0))), (8, .e (.c (.int .i64 (n : Int)))), (9, .e (.c (.p 1 0)))] [⟨35, ({} : Res).cs none 0 0⟩, ⟨39, ({ op := 11, path := p, dir := true } : CallD).cs⟩] (by kernel_rfl) (by kernel_rfl)
  have hw : IntKind.i64.wrap (((nl + 1 : Nat) : Int) - 1) = (nl : Int) := by rw [show ((nl + 1 : Nat) : Int) - 1 = (nl : Int) by omega]; exact wrap_small (by omega) (by omega)
  have hmem : Rel (genv w0.heap.size [g] w2 [kr]) [⟨35, ({} : Res).cs none 0 0⟩, ⟨39, ({ op := 11, path := p, dir := true } : CallD).cs⟩] { w3 with drawn := w3.drawn + 1 } := hc3.mem.drew _
  refine gets_draw (S := Sees (genv w0.heap.size [g] w2 [kr]) [⟨35, ({} : Res).cs none 0 0⟩, ⟨39, ({ op := 11, path := p, dir := true } : CallD).cs⟩]) (by kernel_rfl) ?_
  refine dgets_take (fuel := 0) (l' := #[true, true, true, true, true, true, true, true, true, true, true, true, true, true]) tab_ok (by kernel_rfl) hmem.sees [0, 1, 2, 3, 4, 5, 6, 7, 8, 9, 10, 11, 12, 13] _ { tl := [(0, .e (.c (.sl tr nt ct))), (3, .e (.c (.bool true))), (4, .e (.c (.rp ⟨ku, 0, none⟩))), (5, .e (.c (.sl (some ⟨g, 0, none⟩) (nl + 1) cl))), (6, .e (.c (.int .i64 (i : Int)))), (7, .e (.c (.p 0 0))), (8, .e (.c (.int .i64 (n : Int)))), (9, .e (.c (.p 1 0)))], bs := [⟨35, ({} : Res).cs none 0 0⟩, ⟨39, ({ op := 11, path := p, dir := true } : CallD).cs⟩], orc := [false, false], ext := [.e (.c (.str p))] }
    { tl := (109, .e (.c (.bool false))) :: (108, .e (.c (.bool false))) :: (107, .e (.c (.str p))) :: (106, .e (.c (.p 1 1))) :: (105, .e (.c (.str p))) :: (104, .e (.c (.rp ((⟨g, 0, none⟩ : Addr).add ((IntKind.i64.wrap (((nl + 1 : Nat) : Int) - 1)).toNat * 1))))) :: (103, .e (.c (.int .i64 (IntKind.i64.wrap (((nl + 1 : Nat) : Int) - 1))))) :: (102, .e (.c (.int .i64 ((nl + 1 : Nat) : Int)))) :: (101, .e (.c (.sl (some ⟨g, 0, none⟩) (nl + 1) cl))) :: (100, .e (.c (.sl (some ⟨g, 0, none⟩) (nl + 1) cl))) :: (99, .e (.c (.bool false))) :: (98, .e (.c (.bool false))) :: (97, .e (.c (.int .i64 ((nl + 1 : Nat) : Int)))) :: (96, .e (.c (.sl (some ⟨g, 0, none⟩) (nl + 1) cl))) :: [(0, .e (.c (.sl tr nt ct))), (3, .e (.c (.bool true))), (4, .e (.c (.rp ⟨ku, 0, none⟩))), (5, .e (.c (.sl (some ⟨g, 0, none⟩) (nl + 1) cl))), (6, .e (.c (.int .i64 (i : Int)))), (7, .e (.c (.p 0 0))), (8, .e (.c (.int .i64 (n : Int)))), (9, .e (.c (.p 1 0)))], bs := [⟨35, ({} : Res).cs none 0 0⟩, ⟨39, ({ op := 11, path := p, dir := true } : CallD).cs⟩], ob := [fun _ => (((nl + 1 : Nat) : Int) == 0) = false, fun _ => (0 : Int) ≤ IntKind.i64.wrap (((nl + 1 : Nat) : Int) - 1) ∧ IntKind.i64.wrap (((nl + 1 : Nat) : Int) - 1) < ((nl + 1 : Nat) : Int), fun ε => ε.ro ((⟨g, 0, none⟩ : Addr).add ((IntKind.i64.wrap (((nl + 1 : Nat) : Int) - 1)).toNat * 1)) = some (.string p), fun _ => (!(p.toList == p.toList)) = false] } _ (by kernel_rfl) rfl hc3.tl hc3.size (holds_of rfl ⟨by simp; omega, by rw [hw]; omega, by rw [hw, show ((nl : Int)).toNat * 1 = nl by omega]; exact hS, by simp, trivial⟩) (fun a4 h5 h6 h7 => ?_)
  refine dgets_done 0 (by kernel_rfl) ?_
  have hc4 := (⟨h5, h6, h7.trans hc3.defers, hmem⟩ : CRel (genv w0.heap.size [g] w2 [kr]) Tryz.f6.ntmps _ a4 { w3 with drawn := w3.drawn + 1 }).pick ((109, .e (.c (.bool false))) :: [(0, .e (.c (.sl tr nt ct))), (3, .e (.c (.bool true))), (4, .e (.c (.rp ⟨ku, 0, none⟩))), (5, .e (.c (.sl (some ⟨g, 0, none⟩) (nl + 1) cl))), (6, .e (.c (.int .i64 (i : Int)))), (7, .e (.c (.p 0 0))), (8, .e (.c (.int .i64 (n : Int)))), (9, .e (.c (.p 1 0)))]) [⟨35, ({} : Res).cs none 0 0⟩, ⟨39, ({ op := 11, path := p, dir := true } : CallD).cs⟩] (by kernel_rfl) rfl
  have hcap2 : (0 : Int) ≤ IntKind.i64.wrap (((nl + 1 : Nat) : Int) - 1) ∧ IntKind.i64.wrap (((nl + 1 : Nat) : Int) - 1) ≤ (cl : Int) := by rw [hw]; constructor <;> omega
  refine gets_run tab_ok 160 hc4 (holds_of (obs := [fun _ => ((0 : Int) ≤ IntKind.wrap IntKind.i64 ((↑(nl + (1 : Nat)) : Int) - (1 : Int)) ∧ IntKind.wrap IntKind.i64 ((↑(nl + (1 : Nat)) : Int) - (1 : Int)) ≤ (↑cl : Int)) ∧ True]) (by kernel_rfl) ⟨⟨hcap2, trivial⟩, trivial⟩) (fun a5 w5 hc5 => ?_)
  replace hc5 := hc5.pickx [(0, .e (.c (.sl tr nt ct))), (3, .e (.c (.bool true))), (4, .e (.c (.rp ⟨ku, 0, none⟩))), (5, .e (.c (.sl (if cl = loOf none then some { block := g, off := (0 : Nat) } else Option.map (fun (x : Addr) => Addr.add x (loOf none * (1 : Nat))) (some { block := g, off := (0 : Nat) })) (hiOf (some (IntKind.wrap IntKind.i64 ((↑(nl + (1 : Nat)) : Int) - (1 : Int)))) (nl + (1 : Nat)) - loOf none) (cl - loOf none)))), (6, .e (.c (.int .i64 ((↑i : Int))))), (7, .e (.c (.p 0 0))), (8, .e (.c (.int .i64 (IntKind.wrap IntKind.i64 ((↑n : Int) + (1 : Int)))))), (9, .e (.c (.p 1 0))), (19, .e (.c (.int .i64 ((↑n : Int))))), (20, .e (.c (.int .i64 (IntKind.wrap IntKind.i64 ((↑n : Int) + (1 : Int)))))), (109, .e (.c (.bool false))), (110, .e (.c (.sl (some { block := g, off := (0 : Nat) }) (nl + (1 : Nat)) cl))), (111, .e (.c (.sl (some { block := g, off := (0 : Nat) }) (nl + (1 : Nat)) cl))), (112, .e (.c (.int .i64 ((↑(nl + (1 : Nat)) : Int))))), (113, .e (.c (.int .i64 (IntKind.wrap IntKind.i64 ((↑(nl + (1 : Nat)) : Int) - (1 : Int)))))), (114, .e (.c (.sl (if cl = loOf none then some { block := g, off := (0 : Nat) } else Option.map (fun (x : Addr) => Addr.add x (loOf none * (1 : Nat))) (some { block := g, off := (0 : Nat) })) (hiOf (some (IntKind.wrap IntKind.i64 ((↑(nl + (1 : Nat)) : Int) - (1 : Int)))) (nl + (1 : Nat)) - loOf none) (cl - loOf none))))] [⟨35, [.int .i64 0, .int .i64 0, .int .i64 0, .str ⟨#[]⟩, .sl (none) 0 0, .int .i64 0, .int .i64 0, .int .i64 0, .int .i64 0, .int .i64 0, .int .i64 0, .int .i64 0, .int .i64 0, .int .i64 0, .int .i64 0, .int .i64 0, .int .i64 0, .int .i64 0, .int .i64 0]⟩, ⟨39, [.int .i64 ((11 : Int)), .str p, .str ({ data := #[] }), .str ({ data := #[] }), .int .i64 ((0 : Int)), .int .i64 ((0 : Int)), .int .i64 ((0 : Int)), .int .i64 ((0 : Int)), .int .i64 ((0 : Int)), .int .i64 ((0 : Int)), .int .i64 ((0 : Int)), .bool false, .bool false, .bool false, .bool false, .int .i64 ((0 : Int)), .bool false, .bool true, .sl (none) 0 0, .sl (none) 0 0]⟩] [] (by kernel_rfl) (by kernel_rfl)
  have hN5 := (Over.genv hN2 (by simpa using h.kr0)).rel hc5.mem
  have hu5 := hu2.rel35 h.kr0 h.krx (hc2.mem.cells 0 _ rfl) hc5.mem
  have hrow5 := row_rel hrow2 hc5.mem (hc2.mem.cells 0 _ rfl)
  refine gets_loop (k' := remH) (by kernel_rfl) ?_
  refine hk w5 a5 (rem_back w0 tr nt ct ku b kr x m' {} none 0 0 (some ⟨g, 0, none⟩) nl cl l i (n + 1) _ rfl w5 a5 _ hN5 hu5 h.kr0 h.krx hrow5.dropLast h.rowx (strsAt_nil _ _) hc5 _ rfl rfl ⟨by rfl, by rfl, by rfl, ?_, by rfl, by rfl, ?_, trivial⟩)
  · show some (Value.slice (if cl = loOf none then some ⟨g, 0, none⟩ else Option.map (fun (x : Addr) => Addr.add x (loOf none * 1)) (some ⟨g, 0, none⟩)) (hiOf (some (IntKind.i64.wrap (((nl + 1 : Nat) : Int) - 1))) (nl + 1) - loOf none) (cl - loOf none)) = _
    rw [hw]
    simp [loOf, hiOf, Addr.add, AllT, SV.real, E.real, C.real]
  · show some (Value.int .i64 (IntKind.i64.wrap ((n : Int) + 1))) = _; rw [wrap_succ (by omega)]; rfl

end Go.Proofs.YtoihipolfdhhnaaGreatDoor

namespace Go.Proofs.YtoihipolfdhhnaaGreatDoor

def LvW : List (ByteArray × List ByteArray) → Prop
  | [] => True
  | (p, ns) :: lv => p.size ≤ 2 + 2 * lv.length ∧ ns ≠ [] ∧ (∀ s ∈ ns, s.size ≤ 1) ∧ LvW lv

theorem LvW.size : ∀ (lv : List (ByteArray × List ByteArray)), LvW lv → lv.length ≤ 6 → ∀ x ∈ lv, x.1.size ≤ 100 ∧ x.2 ≠ [] ∧ ∀ s ∈ x.2, s.size ≤ 1
  | [], _, _, _, hx => by cases hx
  | (p, ns) :: lv, ⟨h1, h2, h3, h4⟩, hd, x, hx => by
    simp only [List.length_cons] at hd
    rcases List.mem_cons.1 hx with rfl | hx
    · exact ⟨by show p.size ≤ 100; omega, h2, h3⟩
    · exact LvW.size lv h4 (by omega) x hx

theorem LvW.ok {lv : List (ByteArray × List ByteArray)} (h : LvW lv) (hd : lv.length ≤ 6) : LvOk lv := ⟨hd, LvW.size lv h hd⟩

/-- Where the machine may stand, and what is listed then. -/
inductive T6 : M → List ByteArray → Prop where
  | u (lv : List (ByteArray × List ByteArray)) (p : ByteArray) : LvW lv → lv.length ≤ 6 → p.size ≤ 2 + 2 * lv.length → T6 (rU lv p) (rL lv)
  | l (lv : List (ByteArray × List ByteArray)) (p : ByteArray) : LvW lv → lv.length ≤ 5 → p.size ≤ 2 + 2 * lv.length → T6 (rLs lv p) (rL lv)
  | d (lv : List (ByteArray × List ByteArray)) (p : ByteArray) : LvW lv → lv.length ≤ 6 → p.size ≤ 2 + 2 * lv.length → T6 (rD lv p) (rL lv ++ [p])
  | x : T6 rX []

theorem rL_length (lv : List (ByteArray × List ByteArray)) : (rL lv).length = lv.length := by simp [rL]
theorem rL_cons (p : ByteArray) (ns : List ByteArray) (lv : List (ByteArray × List ByteArray)) : rL ((p, ns) :: lv) = rL lv ++ [p] := by simp [rL]

theorem T6.aft (lv : List (ByteArray × List ByteArray)) (h : LvW lv) (hd : lv.length ≤ 6) : T6 (rAft lv) (rL lv) := by
  cases lv with
  | nil => exact .x
  | cons x lv =>
    obtain ⟨p, ns⟩ := x
    obtain ⟨h1, h2, h3, h4⟩ := h
    simp only [List.length_cons] at hd
    cases hns : ns.tail with
    | nil =>
      have e : rAft ((p, ns) :: lv) = rD lv p := by simp [rAft, hns]
      rw [e, rL_cons]; exact .d lv p h4 (by omega) h1
    | cons n ns' =>
      have hm : ∀ s ∈ n :: ns', s.size ≤ 1 := fun s hs => h3 s (List.mem_of_mem_tail (by rw [hns]; exact hs))
      have e : rAft ((p, ns) :: lv) = rU ((p, n :: ns') :: lv) (join p n) := by simp [rAft, hns]
      rw [e, rL_cons, ← rL_cons p (n :: ns') lv]
      have := join_size p n
      have hn1 := hm n List.mem_cons_self
      exact .u ((p, n :: ns') :: lv) (join p n) ⟨h1, by simp, hm, h4⟩ (by simp only [List.length_cons]; omega) (by simp only [List.length_cons]; omega)

/-- The loop ends after 600 rounds. -/
theorem rem_over (w0 : World) (tr : Option Addr) (nt ct : Nat) (ku b kr : Nat) (x : List Nat) (m : M) (r : Res) (an : Option Addr) (nn cn : Nat) (ap : Option Addr) (nl cl : Nat) (l : List ByteArray) (i : Nat) (w : World) (a : Act) (h : L6 w0 tr nt ct ku b kr x m r an nn cn ap nl cl l i 600 w a) :
    Gets Tryz.prog 6 remH a w (CatR w0) := by
  have hc := h.rel
  have o1 : decide (((600 : Nat) : Int) < 600) = false := by decide
  refine gets_run tab_ok 160 (hc.feed [false] []) (holds_of (obs := [fun _ => decide ((↑(600 : Nat) : Int) < (600 : Int)) = false]) (by kernel_rfl) ⟨rfl, trivial⟩) (fun a3 w3 hc3 => ?_)
  replace hc3 := hc3.pickx [(2, .e (.c (.bool true)))] [⟨35, [.int .i64 (Res.err r), .int .i64 (Res.n r), .int .i64 (Res.m r), .str (Res.text r), .sl an nn cn, .int .i64 (InfoD.ino (Res.info r)), .int .i64 (InfoD.kind (Res.info r)), .int .i64 (InfoD.mode (Res.info r)), .int .i64 (InfoD.owner (Res.info r)), .int .i64 (InfoD.group (Res.info r)), .int .i64 (InfoD.links (Res.info r)), .int .i64 (InfoD.size (Res.info r)), .int .i64 (InfoD.tty (Res.info r)), .int .i64 (Res.may r), .int .i64 (CredD.real_ (Res.cred r)), .int .i64 (CredD.eff (Res.cred r)), .int .i64 (CredD.saved (Res.cred r)), .int .i64 (CredD.group (Res.cred r)), .int .i64 (CredD.effGroup (Res.cred r))]⟩] [] (by kernel_rfl) (by kernel_rfl)
  exact gets_fin tab_ok (l := [.c (.bool true)]) hc3 Tryz.func6 (by kernel_rfl) (by kernel_rfl) ⟨rfl, (Over.lenv h.new (by simpa using h.kr0)).rel hc3.mem, trivial⟩

theorem rem_all (w0 : World) (tr : Option Addr) (nt ct : Nat) (tree : List Int) (hf : OldInts w0.heap.size w0 tr nt ct tree) (ku b kr : Nat) : ∀ (k n : Nat), n + k = 600 → ∀ (x : List Nat) (m m' : M) (r : Res) (an : Option Addr) (nn cn : Nat) (ap : Option Addr) (nl cl : Nat) (l : List ByteArray) (i : Nat) (w : World) (a : Act),
    T6 m' l → next 10 m r = m' → okNext 10 m r → i ≤ n → L6 w0 tr nt ct ku b kr x m r an nn cn ap nl cl l i n w a → Gets Tryz.prog 6 remH a w (CatR w0) := by
  intro k
  induction k with
  | zero =>
    intro n hn x m m' r an nn cn ap nl cl l i w a _ _ _ _ h
    obtain rfl : n = 600 := by omega
    exact rem_over w0 tr nt ct ku b kr x m r an nn cn ap nl cl l i w a h
  | succ k ih =>
    intro n hn x m m' r an nn cn ap nl cl l i w a ht hm hok hi h
    have hnl := h.row.at_.1
    cases ht with
    | u lv p hlv hd hp =>
      rw [rL_length] at hnl
      refine rem_name w0 tr nt ct tree hf ku b kr x m _ p rfl r an nn cn ap nl cl _ i n (by omega) w a h (by omega) hm hok (fun w' a' e he h' => ?_)
      rcases he with rfl | ⟨rfl, h6⟩
      · obtain ⟨g1, g2⟩ := rm_u0 lv (hlv.ok hd) p (by omega)
        exact ih (n + 1) (by omega) x _ _ _ _ _ _ _ _ _ _ (i + 1) w' a' (T6.aft lv hlv hd) g1 g2 (by omega) h'
      · obtain ⟨g1, g2⟩ := rm_u7 lv p (by omega)
        exact ih (n + 1) (by omega) x _ _ _ _ _ _ _ _ _ _ (i + 1) w' a' (.l lv p hlv (by omega) hp) g1 g2 (by omega) h'
    | l lv p hlv hd hp =>
      rw [rL_length] at hnl
      refine rem_list w0 tr nt ct tree hf ku b kr x m _ p rfl r an nn cn ap nl cl _ i n (by omega) w a h (by omega) (by omega) hm hok (fun w' a' kk x' an' nn' cn' ap' cl' hk7 h' => ?_)
      have hle : ∀ s ∈ letters.take kk, s.size ≤ 1 := fun s hs => by
        have hs' := List.mem_of_mem_take hs
        simp only [letters, List.mem_cons, List.not_mem_nil, or_false] at hs'
        rcases hs' with rfl | rfl | rfl | rfl | rfl | rfl | rfl | rfl <;> decide
      cases hnm : letters.take kk with
      | nil =>
        rw [hnm] at h'
        obtain ⟨g1, g2⟩ := rm_l0 lv (by omega) p (by omega)
        exact ih (n + 1) (by omega) x' _ _ _ _ _ _ _ _ _ _ i w' a' (.d lv p hlv (by omega) hp) g1 g2 (by omega) h'
      | cons s ns =>
        rw [hnm] at h' hle
        have hs1 := hle s List.mem_cons_self
        obtain ⟨g1, g2⟩ := rm_l1 lv (by omega) p (by omega) s ns hs1
        have hj := join_size p s
        rw [← rL_cons p (s :: ns) lv] at h'
        exact ih (n + 1) (by omega) x' _ _ _ _ _ _ _ _ _ _ i w' a' (.u ((p, s :: ns) :: lv) (join p s) ⟨hp, by simp, hle, hlv⟩ (by simp only [List.length_cons]; omega) (by simp only [List.length_cons]; omega)) g1 g2 (by omega) h'
    | d lv p hlv hd hp =>
      simp only [List.length_append, List.length_singleton, rL_length] at hnl
      subst hnl
      obtain ⟨g1, g2⟩ := rm_d lv (hlv.ok hd) p (by omega)
      refine rem_dir w0 tr nt ct ku b kr x m _ p rfl r an nn cn ap lv.length cl _ i n w a h (by omega) (by omega) hm hok (fun w' a' h' => ?_)
      exact ih (n + 1) (by omega) x _ _ _ _ _ _ _ _ _ _ i w' a' (T6.aft lv hlv hd) g1 g2 (by omega) h'
    | x =>
      simp only [List.length_nil] at hnl
      subst hnl
      exact rem_exit w0 tr nt ct ku b kr x m r an nn cn ap cl i n w a h (by omega) hm hok

end Go.Proofs.YtoihipolfdhhnaaGreatDoor

namespace Go.Proofs.YtoihipolfdhhnaaGreatDoor

theorem removes_calls (w0 : World) (hB : Base w0) (tr : Option Addr) (nt ct : Nat) (tree : List Int) (hf : OldInts w0.heap.size w0 tr nt ct tree) : Calls Tryz.prog 6 #[.slice tr nt ct] w0 (CatR w0) := by
  have hG : GlobOk ⟨w0.heap.size, []⟩ w0 := GlobOk.start hB
  refine enter (B := ⟨w0.heap.size, []⟩) tab_ok [.e (.c (.sl tr nt ct))] [] [] 20 Tryz.func6 rfl rfl rfl (obs := []) (by kernel_rfl) trivial (fun a1 w1 hc1 => ?_)
  have hn1 := (Over.env w0 (sro ⟨w0.heap.size, []⟩ w0)).rel hc1.mem
  have hc2 := hc1.anchor0 w0.heap.size [(0, .e (.c (.sl tr nt ct)))] [] [] ⟨by rfl, trivial⟩
  refine gets_pure (Q := fun _ => True) (c := ⟨10, [], [], #[]⟩) 11 (.e (.c (.bool true))) [] [] hc2 (by kernel_rfl) (by kernel_rfl) (by kernel_rfl) (by kernel_rfl) (shown_calls w1 (hG.keep (hn1.keep _))) (by kernel_rfl) (by kernel_rfl) (fun a3 w3 hn3 _ hc3 => ?_)
  have hN3 := hn1.trans hn3
  have hc4 := hc3.anchor0 w0.heap.size [(0, .e (.c (.sl tr nt ct))), (11, .e (.c (.bool true)))] [] [] ⟨by rfl, by rfl, trivial⟩
  clear hc1 hc2 hc3
  refine gets_run tab_ok 60 hc4 (holds_of (obs := []) (by kernel_rfl) trivial) (fun a5 w5 hc5 => ?_)
  replace hc5 := hc5.pickx [(0, .e (.c (.sl tr nt ct))), (3, .e (.c (.bool true))), (12, .e (.c (.nsl 0 0 3 3)))] [⟨9, [.str ⟨#[114, 109]⟩, .str ⟨#[45, 114]⟩, .str ⟨#[47, 100]⟩]⟩] [] (by kernel_rfl) (by kernel_rfl)
  have hn5 := (Over.lenv (New.refl w3) (by simp)).rel hc5.mem
  have hN5 := hN3.trans hn5
  refine gets_new (B := ⟨w0.heap.size, []⟩) 13 [] sRm [sRm, sDR, sD] (.c (.nsl 0 0 3 3)) _ 3 3 .rm hc5 (hG.keep (hN5.keep _)) (by kernel_rfl) rfl (strsAt_new hc5.mem 0 [sRm, sDR, sD] rfl List.not_mem_nil) (by simp) prog_rm (by kernel_rfl) (by kernel_rfl) (by kernel_rfl) (by kernel_rfl) (fun a6 w6 ku b hn6 hku hu hown hc6 => ?_)
  have hN6 := hN5.trans hn6
  have hc7 := hc6.anchor0 w0.heap.size [(0, .e (.c (.sl tr nt ct))), (3, .e (.c (.bool true))), (13, .e (.c (.rp ⟨ku, 0, none⟩)))] [] [] ⟨by rfl, by rfl, by rfl, trivial⟩
  clear hc6 hc5 hc4
  have hL6 : LU ⟨w0.heap.size, []⟩ w0 w6 ku b rS := ⟨hu, fun j ho => Nat.le_trans hN5.size (hown j ho)⟩
  refine gets_run tab_ok 60 hc7 (holds_of (obs := []) (by kernel_rfl) trivial) (fun a8 w8 hc8 => ?_)
  replace hc8 := hc8.pickx [(0, .e (.c (.sl tr nt ct))), (3, .e (.c (.bool true))), (4, .e (.c (.rp ⟨ku, 0, none⟩))), (5, .e (.c (.sl (none) 0 0))), (6, .e (.c (.int .i64 0))), (7, .e (.c (.p 0 0))), (8, .e (.c (.int .i64 0)))] [⟨35, [.int .i64 0, .int .i64 0, .int .i64 0, .str ⟨#[]⟩, .sl (none) 0 0, .int .i64 0, .int .i64 0, .int .i64 0, .int .i64 0, .int .i64 0, .int .i64 0, .int .i64 0, .int .i64 0, .int .i64 0, .int .i64 0, .int .i64 0, .int .i64 0, .int .i64 0, .int .i64 0]⟩] [] (by kernel_rfl) (by kernel_rfl)
  have hn8 := (Over.lenv (New.refl w6) (by simp)).rel hc8.mem
  obtain ⟨hge8, hlt8⟩ := hc7.mem.newer hc8.mem (i := 0) (Nat.le_of_ble_eq_true rfl) (Nat.le_of_ble_eq_true rfl)
  have hL8 := hL6.excl hn8 hge8 hlt8
  have hkr : w0.heap.size ≤ (lenv w0.heap.size w6 []).ρ 0 := Nat.le_trans hN6.size hge8
  have hc9 := hc8.anchor1 w0.heap.size 0 ⟨35, ({} : Res).cs none 0 0⟩ rfl rfl hkr (L6tl tr nt ct ku none 0 0 0 0) [] [] ⟨by rfl, by rfl, by rfl, by rfl, by rfl, by rfl, by rfl, trivial⟩
  refine gets_loop (k' := remH) (by kernel_rfl) ?_
  refine rem_all w0 tr nt ct tree hf ku b _ 600 0 rfl [(lenv w0.heap.size w6 []).ρ 0] rS (rU [] sD) {} none 0 0 none 0 0 [] 0 w8 a8 (.u [] sD trivial (by decide) (by decide)) rm_uS rm_vS (Nat.le_refl _) ⟨hN6.trans hn8, hL8, hkr, List.mem_singleton.2 rfl, ⟨rfl, .inl ⟨rfl, rfl⟩⟩, (fun g h => by cases h), strsAt_nil _ _, hc9⟩

end Go.Proofs.YtoihipolfdhhnaaGreatDoor

namespace Go.Proofs.YtoihipolfdhhnaaGreatDoor
open Go.ChangeShapes Go.WideShapes Go.ChangeAt Go.RowKit

theorem strs_open {H : Type} {enc : TypeId × Value → H} {W : World} {fuel : Nat} {u : Value} {x : DataW H × List MemPlace} (h : DataW.trod enc Tryz.prog W 0 (fun _ => true) true fuel 22 [u] = some x) :
    ∃ (a : Option Addr) (n c : Nat) (l : List ByteArray), u = .slice a n c ∧ n = l.length ∧ n ≤ c ∧ ∀ i s, l[i]? = some s → ∃ ad, a = some ad ∧ W.cell? (ad.add i) = some (.string s) ∧ ad.block < W.heap.size := by
  rcases open_strings Tryz.underlying22 Tryz.underlying9 (by kernel_rfl) h with ⟨hcs, _⟩ | ⟨a, len, cap, ss, hcs, _, hl, _, hz, _, hcell, _⟩
  · simp only [List.cons.injEq, and_true] at hcs
    exact ⟨none, 0, 0, [], hcs, rfl, Nat.le_refl _, fun i s hi => by simp at hi⟩
  · simp only [List.cons.injEq, and_true] at hcs
    have hz' : ss.length = cap := hz
    refine ⟨some a, len, cap, ss.take len, hcs, by rw [List.length_take]; omega, hl, fun i s hi => ⟨a, rfl, ?_⟩⟩
    have hil := (List.getElem?_eq_some_iff.1 hi).1
    rw [List.length_take] at hil
    rw [List.getElem?_take_of_lt (by omega)] at hi
    have := hcell i (by omega)
    rw [List.getD, hi] at this
    have hlt := World.block_lt_of_cell? W _ this
    rw [addr_add_block] at hlt
    exact ⟨this, hlt⟩

/-- A list of lists of texts that reads as data. -/
theorem open_files {H : Type} {enc : TypeId × Value → H} {W : World} {v : Value} {d : DataW H} {p : List MemPlace} (h : DataW.Trod enc Tryz.prog W 0 (fun _ => true) true 44 v d p) (hv : ∃ a n c, v = .slice a n c) :
    ∃ a n c files, v = .slice a n c ∧ FilesAt W.heap.size W a n c files := by
  obtain ⟨a0, n0, c0, rfl⟩ := hv
  obtain ⟨fuel, hd⟩ := h
  have hd' : DataW.trod enc Tryz.prog W 0 (fun _ => true) true fuel 44 [.slice a0 n0 c0] = some (d, p) := hd
  rcases Deep.open_slice1 Tryz.underlying44 (by kernel_rfl) hd' with ⟨hcs, _⟩ | ⟨a, len, cap, m, n, V, D, Pl, hcs, _, hl, hm, hmm, hx, hcell⟩
  · simp only [List.cons.injEq, and_true] at hcs
    exact ⟨none, 0, 0, [], hcs, ⟨rfl, Nat.le_refl _, fun j x hj => by simp at hj⟩⟩
  · simp only [List.cons.injEq, and_true] at hcs
    have hmm' : m = cap := hmm
    have hk : ∀ i, ∃ l : List ByteArray, i < len → ∃ a' n' c', V i = .slice a' n' c' ∧ n' = l.length ∧ n' ≤ c' ∧ ∀ k s, l[k]? = some s → ∃ ad', a' = some ad' ∧ W.cell? (ad'.add k) = some (.string s) ∧ ad'.block < W.heap.size := by
      intro i
      by_cases hi : i < len
      · obtain ⟨a', n', c', l, h1, h2, h3, h4⟩ := strs_open (hcell i (by omega)).2
        exact ⟨l, fun _ => ⟨a', n', c', h1, h2, h3, h4⟩⟩
      · exact ⟨[], fun h => absurd h hi⟩
    refine ⟨some a, len, cap, (List.range len).map fun i => (hk i).choose, hcs, ⟨by simp, hl, fun j x hj => ?_⟩⟩
    have hjl := (List.getElem?_eq_some_iff.1 hj).1
    simp only [List.length_map, List.length_range] at hjl
    rw [List.getElem?_map, List.getElem?_range hjl] at hj
    simp only [Option.map_some, Option.some.injEq] at hj
    obtain ⟨a', n', c', h1, h2, h3, h4⟩ := (hk j).choose_spec hjl
    have hc := (hcell j (by omega)).1
    have hlt := World.block_lt_of_cell? W _ hc
    rw [addr_add_block] at hlt
    rw [h1] at hc
    rw [hj] at h2 h4
    exact ⟨a, a', n', c', rfl, hc, hlt, h2, h3, h4⟩

/-- A list of texts that reads as data. -/
theorem open_strs {H : Type} {enc : TypeId × Value → H} {W : World} {v : Value} {d : DataW H} {p : List MemPlace} (h : DataW.Trod enc Tryz.prog W 0 (fun _ => true) true 22 v d p) (hv : ∃ a n c, v = .slice a n c) :
    ∃ (a : Option Addr) (n c : Nat) (l : List ByteArray), v = .slice a n c ∧ n = l.length ∧ n ≤ c ∧ ∀ i s, l[i]? = some s → ∃ ad, a = some ad ∧ W.cell? (ad.add i) = some (.string s) ∧ ad.block < W.heap.size := by
  obtain ⟨a0, n0, c0, rfl⟩ := hv
  obtain ⟨fuel, hd⟩ := h
  have hd' : DataW.trod enc Tryz.prog W 0 (fun _ => true) true fuel 22 [.slice a0 n0 c0] = some (d, p) := hd
  exact strs_open hd'

/-- A number that reads as data. -/
theorem open_int {H : Type} {enc : TypeId × Value → H} {W : World} {v : Value} {d : DataW H} {p : List MemPlace} (h : DataW.Trod enc Tryz.prog W 0 (fun _ => true) true 3 v d p) (hv : ∃ n, v = .int .i64 n) :
    ∃ n : Int, v = .int .i64 n ∧ -9223372036854775808 ≤ n ∧ n ≤ 9223372036854775807 := by
  obtain ⟨n0, rfl⟩ := hv
  obtain ⟨fuel, hd⟩ := h
  have hd' : DataW.trod enc Tryz.prog W 0 (fun _ => true) true fuel 3 [.int .i64 n0] = some (d, p) := hd
  obtain ⟨z, g1, _, g3⟩ := DataW.trod_int Tryz.underlying3 hd'
  simp only [List.cons.injEq, Value.int.injEq, true_and, and_true] at g1
  subst g1
  refine ⟨n0, rfl, ?_⟩
  simp only [Lit.wf, Bool.and_eq_true, decide_eq_true_eq] at g3
  have m1 : IntKind.i64.min = -9223372036854775808 := by decide
  have m2 : IntKind.i64.max = 9223372036854775807 := by decide
  rw [m1, m2] at g3
  exact g3

theorem ints_open {H : Type} {enc : TypeId × Value → H} {W : World} {fuel : Nat} {u : Value} {x : DataW H × List MemPlace} (h : DataW.trod enc Tryz.prog W 0 (fun _ => true) true fuel 47 [u] = some x) :
    ∃ (a : Option Addr) (n c : Nat) (l : List Int), u = .slice a n c ∧ n = l.length ∧ n ≤ c ∧ ∀ i s, l[i]? = some s → ∃ ad, a = some ad ∧ W.cell? (ad.add i) = some (.int .i64 s) ∧ ad.block < W.heap.size := by
  rcases open_ints Tryz.underlying47 Tryz.underlying3 (by kernel_rfl) h with ⟨hcs, _⟩ | ⟨a, len, cap, ss, hcs, _, hl, _, hz, _, hcell, _⟩
  · simp only [List.cons.injEq, and_true] at hcs
    exact ⟨none, 0, 0, [], hcs, rfl, Nat.le_refl _, fun i s hi => by simp at hi⟩
  · simp only [List.cons.injEq, and_true] at hcs
    have hz' : ss.length = cap := hz
    refine ⟨some a, len, cap, ss.take len, hcs, by rw [List.length_take]; omega, hl, fun i s hi => ⟨a, rfl, ?_⟩⟩
    have hil := (List.getElem?_eq_some_iff.1 hi).1
    rw [List.length_take] at hil
    rw [List.getElem?_take_of_lt (by omega)] at hi
    have := hcell i (by omega)
    rw [List.getD, hi] at this
    have hlt := World.block_lt_of_cell? W _ this
    rw [addr_add_block] at hlt
    exact ⟨this, hlt⟩

theorem open_tree {H : Type} {enc : TypeId × Value → H} {W : World} {v : Value} {d : DataW H} {p : List MemPlace} (h : DataW.Trod enc Tryz.prog W 0 (fun _ => true) true 47 v d p) (hv : ∃ a n c, v = .slice a n c) :
    ∃ (a : Option Addr) (n c : Nat) (l : List Int), v = .slice a n c ∧ n = l.length ∧ n ≤ c ∧ ∀ i s, l[i]? = some s → ∃ ad, a = some ad ∧ W.cell? (ad.add i) = some (.int .i64 s) ∧ ad.block < W.heap.size := by
  obtain ⟨a0, n0, c0, rfl⟩ := hv
  obtain ⟨fuel, hd⟩ := h
  have hd' : DataW.trod enc Tryz.prog W 0 (fun _ => true) true fuel 47 [.slice a0 n0 c0] = some (d, p) := hd
  exact ints_open hd'

end Go.Proofs.YtoihipolfdhhnaaGreatDoor
