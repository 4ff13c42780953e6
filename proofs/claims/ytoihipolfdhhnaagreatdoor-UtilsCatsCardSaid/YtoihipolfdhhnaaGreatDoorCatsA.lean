/-
  UtilsCats, plain: how cat's machine goes on.
-/
import Derived.Test.YtoihipolfdhhnaaGreatDoorLawC
namespace Go.Proofs.YtoihipolfdhhnaaGreatDoor

abbrev sF : ByteArray := ⟨#[47, 102]⟩

def cats (r : Nat) : List ByteArray := List.replicate r sF
def cS (r : Nat) : M := (m0 sCat).push (.start .cat (cats r))
def cO (r : Nat) : M := ⟨sCat, 0, [.exit0, .each (cats r) .cat], some (.tries sF .cat), { op := 2, path := sF, want := 4 }, false⟩
def cR (r : Nat) : M := ⟨sCat, 0, [.exit0, .each (cats r) .cat], some (.pours 9 1 (.closes [9])), { op := 4, fd := 9, n := 256 }, false⟩
def cW (r : Nat) (t : ByteArray) : M := ⟨sCat, 0, [.exit0, .each (cats r) .cat], some (.say 1 t (.pours 9 1 (.closes [9]))), { op := 5, fd := 1, text := t }, false⟩
def cC (r : Nat) : M := ⟨sCat, 0, [.exit0, .each (cats r) .cat], some (.closes [9]), { op := 3, fd := 9 }, false⟩
def cX : M := ⟨sCat, 0, [], none, { op := 20, n := 0 }, true⟩

theorem sF_ne : (sF.toList == [45]) = false := by simp
theorem szF : sF.size = 2 := rfl
theorem szCat : sCat.size = 3 := rfl

theorem cats_succ (r : Nat) : cats (r + 1) = sF :: cats r := rfl

theorem tS (r : Nat) : next 10 (cS (r + 1)) {} = cO (r + 1) := by
  simp [next, cS, cO, m0, M.push, turn, runK, runD, cats_succ, runEach, runE, M.tries, M.sys]
theorem kS (r : Nat) : okNext 10 (cS (r + 1)) {} := by
  simp [okNext, cS, m0, M.push, okTurn, okK, okD, runK, runD, cats_succ, okEach, okE, runEach, runE, M.tries, M.sys]
theorem tO (r : Nat) : next 10 (cO r) { n := 9 } = cR r := by
  simp [next, cO, cR, turn, runR, M.tried, M.pours, M.sys]
theorem kO (r : Nat) : okNext 10 (cO r) { n := 9 } := by
  simp [okNext, cO, okTurn, okR, runR, M.tried, M.pours, M.sys, szF, szCat]
theorem tRt (r : Nat) (t : ByteArray) (h : (t.toList == []) = false) : next 10 (cR r) { text := t } = cW r t := by
  simp [next, cR, cW, turn, runR, M.poured, M.say, M.sys, h]
theorem kRt (r : Nat) (t : ByteArray) (h : (t.toList == []) = false) : okNext 10 (cR r) { text := t } := by
  simp [okNext, cR, okTurn, okR, okK, runR, M.poured, M.say, M.sys, h]
theorem tRe (r : Nat) : next 10 (cR r) {} = cC r := by
  simp [next, cR, cC, turn, runR, runK, M.poured, M.closes, M.sys, ByteArray.toList_eq]
theorem kRe (r : Nat) : okNext 10 (cR r) {} := by
  simp [okNext, cR, okTurn, okR, okK, runR, runK, M.poured, M.closes, M.sys, ByteArray.toList_eq]
theorem tWe (r : Nat) (t : ByteArray) (n : Int) (h : n ≥ t.size) : next 10 (cW r t) { n := n } = cR r := by
  simp [next, cW, cR, turn, runR, runK, M.said, M.pours, M.sys, h]
theorem kWe (r : Nat) (t : ByteArray) (n : Int) : okNext 10 (cW r t) { n := n } := by
  simp only [okNext, cW, okR, okK, runR, runK, M.said, M.pours, M.sys, M.say]
  simp
  split <;> simp [okTurn]
theorem tWr (r : Nat) (t : ByteArray) (n : Int) (h1 : 1 ≤ n) (h : n < t.size) : next 10 (cW r t) { n := n } = cW r (rest t n) := by
  have h2 : ¬ n < 1 := by omega
  have h3 : ¬ (t.size : Int) ≤ n := by omega
  simp [next, cW, turn, runR, M.said, M.say, M.sys, h2, h3]
theorem tC1 : next 10 (cC 1) {} = cX := by
  simp [next, cC, cX, cats, turn, runR, runK, runEach, M.closes, M.exit]; decide
theorem kC1 : okNext 10 (cC 1) {} := by
  simp [okNext, cC, cats, okTurn, okR, okK, okEach, runR, runK, runEach, M.closes, M.exit]
theorem tC2 (r : Nat) : next 10 (cC (r + 2)) {} = cO (r + 1) := by
  simp [next, cC, cO, cats_succ, turn, runR, runK, runEach, runE, M.closes, M.push, M.tries, M.sys]
theorem kC2 (r : Nat) : okNext 10 (cC (r + 2)) {} := by
  simp [okNext, cC, cats_succ, okTurn, okR, okK, okEach, okE, runR, runK, runEach, runE, M.closes, M.push, M.tries, M.sys]

end Go.Proofs.YtoihipolfdhhnaaGreatDoor
