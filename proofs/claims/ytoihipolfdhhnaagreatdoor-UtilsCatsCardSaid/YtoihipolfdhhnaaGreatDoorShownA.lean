/-
  shown: the machines' courses.
-/
import Derived.Test.YtoihipolfdhhnaaGreatDoorLawB
namespace Go.Proofs.YtoihipolfdhhnaaGreatDoor

abbrev sCat : ByteArray := ⟨#[99, 97, 116]⟩
abbrev sA : ByteArray := ⟨#[47, 97]⟩
abbrev sX : ByteArray := ⟨#[120]⟩
abbrev sFalse : ByteArray := ⟨#[102, 97, 108, 115, 101]⟩
abbrev sDog : ByteArray := ⟨#[100, 111, 103]⟩

def u0 : M := (m0 sCat).push (.start .cat [sA])
def u1 : M := ⟨sCat, 0, [.exit0, .each [sA] .cat], some (.tries sA .cat), { op := 2, path := sA, want := 4 }, false⟩
def u2 : M := ⟨sCat, 0, [.exit0, .each [sA] .cat], some (.pours 4 1 (.closes [4])), { op := 4, fd := 4, n := 256 }, false⟩
def u3 : M := ⟨sCat, 0, [.exit0, .each [sA] .cat], some (.say 1 sX (.pours 4 1 (.closes [4]))), { op := 5, fd := 1, text := sX }, false⟩
def u5 : M := ⟨sCat, 0, [.exit0, .each [sA] .cat], some (.closes [4]), { op := 3, fd := 4 }, false⟩
def u6 : M := ⟨sCat, 0, [], none, { op := 20, n := 0 }, true⟩
def v0 : M := (m0 sFalse).push (.start .fls [])
def v1 : M := ⟨sFalse, 1, [], none, { op := 20, n := 1 }, true⟩

theorem prog_cat : progOf sCat = some .cat := by simp [progOf]
theorem prog_false : progOf sFalse = some .fls := by simp [progOf]
theorem prog_dog : progOf sDog = none := by simp [progOf]

theorem n1 : next 10 u0 {} = u1 := by
  simp [next, u0, m0, M.push, turn, runK, runD, runEach, runE, M.tries, M.sys, u1]
theorem k1 : okNext 10 u0 {} := by
  simp [okNext, u0, m0, M.push, okTurn, okK, okD, okEach, okE, runK, runD, runEach, runE, M.tries, M.sys]
theorem n2 : next 10 u1 { n := 4 } = u2 := by
  simp [next, u1, u2, turn, runR, M.tried, M.pours, M.sys]
theorem k2 : okNext 10 u1 { n := 4 } := by
  simp [okNext, u1, okTurn, okR, runR, M.tried, M.pours, M.sys, ByteArray.size]
theorem n3 : next 10 u2 { text := sX } = u3 := by
  simp [next, u2, u3, turn, runR, M.poured, M.say, M.sys]
theorem k3 : okNext 10 u2 { text := sX } := by
  simp [okNext, u2, okTurn, okR, okK, runR, M.poured, M.say, M.sys]
theorem n4 : next 10 u3 { n := 1 } = u2 := by
  simp [next, u3, u2, turn, runR, runK, M.said, M.pours, M.sys, ByteArray.size]
theorem k4 : okNext 10 u3 { n := 1 } := by
  simp [okNext, u3, okTurn, okR, okK, runR, runK, M.said, M.pours, M.sys, ByteArray.size]
theorem n5 : next 10 u2 {} = u5 := by
  simp [next, u2, u5, turn, runR, runK, M.poured, M.closes, M.sys]
theorem k5 : okNext 10 u2 {} := by
  simp [okNext, u2, okTurn, okR, okK, runR, runK, M.poured, M.closes, M.sys]
theorem n6 : next 10 u5 {} = u6 := by
  simp [next, u5, u6, turn, runR, runK, runEach, M.closes, M.exit]; decide
theorem k6 : okNext 10 u5 {} := by
  simp [okNext, u5, okTurn, okR, okK, okEach, runR, runK, runEach, M.closes, M.exit]
theorem n7 : next 10 v0 {} = v1 := by
  simp [next, v0, v1, m0, M.push, turn, runK, runD, M.exit]; decide
theorem k7 : okNext 10 v0 {} := by
  simp [okNext, v0, m0, M.push, okTurn, okK, okD, runK, runD, M.exit]

end Go.Proofs.YtoihipolfdhhnaaGreatDoor
