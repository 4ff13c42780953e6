/-
  UtilsCats: the loops that read the arguments.
-/
import Derived.Test.YtoihipolfdhhnaaGreatDoorCatsA
namespace Go.Proofs.YtoihipolfdhhnaaGreatDoor

/-- A slice of slices of texts. -/
structure FilesAt (B : Nat) (w : World) (a : Option Addr) (n c : Nat) (l : List (List ByteArray)) : Prop where
  len : n = l.length
  cap : n ≤ c
  at_ : ∀ j x, l[j]? = some x → ∃ ad a' n' c', a = some ad ∧ w.cell? (ad.add j) = some (.slice a' n' c') ∧ ad.block < B ∧ n' = x.length ∧ n' ≤ c' ∧
    ∀ i s, x[i]? = some s → ∃ ad', a' = some ad' ∧ w.cell? (ad'.add i) = some (.string s) ∧ ad'.block < B

theorem cell_new {w w' : World} (hn : New w w') {a : Addr} {v : Value} (h : w.cell? a = some v) : w'.cell? a = some v := by
  rw [World.cell?_of_block (hn.block _ (World.block_lt_of_cell? w a h))]; exact h

theorem FilesAt.fresh {B : Nat} {w w' : World} {a : Option Addr} {n c : Nat} {l : List (List ByteArray)} (h : FilesAt B w a n c l) (hn : New w w') : FilesAt B w' a n c l :=
  ⟨h.len, h.cap, fun j x hj => by
    obtain ⟨ad, a', n', c', h1, h2, h3, h4, h5, h6⟩ := h.at_ j x hj
    exact ⟨ad, a', n', c', h1, cell_new hn h2, h3, h4, h5, fun i s hi => by obtain ⟨ad', g1, g2, g3⟩ := h6 i s hi; exact ⟨ad', g1, cell_new hn g2, g3⟩⟩⟩

noncomputable def cats0 : List Item := (run Tab Tryz.f4.ntmps 20 (code Tryz.f4) (ini [.e (.c (.sl none 0 0))] [] [])).1
noncomputable def cats1 : List Item := (run Tab Tryz.f4.ntmps 60 (popX cats0) { tl := [(0, .e (.c (.sl none 0 0))), (16, .e (.c (.bool true)))], bs := [], orc := [false] }).1
noncomputable def catsH1 : List Item := (loopX cats1).getD []
noncomputable def cats2 : List Item := (run Tab Tryz.f4.ntmps 60 catsH1 { tl := [(0, .e (.c (.sl (some ⟨0, 0, none⟩) 1 1))), (3, .e (.c (.bool true))), (4, .e (.c (.sl none 0 0))), (5, .e (.c (.str ⟨#[]⟩))), (6, .e (.c (.int .i64 0)))], bs := [], orc := [true, false], ext := [.e (.c (.sl none 0 0))] }).1
noncomputable def cats3 : List Item := (run Tab Tryz.f4.ntmps 60 (popX cats2) { tl := [(38, .e (.c (.sl none 0 0))), (0, .e (.c (.sl (some ⟨0, 0, none⟩) 1 1))), (3, .e (.c (.bool true))), (5, .e (.c (.str ⟨#[]⟩))), (6, .e (.c (.int .i64 0)))], bs := [] }).1
noncomputable def catsH2 : List Item := (loopX cats3).getD []

def addAll : ByteArray → List ByteArray → ByteArray := List.foldl (· ++ ·)

theorem addAll_size : ∀ (l : List ByteArray) (s : ByteArray), (∀ x ∈ l, x.size ≤ 256) → (addAll s l).size ≤ s.size + 256 * l.length
  | [], s, _ => by simp [addAll]
  | x :: l, s, h => by
    have h1 := addAll_size l (s ++ x) (fun y hy => h y (List.mem_cons_of_mem _ hy))
    have h2 := h x (List.mem_cons_self ..)
    simp only [addAll, List.foldl_cons, List.length_cons] at h1 ⊢
    rw [ByteArray.size_append] at h1
    omega

abbrev C1 (w0 w : World) (a : Act) (af : Option Addr) (nf cf : Nat) (ap : Option Addr) (np cp : Nat) (want : ByteArray) (i : Nat) : Prop :=
  CRel (lenv w0.heap.size w []) Tryz.f4.ntmps { tl := [(0, .e (.c (.sl af nf cf))), (3, .e (.c (.bool true))), (4, .e (.c (.sl ap np cp))), (5, .e (.c (.str want))), (6, .e (.c (.int .i64 (i : Int))))], bs := [] } a w
abbrev C2 (w0 w : World) (a : Act) (af : Option Addr) (nf cf : Nat) (ap : Option Addr) (np cp : Nat) (want : ByteArray) (i k : Nat) : Prop :=
  CRel (lenv w0.heap.size w []) Tryz.f4.ntmps { tl := [(0, .e (.c (.sl af nf cf))), (3, .e (.c (.bool true))), (4, .e (.c (.sl ap np cp))), (5, .e (.c (.str want))), (6, .e (.c (.int .i64 (i : Int)))), (7, .e (.c (.int .i64 (k : Int))))], bs := [] } a w

abbrev CatR (w0 : World) : Ending → World → Prop := Gives (.bool true) (fun _ => True) w0

def Good (s : ByteArray) : Prop := (s.toList == []) = false ∧ s.size ≤ 256

theorem wrap_nat {n : Nat} (h : n ≤ 9223372036854775807) : IntKind.i64.wrap (n : Int) = (n : Int) := wrap_small (by omega) (by omega)
theorem wrap_succ {n : Nat} (h : n ≤ 1000000) : IntKind.i64.wrap ((n : Int) + 1) = ((n + 1 : Nat) : Int) := wrap_small (by omega) (by omega)

theorem cats_in (w0 : World) (ad : Addr) (nf cf : Nat) (files : List (List ByteArray)) (hf : FilesAt w0.heap.size w0 (some ad) nf cf files) (i : Nat) (hi10 : i < 10) (l : List ByteArray) (hl : files[i]? = some l) (hl10 : l.length ≤ 10) (np : Nat) (args : List ByteArray)
    (tot : ByteArray) (hcont : (∀ s ∈ l, Good s) → ∀ w a ap cp, New w0 w → Row w0.heap.size w ap np cp args → C1 w0 w a (some ad) nf cf ap np cp tot (i + 1) → Gets Tryz.prog 4 catsH1 a w (CatR w0)) :
    ∀ (ls pre : List ByteArray), l = pre ++ ls → (∀ s ∈ pre, Good s) → ∀ (want : ByteArray) (w : World) (a : Act) (ap : Option Addr) (cp : Nat), want.size + 256 * ls.length ≤ 1000000 → addAll want ls = tot → New w0 w → Row w0.heap.size w ap np cp args → C2 w0 w a (some ad) nf cf ap np cp want i pre.length → Gets Tryz.prog 4 catsH2 a w (CatR w0) := by
  intro ls
  induction ls with
  | nil =>
    intro pre hpre hg want w a ap cp _ htot hN hrow hc
    obtain ⟨ad0, a', n', c', e0, h2, h3, h4, h5, h6⟩ := (hf.fresh hN).at_ i l hl
    cases e0
    have hA : oro w0.heap.size w (ad.add ((i : Int).toNat * 1)) = some (.slice a' n' c') := oro_of (by rw [addr_add_block]; exact h3) (by simpa using h2)
    have hin : 0 ≤ (i : Int) ∧ (i : Int) < (nf : Int) := ⟨by omega, by have := (List.getElem?_eq_some_iff.1 hl).1; have := hf.len; omega⟩
    have hlt : decide ((pre.length : Int) < (n' : Int)) = false := by rw [h4, hpre]; simp
    refine gets_run tab_ok 60 (hc.feed [false] [.e (.c (.sl a' n' c'))]) (holds_of (obs := [fun _ => (0 : Int) ≤ (↑i : Int) ∧ (↑i : Int) < (↑nf : Int), fun ε => Env.ro ε (Addr.add ad (Int.toNat (↑i : Int) * (1 : Nat))) = some (C.real (Env.ρ ε) (C.sl a' n' c')), fun _ => decide ((↑(List.length pre) : Int) < (↑n' : Int)) = false]) (by kernel_rfl) ⟨hin, (by assumption), hlt, trivial⟩) (fun a1 w1 hc1 => ?_)
    replace hc1 := hc1.pickx [(0, .e (.c (.sl (some ad) nf cf))), (3, .e (.c (.bool true))), (4, .e (.c (.sl ap np cp))), (5, .e (.c (.str want))), (6, .e (.c (.int .i64 (IntKind.wrap IntKind.i64 ((↑i : Int) + (1 : Int)))))), (7, .e (.c (.int .i64 ((↑(List.length pre) : Int))))), (27, .e (.c (.int .i64 ((↑i : Int))))), (28, .e (.c (.int .i64 (IntKind.wrap IntKind.i64 ((↑i : Int) + (1 : Int)))))), (39, .e (.c (.int .i64 ((↑(List.length pre) : Int))))), (40, .e (.c (.sl (some ad) nf cf))), (41, .e (.c (.int .i64 ((↑i : Int))))), (42, .e (.c (.rp (Addr.add ad (Int.toNat (↑i : Int) * (1 : Nat)))))), (43, .e (.c (.sl a' n' c'))), (44, .e (.c (.int .i64 ((↑n' : Int))))), (45, .e (.c (.bool false)))] [] [] (by kernel_rfl) (by kernel_rfl)
    have hN1 := hN.trans ((Over.lenv (New.refl w) (by simp)).rel hc1.mem)
    have hc2 := hc1.anchor0 w0.heap.size [(0, .e (.c (.sl (some ad) nf cf))), (3, .e (.c (.bool true))), (4, .e (.c (.sl ap np cp))), (5, .e (.c (.str want))), (6, .e (.c (.int .i64 ((i + 1 : Nat) : Int))))] [] [] ⟨rfl, rfl, rfl, rfl, by show some (Value.int .i64 (IntKind.i64.wrap ((i : Int) + 1))) = _; rw [wrap_succ (by omega)]; rfl, trivial⟩
    refine gets_loop (k' := catsH1) (by kernel_rfl) ?_
    simp only [addAll, List.foldl_nil] at htot
    subst htot
    exact hcont (by rw [hpre]; simpa using hg) w1 a1 ap cp hN1 (hrow.fresh ((Over.lenv (New.refl w) (by simp)).rel hc1.mem)) hc2
  | cons s ls ih =>
    intro pre hpre hg want w a ap cp hsz htot hN hrow hc
    obtain ⟨ad0, a', n', c', e0, h2, h3, h4, h5, h6⟩ := (hf.fresh hN).at_ i l hl
    cases e0
    have hls : l[pre.length]? = some s := by rw [hpre]; simp
    obtain ⟨ad', rfl, g2, g3⟩ := h6 pre.length s hls
    have hll : l.length = pre.length + (ls.length + 1) := by rw [hpre]; simp
    have hA : oro w0.heap.size w (ad.add ((i : Int).toNat * 1)) = some (.slice (some ad') n' c') := oro_of (by rw [addr_add_block]; exact h3) (by simpa using h2)
    have hS : oro w0.heap.size w (ad'.add ((pre.length : Int).toNat * 1)) = some (.string s) := oro_of (by rw [addr_add_block]; exact g3) (by simpa using g2)
    have hin : 0 ≤ (i : Int) ∧ (i : Int) < (nf : Int) := ⟨by omega, by have := (List.getElem?_eq_some_iff.1 hl).1; have := hf.len; omega⟩
    have hin2 : 0 ≤ (pre.length : Int) ∧ (pre.length : Int) < (n' : Int) := ⟨by omega, by omega⟩
    have hlt : decide ((pre.length : Int) < (n' : Int)) = true := by rw [h4, hll]; simp; omega
    have hem : (⟨#[]⟩ : ByteArray).toList = [] := by rw [ByteArray.toList_eq]
    by_cases he : (s.toList == []) = true
    · have he' : (s.toList == (⟨#[]⟩ : ByteArray).toList) = true := by rw [hem]; exact he
      refine gets_run tab_ok 90 (hc.feed [true, true] [.e (.c (.sl (some ad') n' c')), .e (.c (.sl (some ad') n' c')), .e (.c (.str s))]) (holds_of (obs := [fun _ => (0 : Int) ≤ (↑i : Int) ∧ (↑i : Int) < (↑nf : Int), fun ε => Env.ro ε (Addr.add ad (Int.toNat (↑i : Int) * (1 : Nat))) = some (C.real (Env.ρ ε) (C.sl (some ad') n' c')), fun _ => decide ((↑(List.length pre) : Int) < (↑n' : Int)) = true, fun _ => (0 : Int) ≤ (↑i : Int) ∧ (↑i : Int) < (↑nf : Int), fun ε => Env.ro ε (Addr.add ad (Int.toNat (↑i : Int) * (1 : Nat))) = some (C.real (Env.ρ ε) (C.sl (some ad') n' c')), fun _ => (0 : Int) ≤ (↑(List.length pre) : Int) ∧ (↑(List.length pre) : Int) < (↑n' : Int), fun ε => Env.ro ε (Addr.add ad' (Int.toNat (↑(List.length pre) : Int) * (1 : Nat))) = some (C.real (Env.ρ ε) (C.str s)), fun _ => (ByteArray.toList s == ByteArray.toList { data := #[] }) = true]) (by kernel_rfl) ⟨hin, (by assumption), hlt, hin, (by assumption), hin2, (by assumption), he', trivial⟩) (fun a1 w1 hc1 => ?_)
      replace hc1 := hc1.pickx [(0, .e (.c (.sl (some ad) nf cf))), (2, .e (.c (.bool true))), (3, .e (.c (.bool true))), (4, .e (.c (.sl ap np cp))), (5, .e (.c (.str want))), (6, .e (.c (.int .i64 ((↑i : Int))))), (7, .e (.c (.int .i64 ((↑(List.length pre) : Int))))), (39, .e (.c (.int .i64 ((↑(List.length pre) : Int))))), (40, .e (.c (.sl (some ad) nf cf))), (41, .e (.c (.int .i64 ((↑i : Int))))), (42, .e (.c (.rp (Addr.add ad (Int.toNat (↑i : Int) * (1 : Nat)))))), (43, .e (.c (.sl (some ad') n' c'))), (44, .e (.c (.int .i64 ((↑n' : Int))))), (45, .e (.c (.bool true))), (48, .e (.c (.sl (some ad) nf cf))), (49, .e (.c (.int .i64 ((↑i : Int))))), (50, .e (.c (.rp (Addr.add ad (Int.toNat (↑i : Int) * (1 : Nat)))))), (51, .e (.c (.sl (some ad') n' c'))), (52, .e (.c (.int .i64 ((↑(List.length pre) : Int))))), (53, .e (.c (.rp (Addr.add ad' (Int.toNat (↑(List.length pre) : Int) * (1 : Nat)))))), (54, .e (.c (.str s))), (55, .e (.c (.bool true))), (56, .e (.c (.bool true))), (66, .e (.c (.bool true))), (67, .e (.c (.bool true)))] [] [] (by kernel_rfl) (by kernel_rfl)
      exact gets_fin tab_ok (l := [.c (.bool true)]) hc1 Tryz.func4 (by kernel_rfl) (by kernel_rfl) ⟨rfl, hN.trans ((Over.lenv (New.refl w) (by simp)).rel hc1.mem), trivial⟩
    · have he' : (s.toList == (⟨#[]⟩ : ByteArray).toList) = false := by rw [hem]; simpa using he
      by_cases hb : s.size ≤ 256
      · have hb' : decide ((s.size : Int) > 256) = false := by simp; omega
        have hso : ((want.size + s.size : Nat) : Int) ≤ 9223372036854775807 := by simp only [List.length_cons] at hsz; omega
        refine gets_run tab_ok 120 (hc.feed [true, false, false] [.e (.c (.sl (some ad') n' c')), .e (.c (.sl (some ad') n' c')), .e (.c (.str s)), .e (.c (.sl (some ad') n' c')), .e (.c (.str s)), .e (.c (.sl (some ad') n' c')), .e (.c (.str s))]) (holds_of (obs := [fun _ => (0 : Int) ≤ (↑i : Int) ∧ (↑i : Int) < (↑nf : Int), fun ε => Env.ro ε (Addr.add ad (Int.toNat (↑i : Int) * (1 : Nat))) = some (C.real (Env.ρ ε) (C.sl (some ad') n' c')), fun _ => decide ((↑(List.length pre) : Int) < (↑n' : Int)) = true, fun _ => (0 : Int) ≤ (↑i : Int) ∧ (↑i : Int) < (↑nf : Int), fun ε => Env.ro ε (Addr.add ad (Int.toNat (↑i : Int) * (1 : Nat))) = some (C.real (Env.ρ ε) (C.sl (some ad') n' c')), fun _ => (0 : Int) ≤ (↑(List.length pre) : Int) ∧ (↑(List.length pre) : Int) < (↑n' : Int), fun ε => Env.ro ε (Addr.add ad' (Int.toNat (↑(List.length pre) : Int) * (1 : Nat))) = some (C.real (Env.ρ ε) (C.str s)), fun _ => (ByteArray.toList s == ByteArray.toList { data := #[] }) = false, fun _ => (0 : Int) ≤ (↑i : Int) ∧ (↑i : Int) < (↑nf : Int), fun ε => Env.ro ε (Addr.add ad (Int.toNat (↑i : Int) * (1 : Nat))) = some (C.real (Env.ρ ε) (C.sl (some ad') n' c')), fun _ => (0 : Int) ≤ (↑(List.length pre) : Int) ∧ (↑(List.length pre) : Int) < (↑n' : Int), fun ε => Env.ro ε (Addr.add ad' (Int.toNat (↑(List.length pre) : Int) * (1 : Nat))) = some (C.real (Env.ρ ε) (C.str s)), fun _ => decide ((↑(ByteArray.size s) : Int) > (256 : Int)) = false, fun _ => (0 : Int) ≤ (↑i : Int) ∧ (↑i : Int) < (↑nf : Int), fun ε => Env.ro ε (Addr.add ad (Int.toNat (↑i : Int) * (1 : Nat))) = some (C.real (Env.ρ ε) (C.sl (some ad') n' c')), fun _ => (0 : Int) ≤ (↑(List.length pre) : Int) ∧ (↑(List.length pre) : Int) < (↑n' : Int), fun ε => Env.ro ε (Addr.add ad' (Int.toNat (↑(List.length pre) : Int) * (1 : Nat))) = some (C.real (Env.ρ ε) (C.str s)), fun _ => (↑(ByteArray.size want + ByteArray.size s) : Int) ≤ (9223372036854775807 : Int)]) (by kernel_rfl) ⟨hin, (by assumption), hlt, hin, (by assumption), hin2, (by assumption), he', hin, (by assumption), hin2, (by assumption), hb', hin, (by assumption), hin2, (by assumption), hso, trivial⟩) (fun a1 w1 hc1 => ?_)
        replace hc1 := hc1.pickx [(0, .e (.c (.sl (some ad) nf cf))), (3, .e (.c (.bool true))), (4, .e (.c (.sl ap np cp))), (5, .e (.c (.str (want ++ s)))), (6, .e (.c (.int .i64 ((↑i : Int))))), (7, .e (.c (.int .i64 (IntKind.wrap IntKind.i64 ((↑(List.length pre) : Int) + (1 : Int)))))), (39, .e (.c (.int .i64 ((↑(List.length pre) : Int))))), (40, .e (.c (.sl (some ad) nf cf))), (41, .e (.c (.int .i64 ((↑i : Int))))), (42, .e (.c (.rp (Addr.add ad (Int.toNat (↑i : Int) * (1 : Nat)))))), (43, .e (.c (.sl (some ad') n' c'))), (44, .e (.c (.int .i64 ((↑n' : Int))))), (45, .e (.c (.bool true))), (46, .e (.c (.int .i64 ((↑(List.length pre) : Int))))), (47, .e (.c (.int .i64 (IntKind.wrap IntKind.i64 ((↑(List.length pre) : Int) + (1 : Int)))))), (48, .e (.c (.sl (some ad) nf cf))), (49, .e (.c (.int .i64 ((↑i : Int))))), (50, .e (.c (.rp (Addr.add ad (Int.toNat (↑i : Int) * (1 : Nat)))))), (51, .e (.c (.sl (some ad') n' c'))), (52, .e (.c (.int .i64 ((↑(List.length pre) : Int))))), (53, .e (.c (.rp (Addr.add ad' (Int.toNat (↑(List.length pre) : Int) * (1 : Nat)))))), (54, .e (.c (.str s))), (55, .e (.c (.bool false))), (56, .e (.c (.bool false))), (57, .e (.c (.sl (some ad) nf cf))), (58, .e (.c (.int .i64 ((↑i : Int))))), (59, .e (.c (.rp (Addr.add ad (Int.toNat (↑i : Int) * (1 : Nat)))))), (60, .e (.c (.sl (some ad') n' c'))), (61, .e (.c (.int .i64 ((↑(List.length pre) : Int))))), (62, .e (.c (.rp (Addr.add ad' (Int.toNat (↑(List.length pre) : Int) * (1 : Nat)))))), (63, .e (.c (.str s))), (64, .e (.c (.int .i64 ((↑(ByteArray.size s) : Int))))), (65, .e (.c (.bool false))), (66, .e (.c (.bool false))), (68, .e (.c (.str want))), (69, .e (.c (.sl (some ad) nf cf))), (70, .e (.c (.int .i64 ((↑i : Int))))), (71, .e (.c (.rp (Addr.add ad (Int.toNat (↑i : Int) * (1 : Nat)))))), (72, .e (.c (.sl (some ad') n' c'))), (73, .e (.c (.int .i64 ((↑(List.length pre) : Int))))), (74, .e (.c (.rp (Addr.add ad' (Int.toNat (↑(List.length pre) : Int) * (1 : Nat)))))), (75, .e (.c (.str s))), (76, .e (.c (.str (want ++ s))))] [] [] (by kernel_rfl) (by kernel_rfl)
        have hN1 := hN.trans ((Over.lenv (New.refl w) (by simp)).rel hc1.mem)
        have hc2 := hc1.anchor0 w0.heap.size [(0, .e (.c (.sl (some ad) nf cf))), (3, .e (.c (.bool true))), (4, .e (.c (.sl ap np cp))), (5, .e (.c (.str (want ++ s)))), (6, .e (.c (.int .i64 (i : Int)))), (7, .e (.c (.int .i64 ((pre.length + 1 : Nat) : Int))))] [] [] ⟨rfl, rfl, rfl, rfl, rfl, by show some (Value.int .i64 (IntKind.i64.wrap ((pre.length : Int) + 1))) = _; rw [wrap_succ (by omega)]; rfl, trivial⟩
        refine gets_loop (k' := catsH2) (by kernel_rfl) ?_
        have hpl : (pre ++ [s]).length = pre.length + 1 := by simp
        refine ih (pre ++ [s]) (by rw [hpre]; simp) (fun x hx => ?_) (want ++ s) w1 a1 ap cp (by rw [ByteArray.size_append]; simp only [List.length_cons] at hsz; omega) htot hN1 (hrow.fresh ((Over.lenv (New.refl w) (by simp)).rel hc1.mem)) (by rw [hpl]; exact hc2)
        rcases List.mem_append.1 hx with hx | hx
        · exact hg x hx
        · simp only [List.mem_singleton] at hx
          subst hx
          exact ⟨by simpa using he, hb⟩
      · have hb' : decide ((s.size : Int) > 256) = true := by simp; omega
        refine gets_run tab_ok 120 (hc.feed [true, false, true] [.e (.c (.sl (some ad') n' c')), .e (.c (.sl (some ad') n' c')), .e (.c (.str s)), .e (.c (.sl (some ad') n' c')), .e (.c (.str s))]) (holds_of (obs := [fun _ => (0 : Int) ≤ (↑i : Int) ∧ (↑i : Int) < (↑nf : Int), fun ε => Env.ro ε (Addr.add ad (Int.toNat (↑i : Int) * (1 : Nat))) = some (C.real (Env.ρ ε) (C.sl (some ad') n' c')), fun _ => decide ((↑(List.length pre) : Int) < (↑n' : Int)) = true, fun _ => (0 : Int) ≤ (↑i : Int) ∧ (↑i : Int) < (↑nf : Int), fun ε => Env.ro ε (Addr.add ad (Int.toNat (↑i : Int) * (1 : Nat))) = some (C.real (Env.ρ ε) (C.sl (some ad') n' c')), fun _ => (0 : Int) ≤ (↑(List.length pre) : Int) ∧ (↑(List.length pre) : Int) < (↑n' : Int), fun ε => Env.ro ε (Addr.add ad' (Int.toNat (↑(List.length pre) : Int) * (1 : Nat))) = some (C.real (Env.ρ ε) (C.str s)), fun _ => (ByteArray.toList s == ByteArray.toList { data := #[] }) = false, fun _ => (0 : Int) ≤ (↑i : Int) ∧ (↑i : Int) < (↑nf : Int), fun ε => Env.ro ε (Addr.add ad (Int.toNat (↑i : Int) * (1 : Nat))) = some (C.real (Env.ρ ε) (C.sl (some ad') n' c')), fun _ => (0 : Int) ≤ (↑(List.length pre) : Int) ∧ (↑(List.length pre) : Int) < (↑n' : Int), fun ε => Env.ro ε (Addr.add ad' (Int.toNat (↑(List.length pre) : Int) * (1 : Nat))) = some (C.real (Env.ρ ε) (C.str s)), fun _ => decide ((↑(ByteArray.size s) : Int) > (256 : Int)) = true]) (by kernel_rfl) ⟨hin, (by assumption), hlt, hin, (by assumption), hin2, (by assumption), he', hin, (by assumption), hin2, (by assumption), hb', trivial⟩) (fun a1 w1 hc1 => ?_)
        replace hc1 := hc1.pickx [(0, .e (.c (.sl (some ad) nf cf))), (2, .e (.c (.bool true))), (3, .e (.c (.bool true))), (4, .e (.c (.sl ap np cp))), (5, .e (.c (.str want))), (6, .e (.c (.int .i64 ((↑i : Int))))), (7, .e (.c (.int .i64 ((↑(List.length pre) : Int))))), (39, .e (.c (.int .i64 ((↑(List.length pre) : Int))))), (40, .e (.c (.sl (some ad) nf cf))), (41, .e (.c (.int .i64 ((↑i : Int))))), (42, .e (.c (.rp (Addr.add ad (Int.toNat (↑i : Int) * (1 : Nat)))))), (43, .e (.c (.sl (some ad') n' c'))), (44, .e (.c (.int .i64 ((↑n' : Int))))), (45, .e (.c (.bool true))), (48, .e (.c (.sl (some ad) nf cf))), (49, .e (.c (.int .i64 ((↑i : Int))))), (50, .e (.c (.rp (Addr.add ad (Int.toNat (↑i : Int) * (1 : Nat)))))), (51, .e (.c (.sl (some ad') n' c'))), (52, .e (.c (.int .i64 ((↑(List.length pre) : Int))))), (53, .e (.c (.rp (Addr.add ad' (Int.toNat (↑(List.length pre) : Int) * (1 : Nat)))))), (54, .e (.c (.str s))), (55, .e (.c (.bool false))), (56, .e (.c (.bool false))), (57, .e (.c (.sl (some ad) nf cf))), (58, .e (.c (.int .i64 ((↑i : Int))))), (59, .e (.c (.rp (Addr.add ad (Int.toNat (↑i : Int) * (1 : Nat)))))), (60, .e (.c (.sl (some ad') n' c'))), (61, .e (.c (.int .i64 ((↑(List.length pre) : Int))))), (62, .e (.c (.rp (Addr.add ad' (Int.toNat (↑(List.length pre) : Int) * (1 : Nat)))))), (63, .e (.c (.str s))), (64, .e (.c (.int .i64 ((↑(ByteArray.size s) : Int))))), (65, .e (.c (.bool true))), (66, .e (.c (.bool true))), (67, .e (.c (.bool true)))] [] [] (by kernel_rfl) (by kernel_rfl)
        exact gets_fin tab_ok (l := [.c (.bool true)]) hc1 Tryz.func4 (by kernel_rfl) (by kernel_rfl) ⟨rfl, hN.trans ((Over.lenv (New.refl w) (by simp)).rel hc1.mem), trivial⟩

def GoodF (l : List ByteArray) : Prop := l.length ≤ 10 ∧ ∀ s ∈ l, Good s

def addFiles : ByteArray → List (List ByteArray) → ByteArray := List.foldl addAll

theorem cats_out (w0 : World) (ad : Addr) (nf cf : Nat) (files : List (List ByteArray)) (hf : FilesAt w0.heap.size w0 (some ad) nf cf files) (h10 : files.length ≤ 10) (tot : ByteArray)
    (hcont : (∀ l ∈ files, GoodF l) → ∀ w a ap cp, New w0 w → Row w0.heap.size w ap (files.length + 1) cp (sCat :: cats files.length) → C1 w0 w a (some ad) nf cf ap (files.length + 1) cp tot files.length → Gets Tryz.prog 4 catsH1 a w (CatR w0)) :
    ∀ (fs pre : List (List ByteArray)), files = pre ++ fs → (∀ l ∈ pre, GoodF l) → ∀ (want : ByteArray) (w : World) (a : Act) (ap : Option Addr) (cp : Nat), want.size + 2560 * fs.length ≤ 100000 → addFiles want fs = tot → New w0 w → Row w0.heap.size w ap (pre.length + 1) cp (sCat :: cats pre.length) → C1 w0 w a (some ad) nf cf ap (pre.length + 1) cp want pre.length → Gets Tryz.prog 4 catsH1 a w (CatR w0) := by
  intro fs
  induction fs with
  | nil =>
    intro pre hpre hg want w a ap cp hsz htot hN hrow hc
    have hpre' : files = pre := by simpa using hpre
    subst hpre'
    simp only [addFiles, List.foldl_nil] at htot
    subst htot
    exact hcont hg w a ap cp hN hrow hc
  | cons l fs ih =>
    intro pre hpre hg want w a ap cp hsz htot hN hrow hc
    have hfl : files.length = pre.length + (fs.length + 1) := by rw [hpre]; simp
    have hl : files[pre.length]? = some l := by rw [hpre]; simp
    obtain ⟨ad0, a', n', c', e0, h2, h3, h4, h5, h6⟩ := (hf.fresh hN).at_ pre.length l hl
    cases e0
    have hA : oro w0.heap.size w (ad.add ((pre.length : Int).toNat * 1)) = some (.slice a' n' c') := oro_of (by rw [addr_add_block]; exact h3) (by simpa using h2)
    have hin : 0 ≤ (pre.length : Int) ∧ (pre.length : Int) < (nf : Int) := ⟨by omega, by have := hf.len; omega⟩
    have hlt : decide ((pre.length : Int) < (nf : Int)) = true := by have := hf.len; simp; omega
    by_cases h11 : l.length ≤ 10
    · have h11' : decide ((n' : Int) > 10) = false := by rw [h4]; simp; omega
      refine gets_run tab_ok 60 (hc.feed [true, false] [.e (.c (.sl a' n' c'))]) (holds_of (obs := [fun _ => decide ((↑(List.length pre) : Int) < (↑nf : Int)) = true, fun _ => (0 : Int) ≤ (↑(List.length pre) : Int) ∧ (↑(List.length pre) : Int) < (↑nf : Int), fun ε => Env.ro ε (Addr.add ad (Int.toNat (↑(List.length pre) : Int) * (1 : Nat))) = some (C.real (Env.ρ ε) (C.sl a' n' c')), fun _ => decide ((↑n' : Int) > (10 : Int)) = false]) (by kernel_rfl) ⟨hlt, hin, (by assumption), h11', trivial⟩) (fun a1 w1 hc1 => ?_)
      replace hc1 := hc1.pickx [(0, .e (.c (.sl (some ad) nf cf))), (3, .e (.c (.bool true))), (4, .e (.c (.sl ap (List.length pre + (1 : Nat)) cp))), (5, .e (.c (.str want))), (6, .e (.c (.int .i64 ((↑(List.length pre) : Int))))), (23, .e (.c (.int .i64 ((↑(List.length pre) : Int))))), (24, .e (.c (.sl (some ad) nf cf))), (25, .e (.c (.int .i64 ((↑nf : Int))))), (26, .e (.c (.bool true))), (29, .e (.c (.sl (some ad) nf cf))), (30, .e (.c (.int .i64 ((↑(List.length pre) : Int))))), (31, .e (.c (.rp (Addr.add ad (Int.toNat (↑(List.length pre) : Int) * (1 : Nat)))))), (32, .e (.c (.sl a' n' c'))), (33, .e (.c (.int .i64 ((↑n' : Int))))), (34, .e (.c (.bool false))), (36, .e (.c (.sl ap (List.length pre + (1 : Nat)) cp))), (37, .e (.c (.nsl 0 0 1 1)))] [⟨9, [.str ⟨#[47, 102]⟩]⟩] [] (by kernel_rfl) (by kernel_rfl)
      have hN1 := hN.trans ((Over.lenv (New.refl w) (by simp)).rel hc1.mem)
      have hrow1 := hrow.fresh ((Over.lenv (New.refl w) (by simp)).rel hc1.mem)
      refine gets_append9 38 36 37 0 ap (pre.length + 1) cp (sCat :: cats pre.length) sF [(0, .e (.c (.sl (some ad) nf cf))), (3, .e (.c (.bool true))), (5, .e (.c (.str want))), (6, .e (.c (.int .i64 (pre.length : Int))))] hN1 rfl hc1 (by kernel_rfl) (by kernel_rfl) (by kernel_rfl) (by kernel_rfl) hrow1 (by omega) (by kernel_rfl) (fun ρ' => ⟨rfl, rfl, rfl, rfl, trivial⟩) (fun a2 w2 ap2 cp2 hN2 hrow2 hc2 => ?_)
      refine gets_run tab_ok 60 hc2 (holds_of (obs := []) (by kernel_rfl) trivial) (fun a3 w3 hc3 => ?_)
      replace hc3 := hc3.pickx [(0, .e (.c (.sl (some ad) nf cf))), (3, .e (.c (.bool true))), (4, .e (.c (.sl ap2 (List.length pre + (1 : Nat) + (1 : Nat)) cp2))), (5, .e (.c (.str want))), (6, .e (.c (.int .i64 ((↑(List.length pre) : Int))))), (7, .e (.c (.int .i64 0))), (38, .e (.c (.sl ap2 (List.length pre + (1 : Nat) + (1 : Nat)) cp2)))] [] [] (by kernel_rfl) (by kernel_rfl)
      have hn3 := (Over.lenv (New.refl w2) (by simp)).rel hc3.mem
      have hN3 := hN2.trans hn3
      have hc4 := hc3.anchor0 w0.heap.size [(0, .e (.c (.sl (some ad) nf cf))), (3, .e (.c (.bool true))), (4, .e (.c (.sl ap2 (pre.length + 1 + 1) cp2))), (5, .e (.c (.str want))), (6, .e (.c (.int .i64 (pre.length : Int)))), (7, .e (.c (.int .i64 ((([] : List ByteArray).length : Nat) : Int))))] [] [] ⟨rfl, rfl, rfl, rfl, rfl, rfl, trivial⟩
      refine gets_loop (k' := catsH2) (by kernel_rfl) ?_
      have hargs : sCat :: cats pre.length ++ [sF] = sCat :: cats (pre.length + 1) := by
        simp only [cats, List.cons_append, List.replicate_succ']
      rw [hargs] at hrow2
      refine cats_in w0 ad nf cf files hf pre.length (by omega) l hl h11 (pre.length + 1 + 1) (sCat :: cats (pre.length + 1)) (addAll want l) (fun hgood w5 a5 ap5 cp5 hN5 hrow5 hc5 => ?_) l [] rfl (fun _ h => by cases h) want w3 a3 ap2 cp2 (by simp only [List.length_cons] at hsz; omega) rfl hN3 (hrow2.fresh hn3) hc4
      have hpl : (pre ++ [l]).length = pre.length + 1 := by simp
      have hw5 := addAll_size l want (fun x hx => (hgood x hx).2)
      refine ih (pre ++ [l]) (by rw [hpre]; simp) (fun x hx => ?_) (addAll want l) w5 a5 ap5 cp5 (by simp only [List.length_cons] at hsz; omega) htot hN5 (by rw [hpl]; exact hrow5) (by rw [hpl]; exact hc5)
      rcases List.mem_append.1 hx with hx | hx
      · exact hg x hx
      · simp only [List.mem_singleton] at hx
        subst hx
        exact ⟨h11, hgood⟩
    · have h11' : decide ((n' : Int) > 10) = true := by rw [h4]; simp; omega
      refine gets_run tab_ok 90 (hc.feed [true, true] [.e (.c (.sl a' n' c'))]) (holds_of (obs := [fun _ => decide ((↑(List.length pre) : Int) < (↑nf : Int)) = true, fun _ => (0 : Int) ≤ (↑(List.length pre) : Int) ∧ (↑(List.length pre) : Int) < (↑nf : Int), fun ε => Env.ro ε (Addr.add ad (Int.toNat (↑(List.length pre) : Int) * (1 : Nat))) = some (C.real (Env.ρ ε) (C.sl a' n' c')), fun _ => decide ((↑n' : Int) > (10 : Int)) = true]) (by kernel_rfl) ⟨hlt, hin, (by assumption), h11', trivial⟩) (fun a1 w1 hc1 => ?_)
      replace hc1 := hc1.pickx [(0, .e (.c (.sl (some ad) nf cf))), (2, .e (.c (.bool true))), (3, .e (.c (.bool true))), (4, .e (.c (.sl ap (List.length pre + (1 : Nat)) cp))), (5, .e (.c (.str want))), (6, .e (.c (.int .i64 ((↑(List.length pre) : Int))))), (23, .e (.c (.int .i64 ((↑(List.length pre) : Int))))), (24, .e (.c (.sl (some ad) nf cf))), (25, .e (.c (.int .i64 ((↑nf : Int))))), (26, .e (.c (.bool true))), (29, .e (.c (.sl (some ad) nf cf))), (30, .e (.c (.int .i64 ((↑(List.length pre) : Int))))), (31, .e (.c (.rp (Addr.add ad (Int.toNat (↑(List.length pre) : Int) * (1 : Nat)))))), (32, .e (.c (.sl a' n' c'))), (33, .e (.c (.int .i64 ((↑n' : Int))))), (34, .e (.c (.bool true))), (35, .e (.c (.bool true)))] [] [] (by kernel_rfl) (by kernel_rfl)
      exact gets_fin tab_ok (l := [.c (.bool true)]) hc1 Tryz.func4 (by kernel_rfl) (by kernel_rfl) ⟨rfl, hN.trans ((Over.lenv (New.refl w) (by simp)).rel hc1.mem), trivial⟩

end Go.Proofs.YtoihipolfdhhnaaGreatDoor
