/-
  almonerref13.Digits: the decimal numeral.
-/
import Derived.Test.YtoihipolfdhhnaaGreatDoorLawB
import Derived.Laws.IdiomStrings
import Derived.Laws.Entries
import Derived.Lib.ItoaNum
namespace Go.Proofs.YtoihipolfdhhnaaGreatDoor

/-- An operation that touches no memory and whose value is known. -/
theorem gets_val {P : Program} {ε : Env} {nt : Nat} {f : FuncId} {k : List Item} {σ : St} {a : Act} {w : World} {R : Ending → World → Prop} {d : Nat} {op : Op} {ty : TypeId} (v : SV) (hc : CRel ε nt σ a w)
    (ho : opX k = some (some d, op, ty)) (hrun : ∀ pos after, (execOp a.eval ⟨some d, op, ty, pos, after, none⟩).run P w = .ok (.value (v.real ε.ρ)) w) (hd : Nat.blt d nt = true)
    (h : ∀ a', CRel ε nt { σ with tl := (d, v) :: σ.tl } a' w → Gets P f (popX k) a' w R) : Gets P f k a w R := by
  refine gets_opX ho hrun (h _ ⟨hc.tl.lay hc.size d hd v rfl, by rw [Act.put_size]; exact hc.size, by rw [Act.put_defers']; exact hc.defers, hc.mem⟩)

theorem run_byte {P : Program} {w : World} {a : Act} {src dst e : TypeId} {x : Operand} {g : Nat} {c : Nat} (hc : c < 256) (hx : a.eval x = .slice (some ⟨g, 0, none⟩) 1 1) (hs : P.underlying src = some (.slice e)) (he : P.underlying e = some (.int .u8)) (hd : P.underlying dst = some .string)
    (hcell : w.heap[g]? = some (.cells #[.int .u8 (c : Int)] e (0, 0))) (d : Option Nat) (ty : TypeId) : ∀ pos after,
    (execOp a.eval ⟨d, .convert src dst x, ty, pos, after, none⟩).run P w = .ok (.value (.string ⟨#[UInt8.ofNat c]⟩)) w := by
  intro pos after
  have hn : (UInt8.ofNat c).toNat = c := by simp; omega
  have := run_convert_bytes_back (P := P) w src dst e ⟨g, 0, none⟩ 1 [UInt8.ofNat c] hs he hd (fun j hj => by
    have : j = 0 := by simpa using hj
    subst this
    simp [World.cell?, hcell, hn, Addr.add])
  simp only [List.length_cons, List.length_nil, Nat.zero_add] at this
  simp [execOp, hx, this]

noncomputable def digHead : List Item := (loopX (run Tab Tryz.f17.ntmps 60 (match Tryz.f17.body with | some (.seq _ (.seq _ (.seq _ (.seq _ c)))) => [.code c] | _ => []) { tl := [(0, .e (.c (.int .i64 0))), (3, .e (.c (.int .u64 0)))], bs := [], orc := [false] }).1).getD []

/-- What Digits comes to. -/
abbrev DigR (w0 : World) (r : ByteArray) : Ending → World → Prop := Gives (.string r) (fun _ => True) w0

def sign (n : Int) : ByteArray := if n < 0 then ⟨#[45]⟩ else ⟨#[]⟩

theorem digs_step (u : Nat) (h : ¬ u ≤ 9) (s : ByteArray) : (⟨(Lib.decDigits (u / 10)).toArray⟩ : ByteArray) ++ (⟨#[UInt8.ofNat (48 + u % 10)]⟩ ++ s) = ⟨(Lib.decDigits u).toArray⟩ ++ s := by
  rw [Lib.decDigits.eq_def u, dif_neg (by omega), ← ByteArray.append_assoc]
  congr 1

theorem wrapu8 {c : Nat} (h : c < 256) : IntKind.u8.wrap (IntKind.u64.wrap (c : Int)) = (c : Int) := by
  simp only [IntKind.wrap, IntKind.bits, IntKind.signed]
  simp
  omega

theorem dig_exit (n : Int) (w0 : World) (u : Nat) (s : ByteArray) (w : World) (a : Act) (h9 : u ≤ 9) (hs : s.size ≤ 40) (hN : New w0 w) (hc : CRel (env0 ⟨0, []⟩ w) Tryz.f17.ntmps { tl := [(0, .e (.c (.int .i64 n))), (3, .e (.c (.int .u64 (u : Int)))), (4, .e (.c (.str s)))], bs := [] } a w) :
    Gets Tryz.prog 17 digHead a w (DigR w0 (sign n ++ (⟨(Lib.decDigits u).toArray⟩ ++ s))) := by
  have hcv : IntKind.u8.wrap (IntKind.u64.wrap (48 + (u : Int))) = ((48 + u : Nat) : Int) := by rw [← wrapu8 (c := 48 + u) (by omega)]; rfl
  refine gets_run tab_ok 60 (hc.feed [false] []) (holds_of (obs := [fun _ => decide ((↑u : Int) > (9 : Int)) = false]) (by kernel_rfl) ⟨(by simp; omega), trivial⟩) (fun a4 w4 hc4 => ?_)
  replace hc4 := hc4.pickx [(0, .e (.c (.int .i64 n))), (4, .e (.c (.str s))), (26, .e (.c (.nsl 0 0 1 1)))] [⟨5, [.int .u8 (IntKind.wrap IntKind.u8 (IntKind.wrap IntKind.u64 ((48 : Int) + (↑u : Int))))]⟩] [] (by kernel_rfl) (by kernel_rfl)
  refine gets_val (.e (.c (.str ⟨#[UInt8.ofNat (48 + u)]⟩))) hc4 (d := 27) (op := .convert 76 9 (.tmp 26)) (ty := 9) (by kernel_rfl) (run_byte (c := 48 + u) (by omega) (ev_ok (v := .e (.c (.nsl 0 0 1 1))) hc4.tl (x := .tmp 26) rfl) Tryz.underlying76 Tryz.underlying5 Tryz.underlying9 (by rw [← hcv]; exact hc4.mem.cells 0 _ rfl) _ _) (by kernel_rfl) (fun a5 hc5 => ?_)
  have hN5 := hN.trans ((Over.env w _).rel hc5.mem)
  have hlen : (⟨#[UInt8.ofNat (48 + u)]⟩ : ByteArray).size = 1 := rfl
  have hd : (⟨(Lib.decDigits u).toArray⟩ : ByteArray) = ⟨#[UInt8.ofNat (48 + u)]⟩ := by rw [Lib.decDigits.eq_def u, dif_pos (by omega)]
  rw [hd]
  have o1 : (((⟨#[UInt8.ofNat (48 + u)]⟩ : ByteArray).size + s.size : Nat) : Int) ≤ 9223372036854775807 := by rw [hlen]; omega
  have hov5 := Over.env w (sro ⟨0, []⟩ w)
  by_cases hn : n < 0
  · have o3 : (((⟨#[45]⟩ : ByteArray).size + (⟨#[UInt8.ofNat (48 + u)]⟩ ++ s : ByteArray).size : Nat) : Int) ≤ 9223372036854775807 := by
      have h1 : (⟨#[45]⟩ : ByteArray).size = 1 := rfl
      rw [ByteArray.size_append, h1, hlen]; omega
    refine gets_run tab_ok 60 (hc5.feed [true] []) (holds_of (obs := [fun _ => (↑(ByteArray.size { data := #[UInt8.ofNat ((48 : Nat) + u)] } + ByteArray.size s) : Int) ≤ (9223372036854775807 : Int), fun _ => decide (n < (0 : Int)) = true, fun _ => (↑(ByteArray.size { data := #[(45 : UInt8)] } + ByteArray.size ({ data := #[UInt8.ofNat ((48 : Nat) + u)] } ++ s)) : Int) ≤ (9223372036854775807 : Int)]) (by kernel_rfl) ⟨o1, (by simp; omega), o3, trivial⟩) (fun a7 w7 hc7 => ?_)
    replace hc7 := hc7.pickx [(2, .e (.c (.str ({ data := #[(45 : UInt8)] } ++ ({ data := #[UInt8.ofNat ((48 : Nat) + u)] } ++ s)))))] [⟨5, [.int .u8 (IntKind.wrap IntKind.u8 (IntKind.wrap IntKind.u64 ((48 : Int) + (↑u : Int))))]⟩] [] (by kernel_rfl) (by kernel_rfl)
    refine gets_fin tab_ok (l := [.c (.str (⟨#[45]⟩ ++ (⟨#[UInt8.ofNat (48 + u)]⟩ ++ s)))]) hc7 Tryz.func17 (by kernel_rfl) (by kernel_rfl) ⟨?_, hN.trans (hov5.rel hc7.mem), trivial⟩
    have hsg : sign n = ⟨#[45]⟩ := if_pos hn
    rw [hsg]; rfl
  · refine gets_run tab_ok 60 (hc5.feed [false] []) (holds_of (obs := [fun _ => (↑(ByteArray.size { data := #[UInt8.ofNat ((48 : Nat) + u)] } + ByteArray.size s) : Int) ≤ (9223372036854775807 : Int), fun _ => decide (n < (0 : Int)) = false]) (by kernel_rfl) ⟨o1, (by simp; omega), trivial⟩) (fun a7 w7 hc7 => ?_)
    replace hc7 := hc7.pickx [(2, .e (.c (.str ({ data := #[UInt8.ofNat ((48 : Nat) + u)] } ++ s))))] [⟨5, [.int .u8 (IntKind.wrap IntKind.u8 (IntKind.wrap IntKind.u64 ((48 : Int) + (↑u : Int))))]⟩] [] (by kernel_rfl) (by kernel_rfl)
    refine gets_fin tab_ok (l := [.c (.str (⟨#[UInt8.ofNat (48 + u)]⟩ ++ s))]) hc7 Tryz.func17 (by kernel_rfl) (by kernel_rfl) ⟨?_, hN.trans (hov5.rel hc7.mem), trivial⟩
    have hsg : sign n = ⟨#[]⟩ := if_neg hn
    have he : (⟨#[]⟩ : ByteArray) ++ (⟨#[UInt8.ofNat (48 + u)]⟩ ++ s) = ⟨#[UInt8.ofNat (48 + u)]⟩ ++ s := ByteArray.empty_append
    rw [hsg, he]; rfl

theorem quo10 {u : Nat} (hu : u < 18446744073709551616) : IntKind.u64.wrap ((u : Int).tdiv 10) = ((u / 10 : Nat) : Int) := by
  rw [Int.tdiv_eq_ediv_of_nonneg (by omega)]
  simp only [IntKind.wrap, IntKind.bits, IntKind.signed]
  simp
  omega

theorem rem10 (u : Nat) : (u : Int).tmod 10 = ((u % 10 : Nat) : Int) := by rw [Int.tmod_eq_emod_of_nonneg (by omega)]; omega

theorem dig_loop (n : Int) (w0 : World) : ∀ (k u : Nat) (s : ByteArray) (w : World) (a : Act), u < 10 ^ k → u < 18446744073709551616 → s.size + k ≤ 40 → New w0 w → CRel (env0 ⟨0, []⟩ w) Tryz.f17.ntmps { tl := [(0, .e (.c (.int .i64 n))), (3, .e (.c (.int .u64 (u : Int)))), (4, .e (.c (.str s)))], bs := [] } a w →
    Gets Tryz.prog 17 digHead a w (DigR w0 (sign n ++ (⟨(Lib.decDigits u).toArray⟩ ++ s))) := by
  intro k
  induction k with
  | zero => intro u s w a hu _ hs hN hc; exact dig_exit n w0 u s w a (by simp at hu; omega) (by omega) hN hc
  | succ k ih =>
    intro u s w a hu hu64 hs hN hc
    by_cases h9 : u ≤ 9
    · exact dig_exit n w0 u s w a h9 (by omega) hN hc
    · have hcv : IntKind.u8.wrap (IntKind.u64.wrap (48 + (u : Int).tmod 10)) = ((48 + u % 10 : Nat) : Int) := by rw [rem10, ← wrapu8 (c := 48 + u % 10) (by omega)]; rfl
      refine gets_run tab_ok 60 (hc.feed [true] []) (holds_of (obs := [fun _ => decide ((↑u : Int) > (9 : Int)) = true, fun _ => (10 : Int) ≠ (0 : Int)]) (by kernel_rfl) ⟨(by simp; omega), (by simp), trivial⟩) (fun a6 w6 hc6 => ?_)
      replace hc6 := hc6.pickx [(0, .e (.c (.int .i64 n))), (3, .e (.c (.int .u64 ((↑u : Int))))), (4, .e (.c (.str s))), (11, .e (.c (.int .u64 ((↑u : Int))))), (12, .e (.c (.bool true))), (13, .e (.c (.int .u64 ((↑u : Int))))), (14, .e (.c (.int .u64 (Int.tmod (↑u : Int) (10 : Int))))), (15, .e (.c (.int .u64 (IntKind.wrap IntKind.u64 ((48 : Int) + Int.tmod (↑u : Int) (10 : Int)))))), (16, .e (.c (.int .u8 (IntKind.wrap IntKind.u8 (IntKind.wrap IntKind.u64 ((48 : Int) + Int.tmod (↑u : Int) (10 : Int))))))), (17, .e (.c (.nsl 0 0 1 1)))] [⟨5, [.int .u8 (IntKind.wrap IntKind.u8 (IntKind.wrap IntKind.u64 ((48 : Int) + Int.tmod (↑u : Int) (10 : Int))))]⟩] [] (by kernel_rfl) (by kernel_rfl)
      refine gets_val (.e (.c (.str ⟨#[UInt8.ofNat (48 + u % 10)]⟩))) hc6 (d := 18) (op := .convert 76 9 (.tmp 17)) (ty := 9) (by kernel_rfl) (run_byte (c := 48 + u % 10) (by omega) (ev_ok (v := .e (.c (.nsl 0 0 1 1))) hc6.tl (x := .tmp 17) rfl) Tryz.underlying76 Tryz.underlying5 Tryz.underlying9 (by rw [← hcv]; exact hc6.mem.cells 0 _ rfl) _ _) (by kernel_rfl) (fun a7 hc7 => ?_)
      have hlen : (⟨#[UInt8.ofNat (48 + u % 10)]⟩ : ByteArray).size = 1 := rfl
      have o1 : (((⟨#[UInt8.ofNat (48 + u % 10)]⟩ : ByteArray).size + s.size : Nat) : Int) ≤ 9223372036854775807 := by rw [hlen]; omega
      refine gets_run tab_ok 10 hc7 (holds_of (obs := [fun _ => (↑(ByteArray.size { data := #[UInt8.ofNat ((48 : Nat) + u % (10 : Nat))] } + ByteArray.size s) : Int) ≤ (9223372036854775807 : Int), fun _ => (10 : Int) ≠ (0 : Int)]) (by kernel_rfl) ⟨o1, (by simp), trivial⟩) (fun a10 w10 hc10 => ?_)
      replace hc10 := hc10.pickx [(0, .e (.c (.int .i64 n))), (3, .e (.c (.int .u64 (IntKind.wrap IntKind.u64 (Int.tdiv (↑u : Int) (10 : Int)))))), (4, .e (.c (.str ({ data := #[UInt8.ofNat ((48 : Nat) + u % (10 : Nat))] } ++ s)))), (11, .e (.c (.int .u64 ((↑u : Int))))), (12, .e (.c (.bool true))), (13, .e (.c (.int .u64 ((↑u : Int))))), (14, .e (.c (.int .u64 (Int.tmod (↑u : Int) (10 : Int))))), (15, .e (.c (.int .u64 (IntKind.wrap IntKind.u64 ((48 : Int) + Int.tmod (↑u : Int) (10 : Int)))))), (16, .e (.c (.int .u8 (IntKind.wrap IntKind.u8 (IntKind.wrap IntKind.u64 ((48 : Int) + Int.tmod (↑u : Int) (10 : Int))))))), (17, .e (.c (.nsl 0 0 1 1))), (18, .e (.c (.str ({ data := #[UInt8.ofNat ((48 : Nat) + u % (10 : Nat))] })))), (19, .e (.c (.str s))), (20, .e (.c (.str ({ data := #[UInt8.ofNat ((48 : Nat) + u % (10 : Nat))] } ++ s)))), (21, .e (.c (.int .u64 ((↑u : Int))))), (22, .e (.c (.int .u64 (IntKind.wrap IntKind.u64 (Int.tdiv (↑u : Int) (10 : Int))))))] [⟨5, [.int .u8 (IntKind.wrap IntKind.u8 (IntKind.wrap IntKind.u64 ((48 : Int) + Int.tmod (↑u : Int) (10 : Int))))]⟩] [] (by kernel_rfl) (by kernel_rfl)
      have hN10 := hN.trans ((Over.env w _).rel hc10.mem)
      have hc11 := hc10.anew ⟨0, []⟩ [(0, .e (.c (.int .i64 n))), (3, .e (.c (.int .u64 ((u / 10 : Nat) : Int)))), (4, .e (.c (.str (⟨#[UInt8.ofNat (48 + u % 10)]⟩ ++ s))))] [] [] ⟨rfl, by show some (Value.int .u64 (IntKind.u64.wrap ((u : Int).tdiv 10))) = _; rw [quo10 hu64]; rfl, rfl, trivial⟩
      have := ih (u / 10) (⟨#[UInt8.ofNat (48 + u % 10)]⟩ ++ s) w10 a10 (by rw [Nat.pow_succ] at hu; omega) (by omega) (by rw [ByteArray.size_append, hlen]; omega) hN10 hc11
      rw [digs_step u h9 s] at this
      exact gets_loop (k' := digHead) (by kernel_rfl) this

theorem dec_eq (n : Int) : dec n = sign n ++ (⟨(Lib.decDigits n.natAbs).toArray⟩ ++ ⟨#[]⟩) := by
  have he : ∀ s : ByteArray, s ++ ⟨#[]⟩ = s := fun s => ByteArray.append_empty
  rw [he]
  unfold dec sign Lib.itoa
  by_cases hn : n < 0
  · rw [if_pos hn, if_pos hn]
    apply ByteArray.ext
    simp
  · rw [if_neg hn, if_neg hn]
    have : n.toNat = n.natAbs := by omega
    rw [this]
    exact ByteArray.empty_append.symm

/-- almonerref13.Digits. -/
theorem digits_calls (n : Int) (h0 : -9223372036854775808 ≤ n) (h1 : n ≤ 9223372036854775807) (w : World) : Calls Tryz.prog 17 #[.int .i64 n] w (Gives (.string (dec n)) (fun _ => True) w) := by
  refine enter (B := ⟨0, []⟩) tab_ok [.e (.c (.int .i64 n))] [] [] 2 Tryz.func17 rfl rfl rfl (obs := []) (by kernel_rfl) trivial (fun a1 w1 hc1 => ?_)
  have hp10 : (10 : Nat) ^ 20 = 100000000000000000000 := by decide
  by_cases hn : n < 0
  · refine gets_run tab_ok 60 (hc1.feed [true] []) (holds_of (obs := [fun _ => decide (n < (0 : Int)) = true]) (by kernel_rfl) ⟨(by simp; omega), trivial⟩) (fun a6 w6 hc6 => ?_)
    replace hc6 := hc6.pickx [(0, .e (.c (.int .i64 n))), (2, .e (.c (.str ⟨#[]⟩))), (3, .e (.c (.int .u64 (IntKind.wrap IntKind.u64 (-IntKind.wrap IntKind.u64 n))))), (4, .e (.c (.str ⟨#[]⟩)))] [] [] (by kernel_rfl) (by kernel_rfl)
    have hv : IntKind.u64.wrap (-(IntKind.u64.wrap n)) = ((n.natAbs : Nat) : Int) := by
      simp only [IntKind.wrap, IntKind.bits, IntKind.signed]
      simp
      omega
    have hN6 := (Over.env w _).rel hc6.mem
    have hc7 := hc6.anew ⟨0, []⟩ [(0, .e (.c (.int .i64 n))), (3, .e (.c (.int .u64 ((n.natAbs : Nat) : Int)))), (4, .e (.c (.str ⟨#[]⟩)))] [] [] ⟨rfl, by show some (Value.int .u64 (IntKind.u64.wrap (-(IntKind.u64.wrap n)))) = _; rw [hv]; rfl, rfl, trivial⟩
    have := dig_loop n w 20 n.natAbs ⟨#[]⟩ w6 a6 (by rw [hp10]; omega) (by omega) (by decide) hN6 hc7
    rw [← dec_eq] at this
    exact gets_loop (k' := digHead) (by kernel_rfl) this
  · refine gets_run tab_ok 60 (hc1.feed [false] []) (holds_of (obs := [fun _ => decide (n < (0 : Int)) = false]) (by kernel_rfl) ⟨(by simp; omega), trivial⟩) (fun a4 w4 hc4 => ?_)
    replace hc4 := hc4.pickx [(0, .e (.c (.int .i64 n))), (2, .e (.c (.str ⟨#[]⟩))), (3, .e (.c (.int .u64 (IntKind.wrap IntKind.u64 n)))), (4, .e (.c (.str ⟨#[]⟩)))] [] [] (by kernel_rfl) (by kernel_rfl)
    have hv : IntKind.u64.wrap n = ((n.natAbs : Nat) : Int) := by
      simp only [IntKind.wrap, IntKind.bits, IntKind.signed]
      simp
      omega
    have hN4 := (Over.env w _).rel hc4.mem
    have hc5 := hc4.anew ⟨0, []⟩ [(0, .e (.c (.int .i64 n))), (3, .e (.c (.int .u64 ((n.natAbs : Nat) : Int)))), (4, .e (.c (.str ⟨#[]⟩)))] [] [] ⟨rfl, by show some (Value.int .u64 (IntKind.u64.wrap n)) = _; rw [hv]; rfl, rfl, trivial⟩
    have := dig_loop n w 20 n.natAbs ⟨#[]⟩ w4 a4 (by rw [hp10]; omega) (by omega) (by decide) hN4 hc5
    rw [← dec_eq] at this
    exact gets_loop (k' := digHead) (by kernel_rfl) this

end Go.Proofs.YtoihipolfdhhnaaGreatDoor
