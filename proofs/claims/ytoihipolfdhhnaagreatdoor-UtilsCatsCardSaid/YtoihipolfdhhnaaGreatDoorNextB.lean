/-
  Next: the loop.
-/
import Derived.Test.YtoihipolfdhhnaaGreatDoorNext
namespace Go.Proofs.YtoihipolfdhhnaaGreatDoor

/-- What the work of n steps needs; at its end there is a call. -/
def okTurn : Nat → M → Prop
  | 0, m => m.thn.isSome = true ∨ m.over = true
  | n + 1, m => match m.thn, m.over with
    | none, false => match m.todo.getLast? with
      | none => True
      | some k => okK k { m with todo := m.todo.dropLast } ∧ okTurn n (runK k { m with todo := m.todo.dropLast })
    | _, _ => True

theorem turn_halt {n : Nat} {m : M} (h : m.thn.isSome = true ∨ m.over = true) : turn n m = m := by
  cases n with
  | zero => rfl
  | succ n =>
    unfold turn
    split
    · rename_i h1 h2; rw [h1, h2] at h; simp at h
    · rfl

theorem MAt.notown {B : Bd} {w : World} {b : Nat} {m : M} {a : Option Addr} {n c : Nat} {th : Option (FuncId × Array Value)} {row : List (FuncId × Array Value)} (h : MAt B w b m a n c th row) {k : Nat} {x : Array Value} {T : TypeId}
    (hk : w.heap[k]? = some (.cells x T (0, 0))) (h1 : T ≠ 66) (h2 : T ≠ 84) : ¬ Own w b k := by
  intro ho
  rcases (h.own k).1 ho with rfl | rfl
  · rw [h.cells] at hk; simp only [Option.some.injEq, Obj.cells.injEq] at hk; exact h1 hk.2.1.symm
  · obtain ⟨_, h3⟩ := h.owns
    rcases h3 with ⟨h3, _⟩ | ⟨g, cap, cur, h3, h4, h5, _⟩
    · cases h3
    · simp only [Value.slice.injEq, Option.some.injEq, Addr.mk.injEq] at h3
      obtain ⟨⟨rfl, _⟩, _, _⟩ := h3
      rw [hk] at h5; simp only [Option.some.injEq, Obj.cells.injEq] at h5; exact h2 h5.2.1

theorem head_does {B : Bd} {b kr : Nat} {w0 w w1 : World} {m1 m2 : M} {a1 : Act} {σ : St} {k : List Item} {c : CallX} {R : Ending → World → Prop} (d : Nat) (hc : CRel (env2 b kr w) Tryz.f25.ntmps σ a1 w1) (hx : callX k σ = some c) (he : enters Tryz.prog c.fn = true) (hd : dstX k = some d)
    (hd0 : d ≠ 0) (hd4 : d ≠ 4) (h0 : lk 0 σ.tl = some (.e (.c (.p 0 0)))) (h4 : lk 4 σ.tl = some (.e (.c (.p 1 0)))) (hb1 : σ.bs[1]? = some ⟨39, zc⟩) (hm1 : MOk B w1 b m1) (hE : Evo w0 b w1) (hnew : w0.heap.size ≤ kr) (hbase : B ≤ kr)
    (hcall : Calls Tryz.prog c.fn (c.real (env2 b kr w).ρ) w1 (Does B b w1 m2)) (h : ∀ a2 w2, Head B b kr w0 m2 w2 a2 → Gets Tryz.prog 25 (popX k) a2 w2 R) : Gets Tryz.prog 25 k a1 w1 R := by
  refine gets_call hc hx he hcall (fun e w2 ⟨e1, e2, e3⟩ => ⟨_, e1, ?_⟩)
  rw [hd]
  have hk1 : w1.heap[kr]? = some (.cells (plainR zc) 39 (0, 0)) := by
    have := hc.mem.cells 1 _ hb1
    rw [map_plain _ rfl] at this
    exact this
  refine h _ w2 ⟨by rw [Act.put_size]; exact hc.size, by rw [Act.put_defers']; exact hc.defers, ?_, ?_, e2, ?_, hE.trans e3, hnew, hbase⟩
  · show (a1.tmps.setIfInBounds d _)[0]? = _
    rw [Array.getElem?_setIfInBounds_ne hd0, hc.tl 0 _ h0]; rfl
  · show (a1.tmps.setIfInBounds d _)[4]? = _
    rw [Array.getElem?_setIfInBounds_ne hd4, hc.tl 4 _ h4]; rfl
  · obtain ⟨_, _, _, _, _, hM⟩ := hm1
    rw [e3.block kr (lt_of_block hk1) (hM.notown hk1 (by decide) (by decide))]
    exact hk1

/-- The machine has a call or is over: from here to the end. -/
theorem head_fin {B : Bd} {b kr : Nat} {w0 : World} {m : M} {w : World} {a : Act} {k : List Item} (h : Head B b kr w0 m w a) {ap : Option Addr} {n c : Nat} {th : Option (FuncId × Array Value)} {row : List (FuncId × Array Value)} (hM : MAt B w b m ap n c th row)
    (e1 : (run Tab Tryz.f25.ntmps 60 k { tl := [(0, .e (.c (.p 0 0))), (4, .e (.c (.p 1 0)))], bs := [⟨66, mcells m.prog m.status ap n c (thnC th) m.call m.over⟩, ⟨39, zc⟩] }).2.ob = [])
    (e2 : (run Tab Tryz.f25.ntmps 60 k { tl := [(0, .e (.c (.p 0 0))), (4, .e (.c (.p 1 0)))], bs := [⟨66, mcells m.prog m.status ap n c (thnC th) m.call m.over⟩, ⟨39, zc⟩] }).2.bs = [⟨66, mcells m.prog m.status ap n c (thnC th) m.call m.over⟩, ⟨39, m.call.cs⟩])
    (e3 : isFin (run Tab Tryz.f25.ntmps 60 k { tl := [(0, .e (.c (.p 0 0))), (4, .e (.c (.p 1 0)))], bs := [⟨66, mcells m.prog m.status ap n c (thnC th) m.call m.over⟩, ⟨39, zc⟩] }).1 = true)
    (e4 : resXs Tab (run Tab Tryz.f25.ntmps 60 k { tl := [(0, .e (.c (.p 0 0))), (4, .e (.c (.p 1 0)))], bs := [⟨66, mcells m.prog m.status ap n c (thnC th) m.call m.over⟩, ⟨39, zc⟩] }).2 Tryz.f25.results.toList = some [.a m.call.cs]) :
    Gets Tryz.prog 25 k a w (NextR B b w0 m) := by
  refine gets_run tab_ok 60 (h.crel hM [] []) (holds_of e1 trivial) (fun a1 w1 hc1 => ?_)
  have hr := hc1.mem.bs e2
  obtain ⟨h1, h2, _⟩ := after2 (m' := m) (th' := th) (row' := row) (ex := []) hM h.evo h.new h.base h.blk hr rfl (by simp) hM.len hM.todo (fun w2 hk => thn_keep hM.thn hk)
  exact gets_fin tab_ok hc1 Tryz.func25 e3 e4 ⟨rfl, ⟨_, _, _, _, _, h1⟩, h2⟩

theorem stepV_get (l : List (FuncId × Array Value)) (x : FuncId × Array Value) (j : Nat) (hj : j < 2) : ((l ++ [x]).flatMap stepV)[l.length * 2 + j]? = (stepV x)[j]? := by
  have hlen : ∀ l : List (FuncId × Array Value), (l.flatMap stepV).length = l.length * 2 := by
    intro l
    induction l with
    | nil => rfl
    | cons y l ih => simp only [List.flatMap_cons, List.length_append, ih, List.length_cons, stepV, List.length_nil]; omega
  rw [List.flatMap_append, List.getElem?_append_right (by rw [hlen]; omega), hlen]
  simp

theorem wrap_small {n : Int} (h0 : 0 ≤ n) (h1 : n ≤ 9223372036854775807) : IntKind.i64.wrap n = n := by
  simp only [IntKind.wrap, IntKind.bits, IntKind.signed]
  simp
  omega

theorem head_step {B : Bd} {b kr : Nat} {w0 : World} {m : M} {w : World} {a : Act} (h : Head B b kr w0 m w a) (hth : m.thn = none) (hov : m.over = false) (todo : List Fn) (k : Fn) (htd : m.todo = todo ++ [k]) (hok : okK k { m with todo := todo }) {R : Ending → World → Prop}
    (hnext : ∀ a2 w2, Head B b kr w0 (runK k { m with todo := todo }) w2 a2 → Gets Tryz.prog 25 nextHead a2 w2 R) : Gets Tryz.prog 25 nextHead a w R := by
  obtain ⟨ap, n, c, th, row, hM⟩ := h.ok
  obtain ⟨prog, status, todo0, thn, call, over⟩ := m
  simp only at hth hov htd
  subst hth hov htd
  have hthn := hM.thn
  cases th with
  | some x => exact hthn.elim
  | none =>
  obtain ⟨row', ⟨f, fc⟩, rfl, hrow', hk⟩ := All2.snoc hM.todo
  have hn := hM.len
  simp only [List.length_append, List.length_cons, List.length_nil, Nat.zero_add] at hn
  obtain ⟨ho1, ho2⟩ := hM.owns
  rcases ho2 with ⟨_, h4⟩ | ⟨g, cap, cur, h3, h4, h5, h6, h7, h8, h9⟩
  · omega
  simp only [Value.slice.injEq] at h3
  obtain ⟨rfl, _, rfl⟩ := h3
  have hmax : c ≤ 9223372036854775807 := Nat.le_trans h7 (by decide)
  have hL : IntKind.i64.wrap ((n : Int) - 1) = (row'.length : Int) := by rw [wrap_small (by omega) (by omega)]; omega
  have hgb : g ≠ b := by
    rintro rfl
    have h10 := hM.cells
    rw [h5] at h10
    simp only [Option.some.injEq, Obj.cells.injEq] at h10
    exact absurd h10.2.1 (by decide)
  have hgk : g ≠ kr := by
    rintro rfl
    have h10 := h.blk
    rw [h5] at h10
    simp only [Option.some.injEq, Obj.cells.injEq] at h10
    exact absurd h10.2.1 (by decide)
  have hcell : ∀ j x, ([.fv f fc, .bool false] : List C)[j]? = some x → (env2 b kr w).ro (((⟨g, 0, none⟩ : Addr).add ((IntKind.i64.wrap ((n : Int) - 1)).toNat * 2)).add j) = some (x.real (env2 b kr w).ρ) := by
    intro j x hj
    have hj2 : j < 2 := (List.getElem?_eq_some_iff.1 hj).1
    rw [hL]
    have ha : ((⟨g, 0, none⟩ : Addr).add ((row'.length : Int).toNat * 2)).add j = ⟨g, row'.length * 2 + j, none⟩ := by
      rw [addr_add, addr_add]; simp
    rw [ha]
    refine mro_of hgb hgk ?_
    have hg := stepV_get row' (f, fc) j hj2
    rw [← h9, List.getElem?_take_of_lt (by omega)] at hg
    have hcv : cur[row'.length * 2 + j]? = (stepV (f, fc))[j]? := by rw [← Array.getElem?_toList]; exact hg
    have hx : (stepV (f, fc))[j]? = some (x.real (env2 b kr w).ρ) := by
      match j, hj with
      | 0, hj => cases hj; rfl
      | 1, hj => cases hj; rfl
      | j + 2, hj => simp at hj
    simp [World.cell?, h5, hcv, hx]
  have o1 : decide (IntKind.i64.wrap ((n : Int) - 1) < 0) = false := by rw [hL]; simp
  have o2 : 0 ≤ IntKind.i64.wrap ((n : Int) - 1) ∧ IntKind.i64.wrap ((n : Int) - 1) < (n : Int) := by rw [hL]; omega
  have o3 : 0 ≤ IntKind.i64.wrap ((n : Int) - 1) ∧ IntKind.i64.wrap ((n : Int) - 1) ≤ (c : Int) := by rw [hL]; omega
  refine gets_run tab_ok 130 (h.crel hM [false, true] [.e (.a [.fv f fc, .bool false])]) (holds_of (obs := [fun _ => decide (IntKind.i64.wrap ((n : Int) - 1) < 0) = false, fun _ => 0 ≤ IntKind.i64.wrap ((n : Int) - 1) ∧ IntKind.i64.wrap ((n : Int) - 1) < (n : Int),
    fun ε => ∀ j x, ([.fv f fc, .bool false] : List C)[j]? = some x → ε.ro (((⟨g, 0, none⟩ : Addr).add ((IntKind.i64.wrap ((n : Int) - 1)).toNat * 2)).add j) = some (x.real ε.ρ), fun _ => (0 ≤ IntKind.i64.wrap ((n : Int) - 1) ∧ IntKind.i64.wrap ((n : Int) - 1) ≤ (c : Int)) ∧ True, fun _ => ((0 : Int) == 0) = true]) (by kernel_rfl)
    ⟨o1, o2, hcell, ⟨o3, trivial⟩, rfl, trivial⟩) (fun a1 w1 hc1 => ?_)
  have hbs : (run Tab Tryz.f25.ntmps 130 nextHead { tl := [(0, .e (.c (.p 0 0))), (4, .e (.c (.p 1 0)))], bs := [⟨66, mcells prog status (some ⟨g, 0, none⟩) n c (thnC none) call false⟩, ⟨39, zc⟩], orc := [false, true], ext := [.e (.a [.fv f fc, .bool false])] }).2.bs =
      [⟨66, mcells prog status (if c = 0 then some ⟨g, 0, none⟩ else (some ⟨g, 0, none⟩ : Option Addr).map (·.add (0 * 2))) ((IntKind.i64.wrap ((n : Int) - 1)).toNat - 0) (c - 0) (thnC none) call false⟩, ⟨39, zc⟩, ⟨84, [.fv f fc, .bool false]⟩] := by kernel_rfl
  have ha : (if c = 0 then some ⟨g, 0, none⟩ else (some ⟨g, 0, none⟩ : Option Addr).map (·.add (0 * 2))) = some ⟨g, 0, none⟩ := by
    split
    · rfl
    · simp [addr_add]
  have hr := hc1.mem.bs hbs
  rw [ha, hL, Nat.sub_zero, Nat.sub_zero, Int.toNat_natCast] at hr
  obtain ⟨h1, h2, hkp⟩ := after2 (m' := ⟨prog, status, todo, none, call, false⟩) (th' := none) (row' := row') (ex := [(f, fc)]) hM h.evo h.new h.base h.blk hr rfl rfl rfl hrow' (fun _ _ => trivial)
  have hKc := K_calls (B := B) (w := w1) (b := b) (m := ⟨prog, status, todo, none, call, false⟩) ⟨_, _, _, _, _, h1⟩ k f fc (hk.keep hkp) hok
  have hnext' : ∀ a2 w2, Head B b kr w0 (runK k ⟨prog, status, todo, none, call, false⟩) w2 a2 → Gets Tryz.prog 25 nextHead a2 w2 R := hnext
  clear hnext hok
  generalize runK k ⟨prog, status, todo, none, call, false⟩ = m2 at hKc hnext'
  refine head_does (m1 := ⟨prog, status, todo, none, call, false⟩) (m2 := m2) (c := ⟨f, [.c (.p 0 0)], [], fc⟩) 79 hc1 (by kernel_rfl) hk.enters (by kernel_rfl) (by decide) (by decide) (by kernel_rfl) (by kernel_rfl) (by kernel_rfl) ⟨_, _, _, _, _, h1⟩ h2 h.new h.base ?_ (fun a2 w2 h3 => ?_)
  · rw [callX_fv]
    exact hKc
  · obtain ⟨ap2, n2, c2, th2, row2, hM2⟩ := h3.ok
    refine gets_run tab_ok 20 (h3.crel hM2 [] []) (holds_of (obs := []) (by kernel_rfl) trivial) (fun a3 w3 hc3 => ?_)
    have hr3 := hc3.mem.bs (bs' := [⟨66, mcells m2.prog m2.status ap2 n2 c2 (thnC th2) m2.call m2.over⟩, ⟨39, zc⟩]) (by kernel_rfl)
    obtain ⟨g1, g2, _⟩ := after2 (m' := m2) (th' := th2) (row' := row2) (ex := []) hM2 h3.evo h3.new h3.base h3.blk hr3 rfl (by simp) hM2.len hM2.todo (fun w2 hk => thn_keep hM2.thn hk)
    refine gets_loop (k' := nextHead) (by kernel_rfl) (hnext' a3 w3 ⟨hc3.size, hc3.defers, hc3.tl 0 (.e (.c (.p 0 0))) (by kernel_rfl), hc3.tl 4 (.e (.c (.p 1 0))) (by kernel_rfl), ⟨_, _, _, _, _, g1⟩, ?_, g2, h.new, h.base⟩)
    have := hr3.cells 1 _ rfl
    rw [map_plain _ rfl] at this
    exact this

theorem head_empty {B : Bd} {b kr : Nat} {w0 : World} {m : M} {w : World} {a : Act} (h : Head B b kr w0 m w a) (hth : m.thn = none) (hov : m.over = false) (htd : m.todo = []) : Gets Tryz.prog 25 nextHead a w (NextR B b w0 (m.exit 0)) := by
  obtain ⟨ap, n, c, th, row, hM⟩ := h.ok
  obtain ⟨prog, status, todo0, thn, call, over⟩ := m
  simp only at hth hov htd
  subst hth hov htd
  have hthn := hM.thn
  cases th with
  | some x => exact hthn.elim
  | none =>
  have hrow : row = [] := by
    have := hM.todo.length
    simpa using this.symm
  subst hrow
  have hn : n = 0 := hM.len
  subst hn
  refine gets_run tab_ok 130 (h.crel hM [true] []) (holds_of (obs := [fun _ => decide (IntKind.i64.wrap (((0 : Nat) : Int) - 1) < 0) = true]) (by kernel_rfl) ⟨by show decide (IntKind.i64.wrap (((0 : Nat) : Int) - 1) < 0) = true; decide, trivial⟩) (fun a1 w1 hc1 => ?_)
  have hr := hc1.mem.bs (bs' := [⟨66, mcells prog status ap 0 c (thnC none) call false⟩, ⟨39, zc⟩]) (by kernel_rfl)
  obtain ⟨h1, h2, hkp⟩ := after2 (m' := ⟨prog, status, [], none, call, false⟩) (th' := none) (row' := []) (ex := []) hM h.evo h.new h.base h.blk hr rfl rfl rfl .nil (fun _ _ => trivial)
  refine head_does (m1 := ⟨prog, status, [], none, call, false⟩) (m2 := M.exit ⟨prog, status, [], none, call, false⟩ 0) (c := ⟨24, [.c (.p 0 0), .c (.int .i64 0)], [], #[]⟩) 50 hc1 (by kernel_rfl) (by kernel_rfl) (by kernel_rfl) (by decide) (by decide) (by kernel_rfl) (by kernel_rfl) (by kernel_rfl) ⟨_, _, _, _, _, h1⟩ h2 h.new h.base
    (exit_calls ⟨_, _, _, _, _, h1⟩ 0) (fun a2 w2 h3 => ?_)
  obtain ⟨ap2, n2, c2, th2, row2, hM2⟩ := h3.ok
  exact head_fin h3 hM2 (by kernel_rfl) (by kernel_rfl) (by kernel_rfl) (by kernel_rfl)

theorem head_loop {B : Bd} {b kr : Nat} {w0 : World} : ∀ (N : Nat) (m : M) (w : World) (a : Act), Head B b kr w0 m w a → okTurn N m → Gets Tryz.prog 25 nextHead a w (NextR B b w0 (turn N m)) := by
  intro N
  induction N with
  | zero => intro m w a h hok; exact head_halt h hok
  | succ N ih =>
    intro m w a h hok
    by_cases hh : m.thn.isSome = true ∨ m.over = true
    · rw [turn_halt hh]; exact head_halt h hh
    · have hth : m.thn = none := by cases hx : m.thn <;> simp_all
      have hov : m.over = false := by cases hx : m.over <;> simp_all
      obtain ⟨prog, status, todo, thn, call, over⟩ := m
      simp only at hth hov
      subst hth hov
      unfold okTurn at hok
      unfold turn
      simp only at hok ⊢
      cases hl : todo.getLast? with
      | none =>
        simp only [hl] at hok ⊢
        exact head_empty h rfl rfl (List.getLast?_eq_none_iff.1 hl)
      | some k =>
        simp only [hl] at hok ⊢
        have htd : todo = todo.dropLast ++ [k] := by
          obtain ⟨ys, hys⟩ := List.getLast?_eq_some_iff.1 hl
          rw [hys]; simp
        exact head_step h rfl rfl _ k htd hok.1 (fun a2 w2 h2 => ih _ w2 a2 h2 hok.2)

end Go.Proofs.YtoihipolfdhhnaaGreatDoor
