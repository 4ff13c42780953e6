/-
  Vm: which append; copies; the least of two; rows that are made; texts and their bytes; texts ranged over.
-/
import Derived.Test.YtoihipolfdhhnaaGreatDoorVJ2
import Derived.Laws.IdiomStrings
namespace Go.Proofs.YtoihipolfdhhnaaGreatDoor.Vm

section
variable {P : Program} {sf : SF} {g : List Nat} {o : Oper}

/-- With what is known of a type. -/
noncomputable def wTi (P : Program) (t : TypeId) (f : TI → Opc) : Opc :=
  match tiOf P t with
  | some ti => f ti
  | none => opNo

theorem wTi_ok {t : TypeId} {f : TI → Opc} (h : ∀ ti, tiOf P t = some ti → OpOk P sf g o (f ti)) : OpOk P sf g o (wTi P t f) := by
  unfold wTi
  split
  · rename_i ti ht; exact h ti ht
  · exact opNo_ok

noncomputable def cApp (P : Program) (sf : SF) (g : List Nat) (x y : Operand) (t u : TypeId) : Opc :=
  wTi P t fun ti => match ti.und with
    | .slice e => wTi P e fun tj => if 0 < tj.size then wTi P u fun tu => match tu.und with
        | .string => if tj.size = 1 then oApp e tj (cOpd sf g x) (srcStr sf.th (cOpd sf g y)) else opNo
        | .slice _ => oApp e tj (cOpd sf g x) (srcSl tj.size (cOpd sf g y))
        | _ => opNo
      else opNo
    | _ => opNo

theorem cApp_ok {x y : Operand} {t u : TypeId} (ho : o.op = .call ⟨.builtin .append, ⟨[x, y]⟩, ⟨[t, u]⟩⟩) : OpOk P sf g o (cApp P sf g x y t u) := by
  refine wTi_ok fun ti ht => ?_
  split
  · rename_i e hti
    refine wTi_ok fun tj hj => ?_
    split
    · rename_i hsz
      refine wTi_ok fun tu hu => ?_
      split
      · rename_i hut
        split
        · rename_i h1
          exact oApp_ok ho ht hti hu (.inl hut) hj hsz (cOpd_ok sf g x) (by rw [h1]; exact srcStr_ok (cOpd_ok sf g y))
        · exact opNo_ok
      · rename_i e' hut
        exact oApp_ok ho ht hti hu (.inr ⟨e', hut⟩) hj hsz (cOpd_ok sf g x) (srcSl_ok tj.size (cOpd_ok sf g y))
      · exact opNo_ok
    · exact opNo_ok
  · exact opNo_ok

/- COPIES -/

noncomputable def oCopy (tj : TI) (ax : Acc) (s : Src) : Opc :=
  ⟨fun st vs m k => ax.g st vs fun c => s.f st vs m fun l n => c.onSl fun b q dn _ _ => onB (Nat.ble n dn) (onB (Nat.beq n 0) (k (.int .i64 18446744073709551616) m)
    (onBlk (m.at b) fun ty nn cs fz wr => onB wr (onB (Nat.ble fz q) (onB (Nat.ble (Nat.add q (Nat.mul n tj.size)) nn) (k (.int .i64 (Nat.add n 18446744073709551616)) (m.put b (.cells ty nn (spliceR cs q (Nat.mul n tj.size) nn l) fz true))) none) none) none)) none⟩

theorem oCopy_ok {t u e : TypeId} {x y : Operand} {ti tj : TI} {ax : Acc} {s : Src} (ho : o.op = .call ⟨.builtin .copy, #[x, y], #[t, u]⟩) (ht : tiOf P t = some ti) (hti : ti.und = .slice e) (hj : tiOf P e = some tj) (hx : AccOk sf g x ax) (hs : SrcOk P sf g y tj.size s) : OpOk P sf g o (oCopy tj ax s) := by
  intro st vs m k r h
  have htt := (tiOf_ok ht).und
  rw [hti] at htt
  have hokj := tiOf_ok hj
  obtain ⟨c, h1, h2⟩ := hx _ _ _ _ h
  obtain ⟨l, n, h3, h4⟩ := hs _ _ _ _ _ h1
  obtain ⟨b, q, dn, cu, cp, rfl, h5⟩ := C.onSl_inv h3
  obtain ⟨h6, h7⟩ := onB_inv h5
  have hmin : Nat.min n dn = n := Nat.min_eq_left (ble_le h6)
  rcases onB_cases h7 with ⟨h8, h9⟩ | ⟨_, h9⟩
  · have e0 := Nat.eq_of_beq_eq_true h8
    subst e0
    refine ⟨_, _, h9, rfl, fun wb ε a w hs' hm => ?_⟩
    obtain ⟨z, z1, z2, z3⟩ := real_sl (h2 ε a hs')
    obtain ⟨f1, f2, f3, ln, f4, f5⟩ := h4 wb ε a w hs' hm
    have hln : ln = [] := by
      have := reals_length f4
      rw [f1] at this
      simpa using this
    subst hln
    have f5' := f5 w.drawn
    have f5'' : (Builtin.firstCells tj.size 0 (a.eval y)).run P w = .ok #[] w := f5'
    refine ⟨ε, .int .i64 0, w, Ev.le.refl ε, by simp [C.real, toI_B], hm, .inl ?_⟩
    simp [execOp, ho, resolve, invoke, builtin, Builtin.copy_, run_underlying htt, z3, f3 w, hmin, hokj.run_size, f5'', storeCells, goInt]
  · obtain ⟨ty, nn, cs, fz, wr, h10, h11⟩ := onBlk_inv h9
    obtain ⟨rfl, h12⟩ := onB_inv h11
    obtain ⟨h13, h14⟩ := onB_inv h12
    obtain ⟨h15, h16⟩ := onB_inv h14
    refine ⟨_, _, h16, rfl, fun wb ε a w hs' hm => ?_⟩
    obtain ⟨z, z1, z2, z3⟩ := real_sl (h2 ε a hs')
    obtain ⟨f1, f2, f3, ln, f4, f5⟩ := h4 wb ε a w hs' hm
    obtain ⟨q1, _⟩ := hm.row z1 h10
    have hnn : q + n * tj.size ≤ nn := ble_le h15
    obtain ⟨w', s1, s2⟩ := hm.write (P := P) z1 h10 (q := q) f4 f2 (by omega) (ble_le h13)
    have he : spliceR cs q (Nat.mul n tj.size) nn l = splice cs q l := spliceR_eq q1 f1.symm (by simp only [nmul]; omega)
    rw [he]
    have f5' : (Builtin.firstCells tj.size n (a.eval y)).run P w = .ok ln.toArray w := f5 w.drawn
    refine ⟨ε, _, w', Ev.le.refl ε, rfl, s2, .inl ?_⟩
    simp [execOp, ho, resolve, invoke, builtin, Builtin.copy_, run_underlying htt, z3, f3 w, hmin, hokj.run_size, f5', s1, goInt, toI_up]

noncomputable def cCopy (P : Program) (sf : SF) (g : List Nat) (x y : Operand) (t u : TypeId) : Opc :=
  wTi P t fun ti => match ti.und with
    | .slice e => wTi P e fun tj => wTi P u fun tu => match tu.und with
        | .string => if tj.size = 1 then oCopy tj (cOpd sf g x) (srcStr sf.th (cOpd sf g y)) else opNo
        | .slice _ => oCopy tj (cOpd sf g x) (srcSl tj.size (cOpd sf g y))
        | _ => opNo
    | _ => opNo

theorem cCopy_ok {x y : Operand} {t u : TypeId} (ho : o.op = .call ⟨.builtin .copy, ⟨[x, y]⟩, ⟨[t, u]⟩⟩) : OpOk P sf g o (cCopy P sf g x y t u) := by
  refine wTi_ok fun ti ht => ?_
  split
  · rename_i e hti
    refine wTi_ok fun tj hj => wTi_ok fun tu hu => ?_
    split
    · split
      · rename_i h1
        exact oCopy_ok ho ht hti hj (cOpd_ok sf g x) (by rw [h1]; exact srcStr_ok (cOpd_ok sf g y))
      · exact opNo_ok
    · exact oCopy_ok ho ht hti hj (cOpd_ok sf g x) (srcSl_ok tj.size (cOpd_ok sf g y))
    · exact opNo_ok
  · exact opNo_ok

/- THE LEAST, THE GREATEST OF TWO -/

noncomputable def oMin (kd : IntKind) (mx : Bool) (ax ay : Acc) : Opc :=
  ⟨fun st vs m k => ax.g st vs fun u => ay.g st vs fun v => u.onInt fun k1 a => onB (isK kd k1) (v.onInt fun k2 b => onB (isK kd k2) (k (.int kd (onB (onB mx (Nat.blt a b) (Nat.blt b a)) b a)) m) none) none⟩

noncomputable def cMin (P : Program) (sf : SF) (g : List Nat) (mx : Bool) (x y : Operand) (t : TypeId) : Opc :=
  wTi P t fun ti => match ti.und with
    | .int kd => oMin kd mx (cOpd sf g x) (cOpd sf g y)
    | _ => opNo

theorem cMin_ok {mx : Bool} {x y : Operand} {t t' : TypeId} (ho : (mx = false ∧ o.op = .call ⟨.builtin .min, ⟨[x, y]⟩, ⟨[t, t']⟩⟩) ∨ (mx = true ∧ o.op = .call ⟨.builtin .max, ⟨[x, y]⟩, ⟨[t, t']⟩⟩)) : OpOk P sf g o (cMin P sf g mx x y t) := by
  refine wTi_ok fun ti ht => ?_
  split
  · rename_i kd hu
    refine FreeOk.op fun st vs m k r h => ?_
    obtain ⟨u, h1, h2⟩ := cOpd_ok sf g x _ _ _ _ h
    obtain ⟨v, h3, h4⟩ := cOpd_ok sf g y _ _ _ _ h1
    obtain ⟨k1, p, rfl, h5⟩ := C.onInt_inv h3
    obtain ⟨h6, h7⟩ := onB_inv h5
    have := isK_eq h6
    subst this
    obtain ⟨k2, q, rfl, h8⟩ := C.onInt_inv h7
    obtain ⟨h9, h10⟩ := onB_inv h8
    have := isK_eq h9
    subst this
    refine ⟨_, h10, fun ε a w hs => ⟨_, rfl, ?_⟩⟩
    have r1 := h2 ε a hs
    have r2 := h4 ε a hs
    simp only [C.real, Option.some.injEq] at r1 r2
    have hlt : ∀ a b : Nat, (toI a < toI b) ↔ Nat.blt a b = true := fun a b => by rw [Nat.blt_eq]; simp only [toI]; omega
    rcases ho with ⟨rfl, ho⟩ | ⟨rfl, ho⟩
    · have e : toI (onB (onB false (Nat.blt p q) (Nat.blt q p)) q p) = if toI q < toI p then toI q else toI p := by
        by_cases hc : toI q < toI p
        · rw [if_pos hc]; have := (hlt q p).1 hc; show toI (onB (Nat.blt q p) q p) = _; rw [this]; rfl
        · rw [if_neg hc]
          have : Nat.blt q p = false := by cases hb : Nat.blt q p with
            | false => rfl
            | true => exact absurd ((hlt q p).2 hb) hc
          show toI (onB (Nat.blt q p) q p) = _; rw [this]; rfl
      simp only [C.real, e]
      simp [execOp, ho, resolve, invoke, builtin, Builtin.min_, Builtin.min2, ← r1, ← r2]
    · have e : toI (onB (onB true (Nat.blt p q) (Nat.blt q p)) q p) = if toI q > toI p then toI q else toI p := by
        by_cases hc : toI p < toI q
        · rw [if_pos hc]; have := (hlt p q).1 hc; show toI (onB (Nat.blt p q) q p) = _; rw [this]; rfl
        · rw [if_neg (by exact hc)]
          have : Nat.blt p q = false := by cases hb : Nat.blt p q with
            | false => rfl
            | true => exact absurd ((hlt p q).2 hb) hc
          show toI (onB (Nat.blt p q) q p) = _; rw [this]; rfl
      simp only [C.real, e]
      simp [execOp, ho, resolve, invoke, builtin, Builtin.max_, Builtin.max2, ← r1, ← r2]
  · exact opNo_ok

/- ROWS THAT ARE MADE -/

noncomputable def oMake (θ : List (Int × Int)) (e : TypeId) (tj : TI) (al ac : Acc) : Opc :=
  ⟨fun st vs m k => al.g st vs fun u => ac.g st vs fun v => u.idx θ fun _ l => v.idx θ fun _ c =>
    onB (Nat.ble 18446744073709551616 l) (onB (Nat.ble l c) (onB (Nat.ble c 18446744073710600192) (onB (Nat.ble (Nat.mul tj.bytes (Nat.sub c 18446744073709551616)) 281474976710656) (onB (Nat.blt m.nx 65536)
      (k (.sl m.nx 0 (Nat.sub l 18446744073709551616) false (Nat.sub c 18446744073709551616)) (m.add (.cells e (Nat.mul (Nat.sub c 18446744073709551616) tj.size) (zerosL tj.zero (Nat.sub c 18446744073709551616)) 0 true))) none) none) none) none) none⟩

theorem run_make {t e : TypeId} {ti tj : TI} {w : World} (ht : TIok P t ti) (hti : ti.und = .slice e) (hj : TIok P e tj) {k1 k2 : IntKind} {l c : Nat} (h1 : l ≤ c) (h2 : c ≤ 1048576) (h3 : tj.bytes * c ≤ 281474976710656) (ε : Ev) :
    ∃ zs, C.reals ε tj.zero = some zs ∧ (Instr.makeSlice t (.int k1 (l : Int)) (.int k2 (c : Int))).run P w = .ok (.slice (some ⟨w.heap.size, 0, none⟩) l c) (w.alloc (.cells (rep zs c).toArray e)) := by
  obtain ⟨z, hz, hzr⟩ := hj.run_zero w ε
  obtain ⟨i, hi, hs, hby, _⟩ := hj.info
  have htt := ht.und
  rw [hti] at htt
  refine ⟨_, hzr, ?_⟩
  have hw : ∀ n : Nat, n ≤ 1048576 → IntKind.i64.wrap (n : Int) = (n : Int) := fun n hn => by
    simp only [IntKind.wrap, IntKind.bits, IntKind.signed]; simp; omega
  have hsz := hj.run_size w
  have hzl : z.cells.toList.length = tj.size := by rw [reals_length hzr, hj.len]
  have hb1 : ¬ (281474976710656 < (i.bytes : Int) * (c : Int)) := by
    rw [hby, ← Int.natCast_mul]; omega
  have hrr := range_rep z.cells.toList c
  rw [hzl] at hrr
  have hzc : z.cells.toList.toArray = z.cells := by simp
  rw [hzc] at hrr
  have n1 : ¬ ((l : Int) < 0) := by omega
  have n2 : ¬ ((c : Int) < (l : Int)) := by omega
  have n4 : ¬ (c < l) := by omega
  have n3 : ¬ ((c : Int) < 0) := by omega
  by_cases h0 : c * tj.size = 0
  · have hr0 : rep z.cells.toList c = [] := List.length_eq_zero_iff.1 (by rw [rep_length, hzl]; exact h0)
    have e0 : ∀ f : Nat → Value, (Array.range 0).map f = #[] := fun f => by apply Array.ext'; simp
    simp [Instr.makeSlice, run_underlying htt, asInt, asIntOf, run_typeInfo' hi, hw l (by omega), hw c h2, hb1, n1, n2, n3, n4, hsz, h0, newRow, hr0, e0]

  · simp [Instr.makeSlice, run_underlying htt, asInt, asIntOf, run_typeInfo' hi, hw l (by omega), hw c h2, hb1, n1, n2, n3, n4, hsz, h0, newRow, hz, hrr]


theorem make_le {c : Nat} (h : c ≤ 18446744073710600192) : c - 18446744073709551616 ≤ 1048576 := by omega

theorem oMake_ok {t e : TypeId} {x y : Operand} {ti tj : TI} {al ac : Acc} (ho : o.op = .makeSlice t x y) (ht : tiOf P t = some ti) (hti : ti.und = .slice e) (hj : tiOf P e = some tj) (hx : AccOk sf g x al) (hy : AccOk sf g y ac) : OpOk P sf g o (oMake sf.th e tj al ac) := by
  intro st vs m k r h
  have hok := tiOf_ok hj
  obtain ⟨u, h1, h2⟩ := hx _ _ _ _ h
  obtain ⟨v, h3, h4⟩ := hy _ _ _ _ h1
  obtain ⟨k1, l, h5, h6⟩ := C.idx_inv h3
  obtain ⟨k2, c, h7, h8⟩ := C.idx_inv h5
  simp only [nsub, nmul] at h7
  obtain ⟨h9, h10⟩ := onB_inv h7
  obtain ⟨h11, h12⟩ := onB_inv h10
  obtain ⟨h13, h14⟩ := onB_inv h12
  obtain ⟨h15, h16⟩ := onB_inv h14
  obtain ⟨h17, h18⟩ := onB_inv h16
  refine ⟨_, _, h18, rfl, fun wb ε a w hs hm => ?_⟩
  have b1 := ble_le h9
  have b2 := ble_le h11
  have b3 := ble_le h13
  have r1 := h6 ε hs.th
  have r2 := h8 ε hs.th
  rw [h2 ε a hs, Option.some.injEq, toI_nn b1] at r1
  rw [h4 ε a hs, Option.some.injEq, toI_nn (by omega)] at r2
  have b4 := ble_le h15
  have b5 : l - 18446744073709551616 ≤ c - 18446744073709551616 := by omega
  have b6 : c - 18446744073709551616 ≤ 1048576 := make_le b3
  obtain ⟨l', hl'⟩ : ∃ l' : Nat, l - 18446744073709551616 = l' := ⟨_, rfl⟩
  obtain ⟨c', hc'⟩ : ∃ c' : Nat, c - 18446744073709551616 = c' := ⟨_, rfl⟩
  rw [hl'] at r1 b5
  rw [hc'] at r2 b4 b5 b6
  rw [hl', hc']
  obtain ⟨zs, z1, z2⟩ := run_make (P := P) (w := w) (tiOf_ok ht) hti hok (k1 := k1) (k2 := k2) b5 b6 b4 ε
  have hzl : (zerosL tj.zero c').length = c' * tj.size := by rw [zerosL_length, hok.len]
  have hnew := hm.new (blt_lt h17) e (zerosL_reals z1 c') (zerosL_all hok.cell c') (n := c' * tj.size) hzl.symm
  refine ⟨_, _, _, hm.with_le _, by simp only [C.real, Ev.with_at, Option.bind_some, capOf, Bool.false_eq_true, if_false]; rw [if_pos b5], hnew, .inl ?_⟩
  simp [execOp, ho, r1, r2, z2]

noncomputable def cMake (P : Program) (sf : SF) (g : List Nat) (t : TypeId) (x y : Operand) : Opc :=
  wTi P t fun ti => match ti.und with
    | .slice e => wTi P e fun tj => oMake sf.th e tj (cOpd sf g x) (cOpd sf g y)
    | _ => opNo

theorem cMake_ok {t : TypeId} {x y : Operand} (ho : o.op = .makeSlice t x y) : OpOk P sf g o (cMake P sf g t x y) := by
  refine wTi_ok fun ti ht => ?_
  split
  · rename_i e hti
    exact wTi_ok fun tj hj => oMake_ok ho ht hti hj (cOpd_ok sf g x) (cOpd_ok sf g y)
  · exact opNo_ok

/- TEXTS AND THEIR BYTES -/

noncomputable def oStrBytes (θ : List (Int × Int)) (P : Program) (e : TypeId) (ax : Acc) : Opc :=
  match P.underlying e with
  | some (.int .u8) => ⟨fun st vs m k => ax.g st vs fun c => c.onStr fun n d => onB (okS θ n d) (onB (Nat.blt m.nx 65536) (k (.sl m.nx 0 n true 1) (m.add (.cells e n (cellsS n d) 0 true))) none) none⟩
  | _ => opNo

theorem oStrBytes_ok {t u e : TypeId} {x : Operand} {ti tu : TI} {ax : Acc} (ho : o.op = .convert t u x) (ht : tiOf P t = some ti) (h1 : ti.und = .string) (hu : tiOf P u = some tu) (h2 : tu.und = .slice e) (hx : AccOk sf g x ax) : OpOk P sf g o (oStrBytes sf.th P e ax) := by
  intro st vs m k r h
  unfold oStrBytes at h
  split at h
  · rename_i he
    have htt := (tiOf_ok ht).und
    rw [h1] at htt
    have hut := (tiOf_ok hu).und
    rw [h2] at hut
    obtain ⟨c, h3, h4⟩ := hx _ _ _ _ h
    obtain ⟨n, d, rfl, h5⟩ := C.onStr_inv h3
    obtain ⟨h6, h7⟩ := onB_inv h5
    obtain ⟨h8, h9⟩ := onB_inv h7
    refine ⟨_, _, h9, rfl, fun wb ε a w hs hm => ?_⟩
    have r1 := real_str (h4 ε a hs)
    have hr := run_bytes_of_string (P := P) w t u e (textOf ε.ν n d) htt hut he
    rw [textOf_size] at hr
    generalize hcap : grownCap w n 0 e = cap at hr
    have hle : n ≤ cap := by rw [← hcap]; simp only [grownCap, Question.cut]; omega
    have hrow : (bytesRow (textOf ε.ν n d) cap).size = cap := by
      unfold bytesRow
      rw [textOf_size]
      have : (textOf ε.ν n d).data.size = n := textOf_size ε.ν n d
      simp [this]; omega
    rw [hrow] at hr
    have hnew := (hm.newArr (blt_lt h8) e (cellsS_ok hs.th (okS_ok h6)) (cellsS_all n d) (n := n) (cellsS_length n d).symm 0 (bytesRow (textOf ε.ν n d) cap) (fun j hj => by
      rw [cellsS_length] at hj
      have hsz : (textOf ε.ν n d).data.size = n := textOf_size ε.ν n d
      rw [bytesRow_at _ _ _ (by omega)]
      have hg := bytesOf_get ε.ν n d j hj
      rw [List.getElem?_map, hg]
      simp only [Option.map_some, Option.some.injEq, Value.int.injEq, true_and]
      obtain ⟨q1, q2⟩ := List.getElem?_eq_some_iff.1 hg
      rw [← q2]
      rfl) (len := cap) (lo := cap) (hi := cap + 1) (by rw [cellsS_length]; exact hle) (by omega) (fun j hj => by omega)).drew (w.drawn + 1)
    refine ⟨_, .slice (some ⟨w.heap.size, 0, none⟩) n cap, _, hm.with_le _, ?_, hnew, .inl ?_⟩
    rotate_left
    · simp only [execOp, ho, r1, Sem.run_bind, hr, Result.andThen_ok, Sem.run_pure]
      rfl
    · simp only [C.real, Ev.with_at, Option.bind_some, capOf, if_true, Nat.sub_zero, Nat.div_one]
      rw [if_pos hle]
  · cases h

/-- Cells as a text. -/
noncomputable def packK (θ : List (Int × Int)) (l : List C) : (Nat → R) → R :=
  List.rec (motive := fun _ => (Nat → R) → R) (fun k => k 0) (fun c _ ih k => ih fun d => c.onNum
    (fun kd n => onB (isK .u8 kd) (onB (Nat.ble 18446744073709551616 n) (onB (Nat.blt (Nat.sub n 18446744073709551616) 256) (k (Nat.add (Nat.sub n 18446744073709551616) (Nat.mul 65536 d))) none) none) none)
    (fun kd e => onB (isK .u8 kd) (SE.rec (motive := fun _ => R) (fun i => onB (Nat.blt i 65280) (onB (digOk θ (Nat.add i 256)) (k (Nat.add (Nat.add i 256) (Nat.mul 65536 d))) none) none) (fun _ => none) (fun _ _ _ _ _ _ => none) (fun _ _ _ => none) e) none)) l

theorem packK_inv {θ : List (Int × Int)} : ∀ {l : List C} {k : Nat → R} {r : C × Mem}, packK θ l k = some r → ∃ d, k d = some r ∧ ∀ ε, Sat θ ε.ν → ∀ lv, C.reals ε l = some lv → lv = (bytesOf ε.ν l.length d).map fun b => .int .u8 (b.toNat : Int)
  | [], k, r, h => ⟨0, h, fun ε _ lv hl => by simp only [C.reals, Option.some.injEq] at hl; subst hl; rfl⟩
  | c :: l, k, r, h => by
    have h' : packK θ l (fun d => c.onNum
      (fun kd n => onB (isK .u8 kd) (onB (Nat.ble 18446744073709551616 n) (onB (Nat.blt (Nat.sub n 18446744073709551616) 256) (k (Nat.add (Nat.sub n 18446744073709551616) (Nat.mul 65536 d))) none) none) none)
      (fun kd e => onB (isK .u8 kd) (SE.rec (motive := fun _ => R) (fun i => onB (Nat.blt i 65280) (onB (digOk θ (Nat.add i 256)) (k (Nat.add (Nat.add i 256) (Nat.mul 65536 d))) none) none) (fun _ => none) (fun _ _ _ _ _ _ => none) (fun _ _ _ => none) e) none)) = some r := h
    obtain ⟨d, h1, h2⟩ := packK_inv h'
    have fin : ∀ (x : Nat), x < 65536 → k (Nat.add x (Nat.mul 65536 d)) = some r → (∀ ε, Sat θ ε.ν → C.real ε c = some (.int .u8 ((byteOf ε.ν x).toNat : Int))) →
        ∃ d, k d = some r ∧ ∀ ε, Sat θ ε.ν → ∀ lv, C.reals ε (c :: l) = some lv → lv = (bytesOf ε.ν (c :: l).length d).map fun b => .int .u8 (b.toNat : Int) := by
      intro x hx hk hreal
      refine ⟨_, hk, fun ε hs lv hl => ?_⟩
      obtain ⟨v, rr, e1, e2, rfl⟩ := reals_cons hl
      rw [hreal ε hs] at e1
      cases e1
      have := h2 ε hs rr e2
      subst this
      simp only [List.length_cons, bytesOf, List.map_cons, nadd, nmul]
      rw [show (x + 65536 * d) % 65536 = x from by omega, show (x + 65536 * d) / 65536 = d from by omega]
    rcases C.onNum_inv h1 with ⟨kd, n, rfl, h3⟩ | ⟨kd, e, rfl, h3⟩
    · simp only [nsub] at h3
      obtain ⟨h4, h5⟩ := onB_inv h3
      have := isK_eq h4
      subst this
      obtain ⟨h6, h7⟩ := onB_inv h5
      obtain ⟨h8, h9⟩ := onB_inv h7
      have b1 := blt_lt h8
      have b2 := ble_le h6
      refine fin _ (by omega) h9 fun ε hs => ?_
      rw [byteOf_plain b1]
      simp only [C.real, toI_nn b2]
    · obtain ⟨h4, h5⟩ := onB_inv h3
      have := isK_eq h4
      subst this
      cases e with
      | tok i =>
        have h5' : onB (Nat.blt i 65280) (onB (digOk θ (Nat.add i 256)) (k (Nat.add (Nat.add i 256) (Nat.mul 65536 d))) none) none = some r := h5
        obtain ⟨h6, h7⟩ := onB_inv h5'
        obtain ⟨h8, h9⟩ := onB_inv h7
        have b1 := blt_lt h6
        refine fin (Nat.add i 256) (by simp only [nadd]; omega) h9 fun ε hs => ?_
        obtain ⟨z, z1, z2, z3, z4⟩ := dig_ok h8 hs
        rw [z4]
        unfold dig at z1
        simp only [nadd] at z1
        rw [if_neg (by omega), show i + 256 - 256 = i from by omega] at z1
        simp only [C.real, z1, Option.map_some]
        obtain ⟨q, rfl⟩ := Int.eq_ofNat_of_zero_le z2
        simp
        omega
      | lit n => cases h5
      | bin op k2 a b => cases h5
      | cv k2 a => cases h5

noncomputable def oBytesStr (θ : List (Int × Int)) (P : Program) (e : TypeId) (ax : Acc) : Opc :=
  match P.underlying e with
  | some (.int .u8) => ⟨fun st vs m k => ax.g st vs fun c => c.onSls (fun b q n _ _ => onB (Nat.beq n 0) (k (.str 0 0) m) (onBlk (m.at b) fun _ nn cs _ _ => onB (Nat.ble (Nat.add q n) nn) (packK θ (sub cs q n nn) fun d => k (.str n d) m) none)) (k (.str 0 0) m)⟩
  | _ => opNo

theorem textOf_zero (ν : Nat → Int) (d : Nat) : textOf ν 0 d = ByteArray.empty := rfl

theorem oBytesStr_ok {t u e : TypeId} {x : Operand} {ti tu : TI} {ax : Acc} (ho : o.op = .convert t u x) (ht : tiOf P t = some ti) (h1 : ti.und = .slice e) (hu : tiOf P u = some tu) (h2 : tu.und = .string) (hx : AccOk sf g x ax) : PureOk P sf g o (oBytesStr sf.th P e ax) :=
  fun st vs m k r h => by
    unfold oBytesStr at h
    split at h
    · rename_i he
      have htt := (tiOf_ok ht).und
      rw [h1] at htt
      have hut := (tiOf_ok hu).und
      rw [h2] at hut
      obtain ⟨c, h3, h4⟩ := hx _ _ _ _ h
      rcases C.onSls_inv h3 with ⟨b, q, n, cu, cp, rfl, h5⟩ | ⟨rfl, h5⟩
      · rcases onB_cases h5 with ⟨h6, h7⟩ | ⟨_, h7⟩
        · have e0 := Nat.eq_of_beq_eq_true h6
          subst e0
          refine ⟨_, h7, fun wb ε a w hs hm => ⟨_, rfl, ?_⟩⟩
          obtain ⟨z, z1, z2, z3⟩ := real_sl (h4 ε a hs)
          have hr := run_convert_bytes_back (P := P) w t u e ⟨z.blk, z.base + q, none⟩ (capOf z q cu cp) [] htt he hut (fun j hj => by simp at hj)
          simp only [execOp, ho, z3, Sem.run_bind]
          have hr' : (convert t u (.slice (some ⟨z.blk, z.base + q, none⟩) 0 (capOf z q cu cp))).run P w = .ok (.string ⟨([] : List UInt8).toArray⟩) w := hr
          rw [hr']
          rfl
        · obtain ⟨ty, nn, cs, fz, wr, h8, h9⟩ := onBlk_inv h7
          obtain ⟨h10, h11⟩ := onB_inv h9
          obtain ⟨d, h12, h13⟩ := packK_inv h11
          refine ⟨_, h12, fun wb ε a w hs hm => ⟨_, rfl, ?_⟩⟩
          obtain ⟨z, z1, z2, z3⟩ := real_sl (h4 ε a hs)
          have hle : q + n ≤ nn := ble_le h10
          obtain ⟨q1, q2, lv, q3, q4⟩ := hm.row z1 h8
          have hsub := reals_take n (reals_drop q q3)
          have hlen : ((cs.drop q).take n).length = n := by simp; omega
          have hse : sub cs q n nn = (cs.drop q).take n := sub_eq q1 hle
          have hlv := h13 ε hs.th _ (hse ▸ hsub)
          rw [hse, hlen] at hlv
          have hr := run_convert_bytes_back (P := P) w t u e ⟨z.blk, z.base + q, none⟩ (capOf z q cu cp) (bytesOf ε.ν n d) htt he hut (fun j hj => by
            rw [bytesOf_length] at hj
            rw [addr_add, Nat.add_assoc]
            refine q4 (q + j) _ ?_
            have hg := congrArg (fun l => l[j]?) hlv
            simp only [List.getElem?_take_of_lt hj, List.getElem?_drop] at hg
            rw [hg, List.getElem?_map, List.getElem?_eq_getElem (by rw [bytesOf_length]; exact hj)]
            rfl)
          rw [bytesOf_length] at hr
          simp only [execOp, ho, z3, Sem.run_bind, hr]
          rfl
      · refine ⟨_, h5, fun wb ε a w hs hm => ⟨_, rfl, ?_⟩⟩
        have r1 := h4 ε a hs
        simp only [C.real, Option.some.injEq] at r1
        simp [execOp, ho, ← r1, convert, run_underlying htt, run_underlying hut, run_underlying he, Conv.bytesToString, textOf_zero]
    · cases h

/- TEXTS RANGED OVER -/

noncomputable def cRange (P : Program) (sf : SF) (g : List Nat) (t : TypeId) (x : Operand) : Opc :=
  wTi P t fun ti => match ti.und with
    | .string => ⟨fun st vs m k => (cOpd sf g x).g st vs fun c => c.onStr fun n d => onB (Nat.blt m.nx 65536) (k (.p m.nx 0) (m.add (.iter n d 0))) none⟩
    | _ => opNo

theorem cRange_ok {t : TypeId} {x : Operand} (ho : o.op = .range t x) : OpOk P sf g o (cRange P sf g t x) := by
  refine wTi_ok fun ti ht => ?_
  split
  · rename_i hu
    intro st vs m k r h
    have htt := (tiOf_ok ht).run_und
    rw [hu] at htt
    obtain ⟨c, h1, h2⟩ := cOpd_ok sf g x _ _ _ _ h
    obtain ⟨n, d, rfl, h3⟩ := C.onStr_inv h1
    obtain ⟨h4, h5⟩ := onB_inv h3
    refine ⟨_, _, h5, rfl, fun wb ε a w hs hm => ?_⟩
    have r1 := real_str (h2 ε a hs)
    have hnew := hm.add (B := .iter n d 0) (blt_lt h4) (o := .stringIter (textOf ε.ν n d) 0) 0 0 ⟨by simp [Ev.with], rfl⟩
    refine ⟨_, _, _, hm.with_le _, by simp only [C.real, Ev.with_at, Option.map_some]; rfl, hnew, .inl ?_⟩
    simp [execOp, ho, r1, Instr.range, htt w]
  · exact opNo_ok

/-- The next rune, where it is a byte below 128. -/
noncomputable def oNext (θ : List (Int × Int)) (ax : Acc) : Opc :=
  ⟨fun st vs m k => ax.g st vs fun c => c.onPtr fun b q => onB (Nat.beq q 0) (onIter (m.at b) fun n d pos =>
    onB (Nat.blt pos n)
      (onB (Nat.blt (Nat.mod (Nat.div d (Nat.pow 65536 pos)) 65536) 128)
        (k (.t [.bool true, .int .i64 (Nat.add pos 18446744073709551616), .int .i32 (Nat.add (Nat.mod (Nat.div d (Nat.pow 65536 pos)) 65536) 18446744073709551616)]) (m.put b (.iter n d (Nat.succ pos))))
        (onB (onB (Nat.ble 256 (Nat.mod (Nat.div d (Nat.pow 65536 pos)) 65536)) (low θ (Nat.sub (Nat.mod (Nat.div d (Nat.pow 65536 pos)) 65536) 256)) false)
          (k (.t [.bool true, .int .i64 (Nat.add pos 18446744073709551616), .sy .i32 (.tok (Nat.sub (Nat.mod (Nat.div d (Nat.pow 65536 pos)) 65536) 256))]) (m.put b (.iter n d (Nat.succ pos)))) none))
      (k (.t [.bool false]) m)) none⟩
where low (θ : List (Int × Int)) (t : Nat) : Bool := match θ[t]? with
  | some (lo, hi) => decide (0 ≤ lo) && decide (hi ≤ 127)
  | none => false

theorem decode_low {s : ByteArray} {i : Nat} {b : UInt8} (h : s[i]? = some b) (hb : b.toNat < 128) : Utf8.decode s i = (b.toNat, 1) := by
  have hg : s.get! i = b := by
    have h1 : i < s.size := by
      rcases Nat.lt_or_ge i s.size with h1 | h1
      · exact h1
      · have : s[i]? = none := by
          show (if h : i < s.size then some s[i] else none) = none
          rw [dif_neg (by omega)]
        rw [this] at h; cases h
    have h2 : s[i]? = some s[i] := by
      show (if h : i < s.size then some s[i] else none) = _
      rw [dif_pos h1]
    rw [h2, Option.some.injEq] at h
    have h3 : s.get! i = s.data[i]! := rfl
    rw [h3, ← h]
    have h4 : s[i] = s.data[i] := rfl
    rw [h4]
    have h5 : i < s.data.size := h1
    exact getElem!_pos s.data i h5
  simp [Utf8.decode, hg, hb]

theorem run_getIter {w : World} {r : Nat} {s : ByteArray} {p : Nat} (h : w.heap[r]? = some (.stringIter s p)) : (getObj r).run P w = .ok (.stringIter s p) w := by simp [getObj, Sem.run, h]

theorem run_setIter {w : World} {r : Nat} {s : ByteArray} {p : Nat} {o' : Obj} (h : w.heap[r]? = some (.stringIter s p)) : (setObj r o').run P w = .ok () { w with heap := w.heap.setIfInBounds r o' } := by simp [setObj, Sem.run, h]

theorem oNext_ok {x : Operand} {ax : Acc} (ho : o.op = .next x true) (hx : AccOk sf g x ax) : OpOk P sf g o (oNext sf.th ax) := by
  intro st vs m k r h
  obtain ⟨c, h1, h2⟩ := hx _ _ _ _ h
  obtain ⟨b, q, rfl, h3⟩ := C.onPtr_inv h1
  obtain ⟨h4, h5⟩ := onB_inv h3
  have e0 := Nat.eq_of_beq_eq_true h4
  subst e0
  obtain ⟨n, d, pos, h6, h7⟩ := onIter_inv h5
  simp only [nmod, ndiv, npow, nsub] at h7
  have base : ∀ wb ε a w, SRel sf ε g st vs a → MRel wb ε m w → ∃ z, ε.ad b = some z ∧ a.eval x = .pointer (some ⟨z.blk, 0, none⟩) ∧ w.heap[z.blk]? = some (.stringIter (textOf ε.ν n d) pos) := by
    intro wb ε a w hs hm
    obtain ⟨z, z1, z2⟩ := real_p (h2 ε a hs)
    obtain ⟨y, y1, hB, _⟩ := hm.blk b _ (hm.lt_nx z1) h6 rfl
    rw [z1] at y1
    cases y1
    obtain ⟨b1, b2⟩ := hB
    exact ⟨z, z1, by rw [z2, b2], b1⟩
  rcases onB_cases h7 with ⟨h8, h9⟩ | ⟨h8, h9⟩
  · have hlt := blt_lt h8
    generalize hdg : d / 65536 ^ pos % 65536 = dg at h9
    have fin : ∀ (c : C), k (.t [.bool true, .int .i64 (Nat.add pos 18446744073709551616), c]) (m.put b (.iter n d (Nat.succ pos))) = some r → (∀ ε, Sat sf.th ε.ν → (byteOf ε.ν dg).toNat < 128 ∧ C.real ε c = some (.int .i32 ((byteOf ε.ν dg).toNat : Int))) →
        ∃ c m', k c m' = some r ∧ m'.df = m.df ∧ ∀ wb ε a w, SRel sf ε g st vs a → MRel wb ε m w →
          ∃ ε' v w', ε.le ε' ∧ C.real ε' c = some v ∧ MRel wb ε' m' w' ∧ ((execOp a.eval o).run P w = .ok (.value v) w' ∨ ((execOp a.eval o).run P w = .ok .skip w' ∧ v = Go.undef)) := by
      intro c hk hc
      refine ⟨_, _, hk, rfl, fun wb ε a w hs hm => ?_⟩
      obtain ⟨z, z1, z2, z3⟩ := base wb ε a w hs hm
      obtain ⟨c1, c2⟩ := hc ε hs.th
      have hget := bytesOf_get ε.ν n d pos hlt
      rw [hdg] at hget
      have hsz := textOf_size ε.ν n d
      have hb : (textOf ε.ν n d)[pos]? = some (byteOf ε.ν dg) := by
        show (if h : pos < (textOf ε.ν n d).size then some ((textOf ε.ν n d)[pos]) else none) = _
        rw [dif_pos (by omega)]
        obtain ⟨q1, q2⟩ := List.getElem?_eq_some_iff.1 hget
        rw [← q2]
        rfl
      have hdec := decode_low hb c1
      obtain ⟨y, y1, hB, hbase⟩ := hm.blk b _ (hm.lt_nx z1) h6 rfl
      rw [z1] at y1
      cases y1
      have hltz : z.blk < w.heap.size := hm.lt b z z1
      have hput := hm.put (B' := .iter n d (Nat.succ pos)) h6 rfl z1 rfl (o := .stringIter (textOf ε.ν n d) (pos + 1)) ⟨by simp [hltz], hB.2⟩
      refine ⟨ε, .tuple #[.bool true, .int .i64 (pos : Int), .int .i32 ((byteOf ε.ν dg).toNat : Int)], _, Ev.le.refl ε, ?_, hput, .inl ?_⟩
      · simp only [C.real, C.reals, toI_up, c2, Option.map_some]
      · have hps : pos < (textOf ε.ν n d).size := by omega
        simp [execOp, ho, z2, Instr.next, run_getIter z3, run_setIter z3, hps, hdec, goInt]
    rcases onB_cases h9 with ⟨h10, h11⟩ | ⟨h10, h11⟩
    · have hd := blt_lt h10
      refine fin _ h11 fun ε hs => ?_
      rw [byteOf_plain (by omega)]
      exact ⟨hd, by simp only [C.real, toI_up]⟩
    · obtain ⟨h12, h13⟩ := onB_inv h11
      obtain ⟨h14, h15⟩ := onB_and h12
      have hge := ble_le h14
      refine fin _ h13 fun ε hs => ?_
      unfold oNext.low at h15
      split at h15
      · rename_i lo hi hθ
        simp only [Bool.and_eq_true, decide_eq_true_eq] at h15
        have := hs _ lo hi hθ
        have hb : byteOf ε.ν dg = UInt8.ofNat (ε.ν (dg - 256)).toNat := by unfold byteOf; rw [if_neg (by omega)]
        rw [hb]
        obtain ⟨q, hq⟩ := Int.eq_ofNat_of_zero_le (show 0 ≤ ε.ν (dg - 256) by omega)
        simp only [C.real, SE.ev, Option.map_some]
        rw [hq] at this ⊢
        simp
        omega
      · cases h15
  · refine ⟨_, _, h9, rfl, fun wb ε a w hs hm => ?_⟩
    obtain ⟨z, z1, z2, z3⟩ := base wb ε a w hs hm
    have hsz := textOf_size ε.ν n d
    have hps : ¬ pos < (textOf ε.ν n d).size := fun e => by
      have : Nat.blt pos n = true := by rw [Nat.blt_eq]; omega
      rw [h8] at this; cases this
    refine ⟨ε, .tuple #[.bool false], w, Ev.le.refl ε, by simp [C.real, C.reals], hm, .inl ?_⟩
    simp [execOp, ho, z2, Instr.next, run_getIter z3, hps]

end

end Go.Proofs.YtoihipolfdhhnaaGreatDoor.Vm
