/-
  Vm, eighth part: places; parts of structs; slices; lengths; closures; conversions of numbers.
-/
import Derived.Test.YtoihipolfdhhnaaGreatDoorVG
namespace Go.Proofs.YtoihipolfdhhnaaGreatDoor.Vm

section
variable {P : Program} {sf : SF} {g : List Nat} {o : Oper}

/- PLACES -/

noncomputable def oFieldA (off : Nat) (ax : Acc) : Opc := ⟨fun st vs m k => ax.g st vs fun c => c.onPtr fun b q => k (.p b (Nat.add q off)) m⟩

theorem oFieldA_ok {s : TypeId} {x : Operand} {n : Nat} {ti tj : TI} {fs : Array Field} {f : Field} {ax : Acc} (ho : o.op = .fieldAddr s x n) (ht : tiOf P s = some ti) (hu : ti.und = .struct fs) (hf : fs[n]? = some f) (hj : tiOf P f.type = some tj)
    (hz : tj.size ≠ 0) (hx : AccOk sf g x ax) : FreeOk P sf g o (oFieldA f.offset ax) :=
  fun st vs m k r h => by
    obtain ⟨c, h1, h2⟩ := hx _ _ _ _ h
    obtain ⟨b, q, rfl, h3⟩ := C.onPtr_inv h1
    refine ⟨_, h3, fun ε a w hs => ?_⟩
    obtain ⟨y, h4, h5⟩ := real_p (h2 ε a hs)
    have h6 := (tiOf_ok ht).run_und w
    rw [hu] at h6
    have h7 := (tiOf_ok hj).run_size w
    refine ⟨.pointer (some ⟨y.blk, y.base + (q + f.offset), none⟩), by simp only [C.real, h4, Option.map_some]; rfl, ?_⟩
    simp [execOp, ho, Instr.fieldAt, h5, h6, hf, Instr.sureAddr, fieldPlace, h7, hz, addr_add, Nat.add_assoc]

/-- A part of a struct's value. -/
noncomputable def oPart (off : Nat) (tj : TI) (ax : Acc) : Opc :=
  match tj.agg with
  | true => ⟨fun st vs m k => ax.g st vs fun c => c.onAgg fun n l => onB (Nat.ble (Nat.add off tj.size) n) (k (.a tj.size (sub l off tj.size n)) m) none⟩
  | false => ⟨fun st vs m k => ax.g st vs fun c => c.onAgg fun _ l => onO (nth l off) fun c => k c m⟩

theorem oPart_ok {s : TypeId} {x : Operand} {n : Nat} {ti tj : TI} {fs : Array Field} {f : Field} {ax : Acc} (ho : o.op = .field s x n) (ht : tiOf P s = some ti) (hu : ti.und = .struct fs) (hf : fs[n]? = some f) (hj : tiOf P f.type = some tj)
    (hx : AccOk sf g x ax) : FreeOk P sf g o (oPart f.offset tj ax) :=
  fun st vs m k r h => by
    have hokj := tiOf_ok hj
    unfold oPart at h
    split at h
    · rename_i hag
      obtain ⟨c, h1, h2⟩ := hx _ _ _ _ h
      obtain ⟨s1, l, rfl, h3⟩ := C.onAgg_inv h1
      obtain ⟨h4, h5⟩ := onB_inv h3
      refine ⟨_, h5, fun ε a w hs => ?_⟩
      obtain ⟨h6, h7, lv, h8, h9⟩ := real_a (h2 ε a hs)
      have hle : f.offset + tj.size ≤ s1 := ble_le h4
      have hsub := reals_take tj.size (reals_drop f.offset h8)
      have hlen : ((l.drop f.offset).take tj.size).length = tj.size := by simp; omega
      have h10 := (tiOf_ok ht).run_und w
      rw [hu] at h10
      refine ⟨.agg ((lv.drop f.offset).take tj.size).toArray, ?_, ?_⟩
      · rw [sub_eq h6 hle]
        simp only [C.real]
        rw [if_pos ⟨hlen.symm, all_sub h7 _ _⟩, hsub]; rfl
      · simp only [execOp, ho, Instr.field, Sem.run_bind, h10, Result.andThen_ok, hf, h9, asAgg, Sem.run_pure, part, hokj.run_agg, hag, if_true, hokj.run_size]
        congr 3
        simp
    · rename_i hag
      obtain ⟨c, h1, h2⟩ := hx _ _ _ _ h
      obtain ⟨s1, l, rfl, h3⟩ := C.onAgg_inv h1
      obtain ⟨u, h4, h5⟩ := onO_inv h3
      refine ⟨_, h5, fun ε a w hs => ?_⟩
      obtain ⟨h6, h7, lv, h8, h9⟩ := real_a (h2 ε a hs)
      rw [nth_eq] at h4
      obtain ⟨v, h11, h12⟩ := reals_get h8 _ _ h4
      have h10 := (tiOf_ok ht).run_und w
      rw [hu] at h10
      exact ⟨v, h12, by simp [execOp, ho, Instr.field, h10, hf, h9, asAgg, part, hokj.run_agg, hag, h11]⟩

theorem real_sl {ε : Ev} {b q n : Nat} {u : Bool} {c : Nat} {v : Value} (h : C.real ε (.sl b q n u c) = some v) : ∃ x, ε.ad b = some x ∧ n ≤ capOf x q u c ∧ v = .slice (some ⟨x.blk, x.base + q, none⟩) n (capOf x q u c) := by
  simp only [C.real, Option.bind_eq_some_iff] at h
  obtain ⟨x, h1, h2⟩ := h
  split at h2
  · rename_i hc; cases h2; exact ⟨x, h1, hc, rfl⟩
  · cases h2

/-- The place of an element of a slice. -/
noncomputable def oIdxSl (θ : List (Int × Int)) (sz : Nat) (ax ay : Acc) : Opc :=
  ⟨fun st vs m k => ax.g st vs fun c => ay.g st vs fun v => c.onSl fun b q n _ _ => v.idx θ fun _ i =>
    onB (Nat.ble 18446744073709551616 i) (onB (Nat.blt (Nat.sub i 18446744073709551616) n) (k (.p b (Nat.add q (Nat.mul (Nat.sub i 18446744073709551616) sz))) m) none) none⟩

theorem run_idxSl {t : TypeId} {ti tj : TI} {e : TypeId} (w : World) (hok : TIok P t ti) (hu : ti.und = .slice e) (hj : TIok P e tj) (b q : Nat) {n cap : Nat} {k : IntKind} {i : Nat} (hi : i < n) :
    (Instr.indexAt t (.slice (some ⟨b, q, none⟩) n cap) (.int k (i : Int))).run P w = .ok (.pointer (some ⟨b, q + i * tj.size, none⟩)) w := by
  have h := hok.run_und w
  rw [hu] at h
  have h2 : (i : Int) < (n : Int) := by omega
  simp [Instr.indexAt, asIntOf, h, hi, hj.run_size, addr_add]

theorem oIdxSl_ok {t : TypeId} {x y : Operand} {ti tj : TI} {e : TypeId} {ax ay : Acc} (ho : o.op = .indexAddr t x y) (ht : tiOf P t = some ti) (hu : ti.und = .slice e) (hj : tiOf P e = some tj) (hx : AccOk sf g x ax) (hy : AccOk sf g y ay) : FreeOk P sf g o (oIdxSl sf.th tj.size ax ay) :=
  fun st vs m k r h => by
    obtain ⟨u, h1, h2⟩ := hx _ _ _ _ h
    obtain ⟨v, h3, h4⟩ := hy _ _ _ _ h1
    obtain ⟨b, q, n, cu, cp, rfl, h5⟩ := C.onSl_inv h3
    obtain ⟨ki, i, h6, h7⟩ := C.idx_inv h5
    simp only [nadd, nmul, nsub] at h6
    obtain ⟨h8, h9⟩ := onB_inv h6
    obtain ⟨h10, h11⟩ := onB_inv h9
    have hi := ble_le h8
    have hlt := blt_lt h10
    refine ⟨_, h11, fun ε a w hs => ?_⟩
    obtain ⟨z, h12, _, h13⟩ := real_sl (h2 ε a hs)
    have r2 := h7 ε hs.th
    rw [h4 ε a hs, Option.some.injEq, toI_nn hi] at r2
    generalize i - 18446744073709551616 = j at hlt r2 h11
    have e1 := run_idxSl (P := P) w (tiOf_ok ht) hu (tiOf_ok hj) z.blk (z.base + q) (cap := capOf z q cu cp) (k := ki) hlt
    refine ⟨.pointer (some ⟨z.blk, z.base + (q + j * tj.size), none⟩), by simp only [C.real, h12, Option.map_some], ?_⟩
    simp [execOp, ho, h13, r2, e1, Nat.add_assoc]

/-- The place of an element of an array. -/
noncomputable def oIdxArr (θ : List (Int × Int)) (len sz : Nat) (ax ay : Acc) : Opc :=
  ⟨fun st vs m k => ax.g st vs fun c => ay.g st vs fun v => c.onPtr fun b q => v.idxE θ (fun _ i =>
    onB (Nat.ble 18446744073709551616 i) (onB (Nat.blt (Nat.sub i 18446744073709551616) len) (k (.p b (Nat.add q (Nat.mul (Nat.sub i 18446744073709551616) sz))) m) none) none)
    fun e lo hi => onB (decide (0 ≤ lo ∧ lo ≤ hi ∧ hi < len)) (k (.pe b q sz lo.toNat (hi - lo + 1).toNat e) m) none⟩

theorem run_idxArr {t : TypeId} {ti tj : TI} {e : TypeId} {n : Nat} (w : World) (hok : TIok P t ti) (hu : ti.und = .array n e) (hj : TIok P e tj) (b q : Nat) {k : IntKind} {i : Nat} (hi : i < n) :
    (Instr.indexAt t (.pointer (some ⟨b, q, none⟩)) (.int k (i : Int))).run P w = .ok (.pointer (some ⟨b, q + i * tj.size, none⟩)) w := by
  have h := hok.run_und w
  rw [hu] at h
  simp [Instr.indexAt, asIntOf, h, hi, hj.run_size, addr_add, Instr.sureAddr]

theorem oIdxArr_ok {t : TypeId} {x y : Operand} {ti tj : TI} {e : TypeId} {len : Nat} {ax ay : Acc} (ho : o.op = .indexAddr t x y) (ht : tiOf P t = some ti) (hu : ti.und = .array len e) (hj : tiOf P e = some tj) (hx : AccOk sf g x ax) (hy : AccOk sf g y ay) : FreeOk P sf g o (oIdxArr sf.th len tj.size ax ay) :=
  fun st vs m k r h => by
    obtain ⟨u, h1, h2⟩ := hx _ _ _ _ h
    obtain ⟨v, h3, h4⟩ := hy _ _ _ _ h1
    obtain ⟨b, q, rfl, h5⟩ := C.onPtr_inv h3
    rcases C.idxE_inv h5 with ⟨ki, i, h6, h7⟩ | ⟨ki, e', lo, hi', h6, rfl, h7⟩
    rotate_left
    · obtain ⟨h8, h9⟩ := onB_inv h6
      have h10 := of_decide_eq_true h8
      refine ⟨_, h9, fun ε a w hs => ?_⟩
      obtain ⟨z, h12, h13⟩ := real_p (h2 ε a hs)
      have r2 := h4 ε a hs
      simp only [C.real, Option.map_eq_some_iff] at r2
      obtain ⟨zz, r3, r4⟩ := r2
      have r5 := h7 ε.ν zz hs.th r3
      have hz : zz = ((zz.toNat : Nat) : Int) := by omega
      have e1 := run_idxArr (P := P) w (tiOf_ok ht) hu (tiOf_ok hj) z.blk (z.base + q) (k := ki) (i := zz.toNat) (by omega)
      rw [← hz] at e1
      refine ⟨.pointer (some ⟨z.blk, z.base + (q + zz.toNat * tj.size), none⟩), ?_, ?_⟩
      · simp only [C.real, h12, r3, Option.bind_some]
        rw [if_pos ⟨by omega, by omega, by omega⟩]
      · simp [execOp, ho, h13, ← r4, e1, Nat.add_assoc]
    simp only [nadd, nmul, nsub] at h6
    obtain ⟨h8, h9⟩ := onB_inv h6
    obtain ⟨h10, h11⟩ := onB_inv h9
    have hi := ble_le h8
    have hlt := blt_lt h10
    refine ⟨_, h11, fun ε a w hs => ?_⟩
    obtain ⟨z, h12, h13⟩ := real_p (h2 ε a hs)
    have r2 := h7 ε hs.th
    rw [h4 ε a hs, Option.some.injEq, toI_nn hi] at r2
    generalize i - 18446744073709551616 = j at hlt r2 h11
    have e1 := run_idxArr (P := P) w (tiOf_ok ht) hu (tiOf_ok hj) z.blk (z.base + q) (k := ki) hlt
    refine ⟨.pointer (some ⟨z.blk, z.base + (q + j * tj.size), none⟩), by simp only [C.real, h12, Option.map_some], ?_⟩
    simp [execOp, ho, h13, r2, e1, Nat.add_assoc]

/- LENGTHS -/

noncomputable def oLenS (ax : Acc) : Opc := ⟨fun st vs m k => ax.g st vs fun c => c.onStr fun n _ => k (.int .i64 (Nat.add n 18446744073709551616)) m⟩

theorem oLenS_ok {x : Operand} {t : TypeId} {ti : TI} {ax : Acc} (ho : o.op = .call ⟨.builtin .len, #[x], #[t]⟩) (ht : tiOf P t = some ti) (hu : ti.und = .string) (hx : AccOk sf g x ax) : FreeOk P sf g o (oLenS ax) :=
  fun st vs m k r h => by
    obtain ⟨c, h1, h2⟩ := hx _ _ _ _ h
    obtain ⟨n, d, rfl, h3⟩ := C.onStr_inv h1
    refine ⟨_, h3, fun ε a w hs => ⟨_, rfl, ?_⟩⟩
    have r1 := real_str (h2 ε a hs)
    have h4 := (tiOf_ok ht).run_und w
    rw [hu] at h4
    simp [execOp, ho, resolve, invoke, builtin, Builtin.len_, r1, h4, textOf_size, goInt, toI_up]

noncomputable def oLenSl (ax : Acc) : Opc := ⟨fun st vs m k => ax.g st vs fun c => c.onSls (fun _ _ n _ _ => k (.int .i64 (Nat.add n 18446744073709551616)) m) (k (.int .i64 18446744073709551616) m)⟩

theorem toI_B : toI 18446744073709551616 = 0 := by simp [toI]

theorem oLenSl_ok {x : Operand} {t : TypeId} {ti : TI} {e : TypeId} {ax : Acc} (ho : o.op = .call ⟨.builtin .len, #[x], #[t]⟩) (ht : tiOf P t = some ti) (hu : ti.und = .slice e) (hx : AccOk sf g x ax) : FreeOk P sf g o (oLenSl ax) :=
  fun st vs m k r h => by
    obtain ⟨c, h1, h2⟩ := hx _ _ _ _ h
    rcases C.onSls_inv h1 with ⟨b, q, n, cu, cp, rfl, h3⟩ | ⟨rfl, h3⟩
    · refine ⟨_, h3, fun ε a w hs => ⟨_, rfl, ?_⟩⟩
      obtain ⟨z, _, _, r1⟩ := real_sl (h2 ε a hs)
      have h4 := (tiOf_ok ht).run_und w
      rw [hu] at h4
      simp [execOp, ho, resolve, invoke, builtin, Builtin.len_, r1, h4, goInt, toI_up]
    · refine ⟨_, h3, fun ε a w hs => ⟨_, rfl, ?_⟩⟩
      have r1 := h2 ε a hs
      simp only [C.real, Option.some.injEq] at r1
      have h4 := (tiOf_ok ht).run_und w
      rw [hu] at h4
      simp [execOp, ho, resolve, invoke, builtin, Builtin.len_, ← r1, h4, goInt, toI_B]

/- SLICES -/

/-- A bound of a slice, if one is told. -/
structure Bd where
  b : List C → Tr C → Nat → (Nat → R) → R

noncomputable def bdOf (θ : List (Int × Int)) : Option Acc → Bd
  | none => ⟨fun _ _ d k => k d⟩
  | some ax => ⟨fun st vs _ k => ax.g st vs fun c => c.idx θ fun _ i => onB (Nat.ble 18446744073709551616 i) (k (Nat.sub i 18446744073709551616)) none⟩

def BdOk (sf : SF) (g : List Nat) (x : Option Operand) (b : Bd) : Prop :=
  ∀ st vs d k r, b.b st vs d k = some r → ∃ i, k i = some r ∧ (x = none → i = d) ∧ ∀ ε a, SRel sf ε g st vs a → ∀ y, x = some y → ∃ kk, a.eval y = .int kk (i : Int)

theorem bdOf_ok {x : Option Operand} : BdOk sf g x (bdOf sf.th (x.map (cOpd sf g))) := by
  intro st vs d k r h
  cases x with
  | none => exact ⟨d, h, fun _ => rfl, fun ε a _ y hy => (by cases hy)⟩
  | some y =>
    obtain ⟨c, h1, h2⟩ := cOpd_ok sf g y _ _ _ _ h
    obtain ⟨ki, i, h3, h4⟩ := C.idx_inv h1
    obtain ⟨h5, h6⟩ := onB_inv h3
    refine ⟨_, h6, fun e => (by cases e), fun ε a hs z hz => ?_⟩
    cases hz
    have r1 := h4 ε hs.th
    rw [h2 ε a hs, Option.some.injEq, toI_nn (ble_le h5)] at r1
    exact ⟨ki, r1⟩

theorem run_sliceBound {P : Program} {w : World} {k : IntKind} {i y : Nat} {code : BoundsCode} (h : i ≤ y) : (Instr.sliceBound (.int k (i : Int)) y code).run P w = .ok i w := by
  have : (i : Int) ≤ (y : Int) := by omega
  simp [Instr.sliceBound, asIntOf, h]

/-- The bounds, as the model finds them. -/
theorem run_bounds {P : Program} {w : World} {a : Act} {isSlice : Bool} {len cap : Nat} {lo hi : Option Operand} {l h : Nat} (hlo : lo = none → l = 0) (hhi : hi = none → h = len)
    (hl : ∀ y, lo = some y → ∃ kk, a.eval y = .int kk (l : Int)) (hh : ∀ y, hi = some y → ∃ kk, a.eval y = .int kk (h : Int)) (h1 : l ≤ h) (h2 : h ≤ cap) :
    (Instr.sliceBounds isSlice len cap (lo.map a.eval) (hi.map a.eval) none).run P w = .ok (l, h, cap) w := by
  cases lo with
  | none =>
    have := hlo rfl
    subst this
    cases hi with
    | none => have := hhi rfl; subst this; simp [Instr.sliceBounds]
    | some y => obtain ⟨kk, e⟩ := hh y rfl; simp [Instr.sliceBounds, e, run_sliceBound h2]
  | some x =>
    obtain ⟨kx, ex⟩ := hl x rfl
    cases hi with
    | none => have := hhi rfl; subst this; simp [Instr.sliceBounds, ex, run_sliceBound h1]
    | some y => obtain ⟨kk, e⟩ := hh y rfl; simp [Instr.sliceBounds, e, ex, run_sliceBound h2, run_sliceBound h1]

noncomputable def oSlStr (ax : Acc) (bl bh : Bd) : Opc :=
  ⟨fun st vs m k => ax.g st vs fun c => c.onStr fun n d => bh.b st vs n fun h => bl.b st vs 0 fun l => onB (Nat.ble l h) (onB (Nat.ble h n) (k (.str (Nat.sub h l) (Nat.div d (Nat.pow 65536 l))) m) none) none⟩

theorem textOf_extract (ν : Nat → Int) {n d l h : Nat} (h1 : l ≤ h) (h2 : h ≤ n) : (textOf ν n d).extract l h = textOf ν (h - l) (d / 65536 ^ l) := by
  apply ByteArray.ext
  apply Array.ext'
  have e : ((textOf ν n d).extract l h).data = (textOf ν n d).data.extract l h := by simp
  rw [e]
  simp only [textOf, Array.toList_extract, List.extract_eq_take_drop]
  have h3 := bytesOf_drop ν l n d (by omega)
  rw [h3, bytesOf_take ν (h - l) (n - l) _ (by omega)]

theorem oSlStr_ok {t : TypeId} {x : Operand} {lo hi : Option Operand} {ti : TI} {ax : Acc} {bl bh : Bd} (ho : o.op = .slice t x lo hi none) (ht : tiOf P t = some ti) (hu : ti.und = .string) (hx : AccOk sf g x ax) (hl : BdOk sf g lo bl) (hh : BdOk sf g hi bh) : FreeOk P sf g o (oSlStr ax bl bh) :=
  fun st vs m k r hr => by
    obtain ⟨c, h1, h2⟩ := hx _ _ _ _ hr
    obtain ⟨n, d, rfl, h3⟩ := C.onStr_inv h1
    obtain ⟨h, h4, h5, h6⟩ := hh _ _ _ _ _ h3
    obtain ⟨l, h7, h8, h9⟩ := hl _ _ _ _ _ h4
    obtain ⟨h10, h11⟩ := onB_inv h7
    obtain ⟨h12, h13⟩ := onB_inv h11
    refine ⟨_, h13, fun ε a w hs => ⟨_, rfl, ?_⟩⟩
    have r1 := real_str (h2 ε a hs)
    have h14 := (tiOf_ok ht).run_und w
    rw [hu] at h14
    have hb := run_bounds (P := P) (w := w) (a := a) (isSlice := false) (len := n) (cap := n) h8 h5 (h9 ε a hs) (h6 ε a hs) (ble_le h10) (ble_le h12)
    have e := textOf_extract ε.ν (n := n) (d := d) (ble_le h10) (ble_le h12)
    simp only [execOp, ho, r1, Instr.sliceAt, Instr.slice, Sem.run_bind, h14, Result.andThen_ok, textOf_size, Option.map_none, Option.isSome_none, Bool.false_eq_true, if_false, Sem.run_pure, hb, e]
    rfl

/-- A slice of a slice; an empty one at the end of a row whose room is unknown gets a name of its own, without cells. -/
noncomputable def oSlSl (sz : Nat) (ax : Acc) (bl bh : Bd) : Opc :=
  ⟨fun st vs m k => ax.g st vs fun c => c.onSl fun b q n u cp => bh.b st vs n fun h => bl.b st vs 0 fun l => onB (Nat.ble l h)
    (onB u
      (onB (Nat.ble h n) (onB (Nat.beq cp sz) (onB (Nat.blt l n) (k (.sl b (Nat.add q (Nat.mul l sz)) (Nat.sub h l) true cp) m) (onB (Nat.beq l 0) (k (.sl b q h true cp) m) (onB (Nat.blt m.nx 65536) (k (.sl m.nx 0 0 true cp) (m.add .dead)) none))) none) none)
      (onB (Nat.ble h cp) (k (.sl b (onB (Nat.beq cp l) q (Nat.add q (Nat.mul l sz))) (Nat.sub h l) false (Nat.sub cp l)) m) none)) none⟩

theorem run_slSl {P : Program} {w : World} {a : Act} {t e : TypeId} {ti tj : TI} (hok : TIok P t ti) (hu : ti.und = .slice e) (hj : TIok P e tj) {b q n cap l h : Nat} {lo hi : Option Operand}
    (hb : (Instr.sliceBounds true n cap (lo.map a.eval) (hi.map a.eval) none).run P w = .ok (l, h, cap) w) :
    (Instr.sliceAt t (.slice (some ⟨b, q, none⟩) n cap) (lo.map a.eval) (hi.map a.eval) none).run P w = .ok (.slice (some ⟨b, if cap = l then q else q + l * tj.size, none⟩) (h - l) (cap - l)) w := by
  have h1 := hok.run_und w
  rw [hu] at h1
  by_cases hc : cap = l
  · subst hc
    simp [Instr.sliceAt, Instr.slice, h1, hb, hj.run_size]
  · simp [Instr.sliceAt, Instr.slice, h1, hb, hj.run_size, hc, addr_add]

theorem oSlSl_ok {t e : TypeId} {x : Operand} {lo hi : Option Operand} {ti tj : TI} {ax : Acc} {bl bh : Bd} (ho : o.op = .slice t x lo hi none) (ht : tiOf P t = some ti) (hu : ti.und = .slice e) (hj : tiOf P e = some tj) (hx : AccOk sf g x ax) (hl : BdOk sf g lo bl) (hh : BdOk sf g hi bh) : GhOk P sf g o (oSlSl tj.size ax bl bh) := by
    intro st vs m k r hr
    obtain ⟨c, h1, h2⟩ := hx _ _ _ _ hr
    obtain ⟨b, q, n, u, cp, rfl, h3⟩ := C.onSl_inv h1
    obtain ⟨h, h4, h5, h6⟩ := hh _ _ _ _ _ h3
    obtain ⟨l, h7, h8, h9⟩ := hl _ _ _ _ _ h4
    obtain ⟨h10, h11⟩ := onB_inv h7
    have hlh := ble_le h10
    have fin : ∀ (c : C), k c m = some r → (∀ ε x, ε.ad b = some x → n ≤ capOf x q u cp → h ≤ capOf x q u cp ∧ C.real ε c = some (.slice (some ⟨x.blk, if capOf x q u cp = l then x.base + q else x.base + q + l * tj.size, none⟩) (h - l) (capOf x q u cp - l))) →
        ∃ c m', k c m' = some r ∧ m'.df = m.df ∧ ∀ wb ε a w, SRel sf ε g st vs a → MRel wb ε m w →
          ∃ ε' v, ε.le ε' ∧ C.real ε' c = some v ∧ MRel wb ε' m' w ∧ ∀ w', (execOp a.eval o).run P w' = .ok (.value v) w' := by
      intro c hc hreal
      refine ⟨c, m, hc, rfl, fun wb ε a w hs hm => ?_⟩
      obtain ⟨z, z1, z2, z3⟩ := real_sl (h2 ε a hs)
      obtain ⟨y1, y2⟩ := hreal ε z z1 z2
      have hb := fun w => run_bounds (P := P) (w := w) (a := a) (isSlice := true) (len := n) (cap := capOf z q u cp) h8 h5 (h9 ε a hs) (h6 ε a hs) hlh y1
      have hr := fun w => run_slSl (P := P) (w := w) (tiOf_ok ht) hu (tiOf_ok hj) (b := z.blk) (q := z.base + q) (n := n) (hb w)
      refine ⟨ε, _, Ev.le.refl ε, y2, hm, fun w => ?_⟩
      simp only [execOp, ho, z3, Option.map_none, Sem.run_bind, hr, Result.andThen_ok, Sem.run_pure]
    rcases onB_cases h11 with ⟨rfl, h12⟩ | ⟨rfl, h12⟩
    · obtain ⟨h13, h14⟩ := onB_inv h12
      obtain ⟨h15, h16⟩ := onB_inv h14
      have hsz := Nat.eq_of_beq_eq_true h15
      have hhn := ble_le h13
      rcases onB_cases h16 with ⟨h17, h18⟩ | ⟨h17, h18⟩
      · have hln := blt_lt h17
        refine fin _ h18 fun ε x hx hn => ⟨by omega, ?_⟩
        simp only [capOf, if_true] at hn ⊢
        have hpos : 0 < cp := by
          rcases Nat.eq_zero_or_pos cp with h | h
          · subst h; simp at hn; omega
          · exact h
        have hcap : (x.len - (q + l * cp)) / cp = (x.len - q) / cp - l := by
          rw [Nat.sub_add_eq, Nat.mul_comm l cp, Nat.sub_mul_div]
        simp only [C.real, hx, Option.bind_some, capOf, if_true, nadd, nmul, nsub, ← hsz, hcap]
        rw [if_pos (by omega), if_neg (by omega)]
        simp [Nat.add_assoc]
      · rcases onB_cases h18 with ⟨h19, h20⟩ | ⟨h19, h20⟩
        rotate_left
        · obtain ⟨h21, h22⟩ := onB_inv h20
          have hnl : ¬ l < n := fun e => by
            have : Nat.blt l n = true := by rw [Nat.blt_eq]; exact e
            rw [h17] at this; cases this
          have hh' : h = l := by omega
          subst hh'
          refine ⟨_, _, h22, rfl, fun wb ε a w hs hm => ?_⟩
          obtain ⟨z, z1, z2, z3⟩ := real_sl (h2 ε a hs)
          have hb := fun w => run_bounds (P := P) (w := w) (a := a) (isSlice := true) (len := n) (cap := capOf z q true cp) h8 h5 (h9 ε a hs) (h6 ε a hs) (Nat.le_refl _) (by omega)
          have hr := fun w => run_slSl (P := P) (w := w) (tiOf_ok ht) hu (tiOf_ok hj) (b := z.blk) (q := z.base + q) (n := n) (hb w)
          have hnm := hm.name (blt_lt h21) ⟨z.blk, if capOf z q true cp = h then z.base + q else z.base + q + h * tj.size, (capOf z q true cp - h) * cp⟩ (hm.lt b z z1)
          refine ⟨_, .slice (some ⟨z.blk, if capOf z q true cp = h then z.base + q else z.base + q + h * tj.size, none⟩) 0 (capOf z q true cp - h), hm.with_le _, ?_, hnm, fun w => ?_⟩
          · have hcap : (capOf z q true cp - h) * cp / cp = capOf z q true cp - h := by
              rcases Nat.eq_zero_or_pos cp with h0 | h0
              · subst h0; simp [capOf]
              · rw [Nat.mul_div_cancel _ h0]
            simp only [C.real, Ev.with_at, Option.bind_some]
            generalize hC : capOf z q true cp = C0 at hcap ⊢
            simp only [capOf, if_true, Nat.sub_zero, hcap, Nat.zero_le, Nat.add_zero]
          · simp only [execOp, ho, z3, Option.map_none, Sem.run_bind, hr, Result.andThen_ok, Sem.run_pure, Nat.sub_self]
        have := Nat.eq_of_beq_eq_true h19
        subst this
        refine fin _ h20 fun ε x hx hn => ⟨by omega, ?_⟩
        simp only [C.real, hx, Option.bind_some]
        rw [if_pos (by omega)]
        simp
    · obtain ⟨h13, h14⟩ := onB_inv h12
      have hhc := ble_le h13
      refine fin _ h14 fun ε x hx hn => ⟨by simpa [capOf] using hhc, ?_⟩
      simp only [C.real, hx, Option.bind_some, capOf, Bool.false_eq_true, if_false, nsub]
      rw [if_pos (by omega)]
      cases hb : Nat.beq cp l with
      | true =>
        have := Nat.eq_of_beq_eq_true hb
        subst this
        simp [onB]
      | false =>
        have hne : cp ≠ l := fun e => by rw [e] at hb; simp at hb
        simp [onB, hne, nadd, nmul, Nat.add_assoc]

end

end Go.Proofs.YtoihipolfdhhnaaGreatDoor.Vm
