/-
  Vm: rows that grow; copies; texts and bytes; the least of two.
-/
import Derived.Test.YtoihipolfdhhnaaGreatDoorVJ
import Derived.Laws.Append
import Derived.Laws.CopyRow
namespace Go.Proofs.YtoihipolfdhhnaaGreatDoor.Vm

/- A TEXT'S BYTES AS CELLS -/

noncomputable def cellsS (n : Nat) : Nat → List C :=
  Nat.rec (motive := fun _ => Nat → List C) (fun _ => []) (fun _ ih d =>
    (onB (Nat.blt (Nat.mod d 65536) 256) (C.int .u8 (Nat.add (Nat.mod d 65536) 18446744073709551616)) (C.sy .u8 (.tok (Nat.sub (Nat.mod d 65536) 256)))) :: ih (Nat.div d 65536)) n

theorem cellsS_succ (n d : Nat) : cellsS (n + 1) d = (onB (Nat.blt (d % 65536) 256) (C.int .u8 (Nat.add (d % 65536) 18446744073709551616)) (C.sy .u8 (.tok (d % 65536 - 256)))) :: cellsS n (d / 65536) := rfl

def digsOk (θ : List (Int × Int)) : Nat → Nat → Bool
  | 0, _ => true
  | n + 1, d => digOk θ (d % 65536) && digsOk θ n (d / 65536)

theorem digsOk_plain {θ : List (Int × Int)} : ∀ {n d : Nat}, (∀ i, i < n → d / 65536 ^ i % 65536 < 256) → digsOk θ n d = true
  | 0, _, _ => rfl
  | n + 1, d, h => by
    have h0 := h 0 (by omega)
    simp only [Nat.pow_zero, Nat.div_one] at h0
    simp only [digsOk, Bool.and_eq_true]
    refine ⟨by unfold digOk; rw [if_pos h0], digsOk_plain fun i hi => ?_⟩
    have := h (i + 1) (by omega)
    rwa [Nat.pow_succ, Nat.mul_comm, ← Nat.div_div_eq_div_mul] at this

theorem cellS_ok {θ : List (Int × Int)} {ε : Ev} (hs : Sat θ ε.ν) {x : Nat} (h : digOk θ x = true) : C.real ε (onB (Nat.blt x 256) (C.int .u8 (Nat.add x 18446744073709551616)) (C.sy .u8 (.tok (x - 256)))) = some (.int .u8 ((byteOf ε.ν x).toNat : Int)) := by
  cases hb : Nat.blt x 256 with
  | true =>
    show C.real ε (.int .u8 (Nat.add x 18446744073709551616)) = _
    rw [byteOf_plain (blt_lt hb)]
    simp only [C.real, toI_up]
  | false =>
    have hd : ¬ x < 256 := fun e => by
      have : Nat.blt x 256 = true := by rw [Nat.blt_eq]; exact e
      rw [hb] at this; cases this
    show C.real ε (.sy .u8 (.tok (x - 256))) = _
    obtain ⟨z, z1, z2, z3, z4⟩ := dig_ok h hs
    rw [z4]
    unfold dig at z1
    rw [if_neg hd] at z1
    simp only [C.real, z1, Option.map_some]
    obtain ⟨q, rfl⟩ := Int.eq_ofNat_of_zero_le z2
    simp
    omega

theorem cellS_cell (x : Nat) : (onB (Nat.blt x 256) (C.int .u8 (Nat.add x 18446744073709551616)) (C.sy .u8 (.tok (x - 256)))).cell = true := by
  cases hb : Nat.blt x 256 <;> rfl

theorem cellsS_ok {θ : List (Int × Int)} {ε : Ev} (hs : Sat θ ε.ν) : ∀ {n d : Nat}, digsOk θ n d = true → C.reals ε (cellsS n d) = some ((bytesOf ε.ν n d).map fun b => .int .u8 (b.toNat : Int))
  | 0, d, _ => by simp [cellsS, bytesOf, C.reals]
  | n + 1, d, h => by
    simp only [digsOk, Bool.and_eq_true] at h
    rw [cellsS_succ]
    simp only [bytesOf, List.map_cons]
    exact reals_of (cellS_ok hs h.1) (cellsS_ok hs h.2)

theorem cellsS_all : ∀ (n d : Nat), (cellsS n d).all C.cell = true
  | 0, d => rfl
  | n + 1, d => by
    rw [cellsS_succ]
    simp only [List.all_cons, cellS_cell, cellsS_all n, Bool.and_self]

theorem cellsS_length : ∀ (n d : Nat), (cellsS n d).length = n
  | 0, d => rfl
  | n + 1, d => by rw [cellsS_succ]; simp [cellsS_length n]

noncomputable def okS (θ : List (Int × Int)) (n d : Nat) : Bool := onB (plainD n d) true (digsOk θ n d)

theorem okS_ok {θ : List (Int × Int)} {n d : Nat} (h : okS θ n d = true) : digsOk θ n d = true := by
  unfold okS at h
  cases hp : plainD n d with
  | true => exact digsOk_plain (plainD_ok n d hp)
  | false => rw [hp] at h; exact h

section
variable {P : Program} {sf : SF} {g : List Nat} {o : Oper}

/- A NEW ROW WITH ROOM BEHIND IT -/

theorem MRel.newArr {wb : World} {ε : Ev} {m : Mem} {w : World} (h : MRel wb ε m w) (hnx : m.nx < 65536) (ty : TypeId) {l : List C} {lv : List Value} (hl : C.reals ε l = some lv) (hc : l.all C.cell = true) {n : Nat} (hn : n = l.length) (fz : Nat)
    (arr : Array Value) (hpre : ∀ j, j < l.length → arr[j]? = lv[j]?) {len lo hi : Nat} (h1 : l.length ≤ len) (h2 : len ≤ arr.size) (hf : ∀ j, j < len → ¬ (lo ≤ j ∧ j < hi)) :
    MRel wb (ε.with m.nx ⟨w.heap.size, 0, len⟩) (m.add (.cells ty n l fz true)) { w with heap := w.heap.push (.cells arr ty (lo, hi)) } := by
  refine h.add hnx 0 len ?_
  exact ⟨arr, lo, hi, lv, by simp, hn, h1, by simpa using h2, hc, C.reals_le (h.with_le _) hl, fun j hj => by simpa using hpre j hj, fun j _ hj => by simpa using hf j hj⟩

/- APPEND -/

/-- What is appended: its cells, and how many elements. -/
structure Src where
  f : List C → Tr C → Mem → (List C → Nat → R) → R

noncomputable def srcStr (θ : List (Int × Int)) (ay : Acc) : Src := ⟨fun st vs _ k => ay.g st vs fun c => c.onStr fun n d => onB (okS θ n d) (k (cellsS n d) n) none⟩

noncomputable def srcSl (sz : Nat) (ay : Acc) : Src :=
  ⟨fun st vs m k => ay.g st vs fun c => c.onSls (fun b q n _ _ => onB (Nat.beq n 0) (k [] 0) (onBlk (m.at b) fun _ nn cs _ _ => onB (Nat.ble (Nat.add q (Nat.mul n sz)) nn) (k (sub cs q (Nat.mul n sz) nn) n) none)) (k [] 0)⟩

/-- What the model reads of it. -/
def SrcOk (P : Program) (sf : SF) (g : List Nat) (y : Operand) (sz : Nat) (s : Src) : Prop :=
  ∀ st vs m k r, s.f st vs m k = some r → ∃ l n, k l n = some r ∧ ∀ wb ε a w, SRel sf ε g st vs a → MRel wb ε m w →
    l.length = n * sz ∧ l.all C.cell = true ∧ (∀ w', (Builtin.lenOf (a.eval y)).run P w' = .ok n w') ∧ ∃ lv, C.reals ε l = some lv ∧ ∀ d, (Builtin.firstCells sz n (a.eval y)).run P { w with drawn := d } = .ok lv.toArray { w with drawn := d }

theorem srcStr_ok {y : Operand} {ay : Acc} (hy : AccOk sf g y ay) : SrcOk P sf g y 1 (srcStr sf.th ay) := by
  intro st vs m k r h
  obtain ⟨c, h1, h2⟩ := hy _ _ _ _ h
  obtain ⟨n, d, rfl, h3⟩ := C.onStr_inv h1
  obtain ⟨h4, h5⟩ := onB_inv h3
  refine ⟨_, _, h5, fun wb ε a w hs hm => ?_⟩
  have r1 := real_str (h2 ε a hs)
  refine ⟨by rw [cellsS_length, Nat.mul_one], cellsS_all n d, fun w' => by simp [r1, Builtin.lenOf, textOf_size], _, cellsS_ok hs.th (okS_ok h4), fun dd => ?_⟩
  have e : (textOf ε.ν n d).extract 0 n = textOf ε.ν n d := by rw [textOf_extract ε.ν (Nat.zero_le n) (Nat.le_refl n)]; simp
  simp only [r1, Builtin.firstCells, e, Sem.run_pure]
  congr 1
  apply Array.ext'
  simp [textOf]

theorem srcSl_ok {y : Operand} {ay : Acc} (sz : Nat) (hy : AccOk sf g y ay) : SrcOk P sf g y sz (srcSl sz ay) := by
  intro st vs m k r h
  obtain ⟨c, h1, h2⟩ := hy _ _ _ _ h
  rcases C.onSls_inv h1 with ⟨b, q, n, cu, cp, rfl, h3⟩ | ⟨rfl, h3⟩
  · rcases onB_cases h3 with ⟨h4, h5⟩ | ⟨_, h5⟩
    · have := Nat.eq_of_beq_eq_true h4
      subst this
      refine ⟨_, _, h5, fun wb ε a w hs hm => ?_⟩
      obtain ⟨z, _, _, r1⟩ := real_sl (h2 ε a hs)
      refine ⟨by simp, rfl, fun w' => by simp [r1, Builtin.lenOf], [], by simp [C.reals], fun d => ?_⟩
      have := run_firstCells_some (P := P) { w with drawn := d } sz 0 ⟨z.blk, z.base + q, none⟩ 0 (capOf z q cu cp) [] (by simp) (fun j v hj => by simp at hj)
      rw [r1]; exact this
    · obtain ⟨ty, nn, cs, fz, wr, h6, h7⟩ := onBlk_inv h5
      obtain ⟨h8, h9⟩ := onB_inv h7
      refine ⟨_, _, h9, fun wb ε a w hs hm => ?_⟩
      obtain ⟨z, z1, z2, r1⟩ := real_sl (h2 ε a hs)
      have hle : q + n * sz ≤ nn := ble_le h8
      obtain ⟨q1, q2, lv, q3, q4⟩ := hm.row z1 h6
      have hsub := reals_take (n * sz) (reals_drop q q3)
      have hlen : ((cs.drop q).take (n * sz)).length = n * sz := by simp; omega
      have he : sub cs q (n * sz) nn = (cs.drop q).take (n * sz) := sub_eq q1 hle
      have hvl := reals_length hsub
      rw [hlen] at hvl
      simp only [nmul]
      rw [he]
      refine ⟨hlen, all_sub q2 _ _, fun w' => by simp [r1, Builtin.lenOf], _, hsub, fun d => ?_⟩
      rw [r1]
      refine run_firstCells_some (P := P) { w with drawn := d } sz n ⟨z.blk, z.base + q, none⟩ n (capOf z q cu cp) _ hvl (fun j v hj => ?_)
      have hjl : j < n * sz := by
        rcases Nat.lt_or_ge j (n * sz) with h | h
        · exact h
        · rw [List.getElem?_eq_none (by omega)] at hj; cases hj
      rw [List.getElem?_take_of_lt hjl, List.getElem?_drop] at hj
      rw [addr_add, Nat.add_assoc]
      exact q4 (q + j) v hj
  · refine ⟨_, _, h3, fun wb ε a w hs hm => ?_⟩
    have r1 := h2 ε a hs
    simp only [C.real, Option.some.injEq] at r1
    exact ⟨by simp, rfl, fun w' => by simp [← r1, Builtin.lenOf], [], by simp [C.reals], fun d => by simp [← r1, Builtin.firstCells]⟩

/-- The row that is appended to grows: a new row. -/
theorem run_app_grow {t u ty e : TypeId} {ti tu tj : TI} {w : World} (ht : TIok P t ti) (hti : ti.und = .slice e) (hu : TIok P u tu) (hnz : tu.und = .string ∨ ∃ e', tu.und = .slice e') (hj : TIok P e tj) {base : Option Addr} {n cap n2 : Nat} {x : Value} {olds news : List Value}
    (hx : (Builtin.lenOf x).run P w = .ok n2 w) (hold : ∀ d, (Builtin.firstCells tj.size n (.slice base n cap)).run P { w with drawn := d } = .ok olds.toArray { w with drawn := d })
    (hnew : ∀ d, (Builtin.firstCells tj.size n2 x).run P { w with drawn := d } = .ok news.toArray { w with drawn := d }) (hg : cap < n + n2) (h63 : (n + n2) ≤ 1048576) (hb : (n + n2) * tj.bytes ≤ 140737488355328) :
    ∃ (nc : Nat) (zs : Array Value), n + n2 ≤ nc ∧ zs.size = (nc - (n + n2)) * tj.size ∧ (Builtin.append_ #[t, u] ty #[.slice base n cap, x]).run P w =
      .ok (.slice (some ⟨w.heap.size, 0, none⟩) (n + n2) nc) { w with heap := w.heap.push (.cells ((olds ++ news).toArray ++ zs) e), drawn := w.drawn + 1 } := by
  obtain ⟨i, hi, hs, hby, z, hz, hzr⟩ := hj.info
  have hzl : z.cells.size = tj.size := by
    have := reals_length (hzr ⟨fun _ => none, fun _ => 0⟩)
    rw [hj.len] at this
    simpa using this
  refine ⟨grownCap w (n + n2) cap e, Builtin.zeroCells z.cells (grownCap w (n + n2) cap e - (n + n2)), ?_, ?_, ?_⟩
  · simp only [grownCap, Question.cut]; omega
  · simp [Builtin.zeroCells, hzl]
  · have hn : ¬ (n + n2 ≤ cap) := by omega
    have h63' : ¬ (9223372036854775807 < ((n : Int) + (n2 : Int))) := by omega
    have h48 := growslice_fits hg hb
    have h48' : ¬ (281474976710656 < Builtin.nextslicecap (n + n2) cap * i.bytes) := by rw [hby]; omega
    have htt := ht.und
    rw [hti] at htt
    have h1 : (Builtin.firstCells i.size n (.slice base n cap)).run P w.drew = .ok olds.toArray w.drew := by rw [hs]; exact hold (w.drawn + 1)
    have h2 : (Builtin.firstCells i.size n2 x).run P w.drew = .ok news.toArray w.drew := by rw [hs]; exact hnew (w.drawn + 1)
    have eZ : ∀ Z : Array Value, olds.toArray ++ (news.toArray ++ Z) = (olds ++ news).toArray ++ Z := fun Z => by apply Array.ext'; simp
    have hun := hu.und
    rcases hnz with hnz | ⟨e', hnz⟩ <;> rw [hnz] at hun
    · simp [Builtin.append_, run_underlying htt, run_underlying hun, sizeOf, typeInfo, zeroValue, hi, hz, hx, hn, h63', h48', Question.forced, newRow, grownCap, h1, h2]
      rw [eZ]; rfl
    · simp [Builtin.append_, run_underlying htt, run_underlying hun, sizeOf, typeInfo, zeroValue, hi, hz, hx, hn, h63', h48', Question.forced, newRow, grownCap, h1, h2]
      rw [eZ]; rfl

/-- There is room: it is written in place. -/
theorem run_app_in {t u ty e : TypeId} {ti tu tj : TI} {w : World} (ht : TIok P t ti) (hti : ti.und = .slice e) (hu : TIok P u tu) (hnz : tu.und = .string ∨ ∃ e', tu.und = .slice e') (hj : TIok P e tj) {a : Addr} {n cap n2 : Nat} {x : Value} {news : List Value} {w' : World}
    (hx : (Builtin.lenOf x).run P w = .ok n2 w) (hnew : (Builtin.firstCells tj.size n2 x).run P w = .ok news.toArray w) (hg : n + n2 ≤ cap) (hst : (storeCells (a.add (n * tj.size)) news).run P w = .ok () w') :
    (Builtin.append_ #[t, u] ty #[.slice (some a) n cap, x]).run P w = .ok (.slice (some a) (n + n2) cap) w' := by
  have htt := ht.und
  rw [hti] at htt
  have hun := hu.und
  have hsz := hj.run_size w
  rcases hnz with hnz | ⟨e', hnz⟩ <;> rw [hnz] at hun
  · simp [Builtin.append_, run_underlying htt, run_underlying hun, hx, hg, hsz, hnew, hst]
  · simp [Builtin.append_, run_underlying htt, run_underlying hun, hx, hg, hsz, hnew, hst]

theorem run_app_none {t u ty e : TypeId} {ti tu tj : TI} {w : World} (ht : TIok P t ti) (hti : ti.und = .slice e) (hu : TIok P u tu) (hnz : tu.und = .string ∨ ∃ e', tu.und = .slice e') (hj : TIok P e tj) {x : Value} {news : List Value}
    (hx : (Builtin.lenOf x).run P w = .ok 0 w) (hnew : (Builtin.firstCells tj.size 0 x).run P w = .ok news.toArray w) :
    (Builtin.append_ #[t, u] ty #[.slice none 0 0, x]).run P w = .ok (.slice none 0 0) w := by
  have htt := ht.und
  rw [hti] at htt
  have hun := hu.und
  have hsz := hj.run_size w
  rcases hnz with hnz | ⟨e', hnz⟩ <;> rw [hnz] at hun
  · simp [Builtin.append_, run_underlying htt, run_underlying hun, hx, hsz, hnew]
  · simp [Builtin.append_, run_underlying htt, run_underlying hun, hx, hsz, hnew]

/-- A new row: its cells, the old ones and the new ones. -/
noncomputable def grow (e : TypeId) (tj : TI) (m : Mem) (old new : List C) (need : Nat) (k : C → Mem → R) : R :=
  onB (Nat.ble need 1048576) (onB (Nat.ble (Nat.mul need tj.bytes) 140737488355328) (onB (Nat.blt m.nx 65536) (k (.sl m.nx 0 need true tj.size) (m.add (.cells e (Nat.mul need tj.size) (old ++ new) 0 true))) none) none) none

noncomputable def oApp (e : TypeId) (tj : TI) (ax : Acc) (s : Src) : Opc :=
  ⟨fun st vs m k => ax.g st vs fun c => s.f st vs m fun new n2 => c.onSls
    (fun b q n u cp => onB (Nat.beq n2 0) (onB (onB u true (Nat.ble n cp)) (k (.sl b q n u cp) m) none)
      (onB u
        (onB (Nat.beq cp tj.size) (onBlk (m.at b) fun ty nn cs fz wr => onB (onB wr (Nat.beq ty e) false) (onB (Nat.ble fz (Nat.add q (Nat.mul n tj.size))) (onB (Nat.ble (Nat.add q (Nat.mul n tj.size)) nn)
          (onB (Nat.ble (Nat.add n n2) 1048576) (onB (Nat.ble (Nat.mul (Nat.add n n2) tj.bytes) 140737488355328) (onB (Nat.blt m.nx 65536)
            (k (.sl m.nx 0 (Nat.add n n2) true cp) ((m.put b .dead).add (.cells e (Nat.mul (Nat.add n n2) tj.size) (sub cs q (Nat.mul n tj.size) nn ++ new) (Nat.sub fz q) true))) none) none) none) none) none) none) none)
        (onB (Nat.ble (Nat.add n n2) cp)
          (onBlk (m.at b) fun ty nn cs fz wr => onB wr (onB (Nat.ble fz (Nat.add q (Nat.mul n tj.size))) (onB (Nat.ble (Nat.add q (Nat.mul (Nat.add n n2) tj.size)) nn)
            (k (.sl b q (Nat.add n n2) false cp) (m.put b (.cells ty nn (spliceR cs (Nat.add q (Nat.mul n tj.size)) (Nat.mul n2 tj.size) nn new) fz true))) none) none) none)
          (onB (Nat.beq n 0) (grow e tj m [] new n2 k) (onBlk (m.at b) fun _ nn cs _ _ => onB (Nat.ble (Nat.add q (Nat.mul n tj.size)) nn) (grow e tj m (sub cs q (Nat.mul n tj.size) nn) new (Nat.add n n2) k) none)))))
    (onB (Nat.beq n2 0) (k .nils m) (grow e tj m [] new n2 k))⟩

theorem grow_inv {e : TypeId} {tj : TI} {m : Mem} {old new : List C} {need : Nat} {k : C → Mem → R} {r : C × Mem} (h : grow e tj m old new need k = some r) :
    need ≤ 1048576 ∧ need * tj.bytes ≤ 140737488355328 ∧ m.nx < 65536 ∧ k (.sl m.nx 0 need true tj.size) (m.add (.cells e (need * tj.size) (old ++ new) 0 true)) = some r := by
  unfold grow at h
  obtain ⟨h1, h2⟩ := onB_inv h
  obtain ⟨h3, h4⟩ := onB_inv h2
  obtain ⟨h5, h6⟩ := onB_inv h4
  exact ⟨ble_le h1, ble_le h3, blt_lt h5, h6⟩

/-- What a grown row comes to. -/
theorem grow_ok {wb : World} {ε : Ev} {m : Mem} {w : World} (hm : MRel wb ε m w) {e : TypeId} {tj : TI} (hsz : 0 < tj.size) {old new : List C} {lo ln : List Value} {need nc : Nat} (hnx : m.nx < 65536) (ho : C.reals ε old = some lo) (hn : C.reals ε new = some ln)
    (co : old.all C.cell = true) (cn : new.all C.cell = true) (hl : old.length + new.length = need * tj.size) (hnc : need ≤ nc) {zs : Array Value} (hzs : zs.size = (nc - need) * tj.size) {d : Nat} :
    MRel wb (ε.with m.nx ⟨w.heap.size, 0, nc * tj.size⟩) (m.add (.cells e (need * tj.size) (old ++ new) 0 true)) { w with heap := w.heap.push (.cells ((lo ++ ln).toArray ++ zs) e), drawn := d } ∧
      C.real (ε.with m.nx ⟨w.heap.size, 0, nc * tj.size⟩) (.sl m.nx 0 need true tj.size) = some (.slice (some ⟨w.heap.size, 0, none⟩) need nc) := by
  have h1 := reals_append ho hn
  have hlo := reals_length ho
  have hln := reals_length hn
  have hmul : need * tj.size + (nc - need) * tj.size = nc * tj.size := by rw [← Nat.add_mul]; congr 1; omega
  refine ⟨?_, ?_⟩
  · have := (hm.newArr hnx e h1 (by simp [co, cn]) (by simpa using hl.symm) 0 ((lo ++ ln).toArray ++ zs) (fun j hj => by
      rw [Array.getElem?_append_left (by simp at hj ⊢; omega)]; simp) (len := nc * tj.size) (lo := 0) (hi := 0) (by simp; omega) (by simp; omega) (fun j _ => by omega)).drew d
    exact this
  · simp only [C.real, Ev.with_at, Option.bind_some, capOf, if_true, Nat.sub_zero, Nat.mul_div_cancel _ hsz]
    rw [if_pos hnc]

theorem onB_and {a b : Bool} (h : onB a b false = true) : a = true ∧ b = true := by
  cases a
  · cases h
  · exact ⟨rfl, h⟩

theorem oApp_ok {t u e : TypeId} {x y : Operand} {ti tu tj : TI} {ax : Acc} {s : Src} (ho : o.op = .call ⟨.builtin .append, #[x, y], #[t, u]⟩) (ht : tiOf P t = some ti) (hti : ti.und = .slice e) (hu : tiOf P u = some tu) (hnz : tu.und = .string ∨ ∃ e', tu.und = .slice e')
    (hj : tiOf P e = some tj) (hsz : 0 < tj.size) (hx : AccOk sf g x ax) (hs : SrcOk P sf g y tj.size s) : OpOk P sf g o (oApp e tj ax s) := by
  intro st vs m k r h
  have hokt := tiOf_ok ht
  have hoku := tiOf_ok hu
  have hokj := tiOf_ok hj
  obtain ⟨c, h1, h2⟩ := hx _ _ _ _ h
  obtain ⟨new, n2, h3, h4⟩ := hs _ _ _ _ _ h1
  have run : ∀ (a : Act) (w : World) (v : Value) (w' : World), (Builtin.append_ #[t, u] o.type #[a.eval x, a.eval y]).run P w = .ok v w' → (execOp a.eval o).run P w = .ok (.value v) w' := by
    intro a w v w' hr
    simp [execOp, ho, resolve, invoke, builtin, hr]
  have toGrow : ∀ (old : List C) (need : Nat), grow e tj m old new need k = some r →
      (∀ wb ε a w, SRel sf ε g st vs a → MRel wb ε m w → ∃ (base : Option Addr) (n cap : Nat) (lo : List Value), a.eval x = .slice base n cap ∧ n + n2 = need ∧ cap < need ∧ old.length = n * tj.size ∧ old.all C.cell = true ∧ C.reals ε old = some lo ∧
        ∀ d, (Builtin.firstCells tj.size n (.slice base n cap)).run P { w with drawn := d } = .ok lo.toArray { w with drawn := d }) →
      ∃ c m', k c m' = some r ∧ m'.df = m.df ∧ ∀ wb ε a w, SRel sf ε g st vs a → MRel wb ε m w →
        ∃ ε' v w', ε.le ε' ∧ C.real ε' c = some v ∧ MRel wb ε' m' w' ∧ ((execOp a.eval o).run P w = .ok (.value v) w' ∨ ((execOp a.eval o).run P w = .ok .skip w' ∧ v = Go.undef)) := by
    intro old need hg hold
    obtain ⟨g1, g2, g3, g4⟩ := grow_inv hg
    refine ⟨_, _, g4, rfl, fun wb ε a w hs' hm => ?_⟩
    obtain ⟨base, n, cap, lo, e1, e2, e3, e4, e5, e6, e7⟩ := hold wb ε a w hs' hm
    obtain ⟨f1, f2, f3, ln, f4, f5⟩ := h4 wb ε a w hs' hm
    obtain ⟨nc, zs, k1, k2, k3⟩ := run_app_grow (P := P) (ty := o.type) (w := w) hokt hti hoku hnz hokj (x := a.eval y) (f3 w) e7 f5 (by omega) (by omega) (by rw [e2]; exact g2)
    rw [e2] at k1 k2 k3
    obtain ⟨p1, p2⟩ := grow_ok hm (e := e) (tj := tj) hsz g3 e6 f4 e5 f2 (by rw [e4, f1, ← Nat.add_mul, e2]) k1 k2 (d := w.drawn + 1)
    exact ⟨_, _, _, hm.with_le _, p2, p1, .inl (run a w _ _ (by rw [e1]; exact k3))⟩
  rcases C.onSls_inv h3 with ⟨b, q, n, uu, cp, rfl, h5⟩ | ⟨rfl, h5⟩
  · rcases onB_cases h5 with ⟨h6, h7⟩ | ⟨h6, h7⟩
    · -- nothing is appended
      have e0 := Nat.eq_of_beq_eq_true h6
      subst e0
      obtain ⟨_, h8⟩ := onB_inv h7
      refine ⟨_, _, h8, rfl, fun wb ε a w hs' hm => ?_⟩
      obtain ⟨z, z1, z2, z3⟩ := real_sl (h2 ε a hs')
      obtain ⟨f1, f2, f3, ln, f4, f5⟩ := h4 wb ε a w hs' hm
      have hln : ln = [] := by
        have := reals_length f4
        rw [f1] at this
        simpa using this
      subst hln
      have hr := run_app_in (P := P) (ty := o.type) (w := w) (w' := w) hokt hti hoku hnz hokj (a := ⟨z.blk, z.base + q, none⟩) (n := n) (cap := capOf z q uu cp) (x := a.eval y) (news := []) (f3 w) (by have := f5 w.drawn; exact this) (by omega) (by simp [storeCells])
      exact ⟨ε, _, w, Ev.le.refl ε, h2 ε a hs', hm, .inl (run a w _ _ (by rw [z3]; exact hr))⟩
    · have hn2 : 0 < n2 := by
        rcases Nat.eq_zero_or_pos n2 with h | h
        · subst h; simp at h6
        · exact h
      rcases onB_cases h7 with ⟨rfl, h8⟩ | ⟨rfl, h8⟩
      · -- room unknown
        obtain ⟨h9, h10⟩ := onB_inv h8
        have hcp := Nat.eq_of_beq_eq_true h9
        subst hcp
        obtain ⟨ty, nn, cs, fz, wr, h11, h12⟩ := onBlk_inv h10
        obtain ⟨hwt, h13⟩ := onB_inv h12
        obtain ⟨rfl, hty⟩ := onB_and hwt
        have hty' := Nat.eq_of_beq_eq_true hty
        subst hty'
        obtain ⟨h14, h15⟩ := onB_inv h13
        obtain ⟨h16, h17⟩ := onB_inv h15
        obtain ⟨h18, h19⟩ := onB_inv h17
        obtain ⟨h20, h21⟩ := onB_inv h19
        obtain ⟨h22, h23⟩ := onB_inv h21
        refine ⟨_, _, h23, rfl, fun wb ε a w hs' hm => ?_⟩
        obtain ⟨z, z1, z2, z3⟩ := real_sl (h2 ε a hs')
        obtain ⟨f1, f2, f3, ln, f4, f5⟩ := h4 wb ε a w hs' hm
        have hfz : fz ≤ q + n * tj.size := ble_le h14
        have hnn : q + n * tj.size ≤ nn := ble_le h16
        obtain ⟨q1, q2, lv, q3, q4⟩ := hm.row z1 h11
        have hold := reals_take (n * tj.size) (reals_drop q q3)
        have holen : ((cs.drop q).take (n * tj.size)).length = n * tj.size := by simp; omega
        have he : sub cs q (Nat.mul n tj.size) nn = (cs.drop q).take (n * tj.size) := sub_eq q1 hnn
        rw [he]
        have hvl := reals_length hold
        rw [holen] at hvl
        have hll := reals_length f4
        rw [f1] at hll
        have hcells := reals_append hold f4
        have hac : ((cs.drop q).take (n * tj.size) ++ new).all C.cell = true := by
          rw [List.all_append, all_sub q2 _ _, f2]; rfl
        have hlen2 : ((cs.drop q).take (n * tj.size) ++ new).length = (n + n2) * tj.size := by rw [List.length_append, holen, f1, Nat.add_mul]
        simp only [capOf, if_true] at z2
        rcases Nat.lt_or_ge (capOf z q true tj.size) (n + n2) with hroom | hroom
        · -- a new row
          have hofc : ∀ d, (Builtin.firstCells tj.size n (.slice (some ⟨z.blk, z.base + q, none⟩) n (capOf z q true tj.size))).run P { w with drawn := d } = .ok ((lv.drop q).take (n * tj.size)).toArray { w with drawn := d } := fun d =>
            run_firstCells_some (P := P) { w with drawn := d } tj.size n ⟨z.blk, z.base + q, none⟩ n _ _ hvl (fun j v hj => by
              have hjl : j < n * tj.size := by
                rcases Nat.lt_or_ge j (n * tj.size) with h | h
                · exact h
                · rw [List.getElem?_eq_none (by omega)] at hj; cases hj
              rw [List.getElem?_take_of_lt hjl, List.getElem?_drop] at hj
              rw [addr_add, Nat.add_assoc]
              exact q4 (q + j) v hj)
          obtain ⟨nc, zs, k1, k2, k3⟩ := run_app_grow (P := P) (ty := o.type) (w := w) hokt hti hoku hnz hokj (x := a.eval y) (f3 w) hofc f5 hroom (ble_le h18) (ble_le h20)
          have hmul : (n + n2) * tj.size + (nc - (n + n2)) * tj.size = nc * tj.size := by rw [← Nat.add_mul]; congr 1; omega
          have hd := hm.kill h11 rfl z1
          have hcl := reals_length hcells
          have hnew := (hd.newArr (blt_lt h22) ty hcells hac (n := (n + n2) * tj.size) hlen2.symm (fz - q) (((lv.drop q).take (n * tj.size) ++ ln).toArray ++ zs) (fun j hj => by
            rw [Array.getElem?_append_left (by simp only [List.size_toArray]; omega)]; simp) (len := nc * tj.size) (lo := 0) (hi := 0) (by rw [hlen2]; omega) (by simp only [Array.size_append, List.size_toArray]; omega) (fun j _ => by omega)).drew (w.drawn + 1)
          refine ⟨_, .slice (some ⟨w.heap.size, 0, none⟩) (n + n2) nc, _, hm.with_le _, ?_, hnew, .inl (run a w _ _ (by rw [z3]; exact k3))⟩
          show C.real (ε.with m.nx ⟨w.heap.size, 0, nc * tj.size⟩) (.sl m.nx 0 (n + n2) true tj.size) = _
          simp only [C.real, Ev.with_at, Option.bind_some, capOf, if_true, Nat.sub_zero, Nat.mul_div_cancel _ hsz]
          rw [if_pos k1]
        · -- in place
          obtain ⟨y0, hy0, hB, hbase⟩ := hm.blk b _ (hm.lt_nx z1) h11 rfl
          rw [z1] at hy0
          cases hy0
          obtain ⟨arr, lo, hi, vs0, b1, b2, b3, b4, b5, b6, b7, b8⟩ := hB
          rw [q3] at b6
          cases b6
          have hlenx : q + (n + n2) * tj.size ≤ z.len := by
            simp only [capOf, if_true] at hroom
            have h1 : (n + n2) * tj.size ≤ (z.len - q) / tj.size * tj.size := Nat.mul_le_mul_right _ hroom
            have h2 := Nat.div_mul_le_self (z.len - q) tj.size
            have h3 : 0 < (n + n2) * tj.size := Nat.mul_pos (by omega) hsz
            omega
          have hsum : (n + n2) * tj.size = n * tj.size + n2 * tj.size := Nat.add_mul _ _ _
          obtain ⟨arr', r1, r2, r3⟩ := run_storeCells_arr P z.blk (z.base + q + n * tj.size) ty lo hi ln 0 arr w b1 (by omega) (reals_oneCell f4 f2) (fun j hj => by
            have := b8 (q + n * tj.size + j) (by omega) (by omega)
            rwa [show z.base + q + n * tj.size + 0 + j = z.base + (q + n * tj.size + j) from by omega])
          have hlt : z.blk < w.heap.size := (Array.getElem?_eq_some_iff.1 b1).1
          have htake := hm.take (blt_lt h22) h11 rfl z1 rfl (y := ⟨z.blk, z.base + q, z.len - q⟩) rfl (o := .cells arr' ty (lo, hi)) (B' := .cells ty ((n + n2) * tj.size) ((cs.drop q).take (n * tj.size) ++ new) (fz - q) true) (by
            have hcl := reals_length hcells
            refine ⟨arr', lo, hi, _, by simp [hlt], hlen2.symm, ?_, ?_, hac, C.reals_le (hm.with_le _) hcells, fun j hj => ?_, fun j hj1 hj2 => ?_⟩
            · show _ ≤ z.len - q
              rw [hlen2]; omega
            · show z.base + q + (z.len - q) ≤ arr'.size
              rw [r2]; omega
            · show arr'[z.base + q + j]? = _
              rw [hlen2] at hj
              rw [r3]
              rcases Nat.lt_or_ge j (n * tj.size) with hjn | hjn
              · rw [if_neg (by omega), List.getElem?_append_left (by omega), List.getElem?_take_of_lt hjn, List.getElem?_drop, ← b7 (q + j) (by omega)]
                congr 1; omega
              · rw [if_pos (by omega), List.getElem?_append_right (by omega), hvl]
                congr 1; omega
            · have h1 : fz - q ≤ j := hj1
              have h2 : j < z.len - q := hj2
              have := b8 (q + j) (by omega) (by omega)
              show ¬ (lo ≤ z.base + q + j ∧ z.base + q + j < hi)
              rwa [Nat.add_assoc])
          have hr := run_app_in (P := P) (ty := o.type) (w := w) hokt hti hoku hnz hokj (a := ⟨z.blk, z.base + q, none⟩) (n := n) (cap := capOf z q true tj.size) (x := a.eval y) (news := ln) (f3 w) (f5 w.drawn) hroom (by rw [addr_add]; exact r1)
          refine ⟨_, _, _, hm.with_le _, ?_, htake, .inl (run a w _ _ (by rw [z3]; exact hr))⟩
          show C.real (ε.with m.nx ⟨z.blk, z.base + q, z.len - q⟩) (.sl m.nx 0 (n + n2) true tj.size) = _
          simp only [C.real, Ev.with_at, Option.bind_some, capOf, if_true, Nat.sub_zero]
          simp only [capOf, if_true] at hroom
          rw [if_pos hroom]; rfl
      · -- room known
        rcases onB_cases h8 with ⟨h9, h10⟩ | ⟨h9, h10⟩
        · obtain ⟨ty, nn, cs, fz, wr, h11, h12⟩ := onBlk_inv h10
          obtain ⟨rfl, h13⟩ := onB_inv h12
          obtain ⟨h14, h15⟩ := onB_inv h13
          obtain ⟨h16, h17⟩ := onB_inv h15
          refine ⟨_, _, h17, rfl, fun wb ε a w hs' hm => ?_⟩
          obtain ⟨z, z1, z2, z3⟩ := real_sl (h2 ε a hs')
          obtain ⟨f1, f2, f3, ln, f4, f5⟩ := h4 wb ε a w hs' hm
          obtain ⟨q1, q2, lv, q3, q4⟩ := hm.row z1 h11
          have hroom : n + n2 ≤ cp := ble_le h9
          have hnn : q + (n + n2) * tj.size ≤ nn := ble_le h16
          have hsum : (n + n2) * tj.size = n * tj.size + n2 * tj.size := Nat.add_mul _ _ _
          obtain ⟨w', s1, s2⟩ := hm.write (P := P) z1 h11 (q := q + n * tj.size) f4 f2 (by omega) (ble_le h14)
          have he : spliceR cs (Nat.add q (Nat.mul n tj.size)) (Nat.mul n2 tj.size) nn new = splice cs (q + n * tj.size) new := spliceR_eq q1 f1.symm (by simp only [nadd, nmul]; omega)
          rw [he]
          have hr := run_app_in (P := P) (ty := o.type) (w := w) (w' := w') hokt hti hoku hnz hokj (a := ⟨z.blk, z.base + q, none⟩) (n := n) (cap := capOf z q false cp) (x := a.eval y) (news := ln) (f3 w) (f5 w.drawn) hroom (by rw [addr_add, Nat.add_assoc]; exact s1)
          refine ⟨ε, _, w', Ev.le.refl ε, ?_, s2, .inl (run a w _ _ (by rw [z3]; exact hr))⟩
          show C.real ε (.sl b q (n + n2) false cp) = _
          simp only [C.real, z1, Option.bind_some, capOf, Bool.false_eq_true, if_false]
          rw [if_pos hroom]
        · have hroom : cp < n + n2 := by
            rcases Nat.lt_or_ge cp (n + n2) with h | h
            · exact h
            · have : Nat.ble (n + n2) cp = true := Nat.ble_eq ▸ h
              have h9' : Nat.ble (n + n2) cp = false := h9
              rw [this] at h9'; cases h9'
          rcases onB_cases h10 with ⟨h11, h12⟩ | ⟨h11, h12⟩
          · have e0 := Nat.eq_of_beq_eq_true h11
            subst e0
            refine toGrow [] n2 h12 fun wb ε a w hs' hm => ?_
            obtain ⟨z, z1, z2, z3⟩ := real_sl (h2 ε a hs')
            refine ⟨_, 0, _, [], z3, by omega, by show cp < n2; omega, by simp, rfl, by simp [C.reals], fun d => ?_⟩
            exact run_firstCells_some (P := P) { w with drawn := d } tj.size 0 _ _ _ [] (by simp) (fun j v hj => by simp at hj)
          · obtain ⟨ty, nn, cs, fz, wr, h13, h14⟩ := onBlk_inv h12
            obtain ⟨h15, h16⟩ := onB_inv h14
            refine toGrow _ _ h16 fun wb ε a w hs' hm => ?_
            obtain ⟨z, z1, z2, z3⟩ := real_sl (h2 ε a hs')
            obtain ⟨q1, q2, lv, q3, q4⟩ := hm.row z1 h13
            have hnn : q + n * tj.size ≤ nn := ble_le h15
            have hold := reals_take (n * tj.size) (reals_drop q q3)
            have holen : ((cs.drop q).take (n * tj.size)).length = n * tj.size := by simp; omega
            have he : sub cs q (Nat.mul n tj.size) nn = (cs.drop q).take (n * tj.size) := sub_eq q1 hnn
            have hvl := reals_length hold
            rw [holen] at hvl
            rw [he]
            refine ⟨_, n, _, _, z3, rfl, hroom, holen, all_sub q2 _ _, hold, fun d => ?_⟩
            exact run_firstCells_some (P := P) { w with drawn := d } tj.size n ⟨z.blk, z.base + q, none⟩ n _ _ hvl (fun j v hj => by
              have hjl : j < n * tj.size := by
                rcases Nat.lt_or_ge j (n * tj.size) with h | h
                · exact h
                · rw [List.getElem?_eq_none (by omega)] at hj; cases hj
              rw [List.getElem?_take_of_lt hjl, List.getElem?_drop] at hj
              rw [addr_add, Nat.add_assoc]
              exact q4 (q + j) v hj)
  · rcases onB_cases h5 with ⟨h6, h7⟩ | ⟨h6, h7⟩
    · have e0 := Nat.eq_of_beq_eq_true h6
      subst e0
      refine ⟨_, _, h7, rfl, fun wb ε a w hs' hm => ?_⟩
      obtain ⟨f1, f2, f3, ln, f4, f5⟩ := h4 wb ε a w hs' hm
      have r1 := h2 ε a hs'
      simp only [C.real, Option.some.injEq] at r1
      have hr := run_app_none (P := P) (ty := o.type) (w := w) hokt hti hoku hnz hokj (x := a.eval y) (f3 w) (f5 w.drawn)
      exact ⟨ε, _, w, Ev.le.refl ε, rfl, hm, .inl (run a w _ _ (by rw [← r1]; exact hr))⟩
    · have hn2 : 0 < n2 := by
        rcases Nat.eq_zero_or_pos n2 with h | h
        · subst h; simp at h6
        · exact h
      refine toGrow [] n2 h7 fun wb ε a w hs' hm => ?_
      have r1 := h2 ε a hs'
      simp only [C.real, Option.some.injEq] at r1
      exact ⟨none, 0, 0, [], r1.symm, by omega, hn2, by simp, rfl, by simp [C.reals], fun d => by simp [Builtin.firstCells]⟩

end

end Go.Proofs.YtoihipolfdhhnaaGreatDoor.Vm
