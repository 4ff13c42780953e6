/-
  Vm, ninth part: structs and rows that are built; closures, tuples; conversions; interface values; tests against nothing.
-/
import Derived.Test.YtoihipolfdhhnaaGreatDoorVH
namespace Go.Proofs.YtoihipolfdhhnaaGreatDoor.Vm

/- ZEROS -/

def zerosL (z : List C) : Nat → List C
  | 0 => []
  | n + 1 => z ++ zerosL z n

theorem zerosL_length (z : List C) : ∀ n, (zerosL z n).length = n * z.length
  | 0 => by simp [zerosL]
  | n + 1 => by simp [zerosL, zerosL_length z n, Nat.add_mul]; omega

theorem zerosL_all {z : List C} (h : z.all C.cell = true) : ∀ n, (zerosL z n).all C.cell = true
  | 0 => rfl
  | n + 1 => by simp only [zerosL, List.all_append, h, zerosL_all h n, Bool.and_self]

def rep {α : Type} (z : List α) : Nat → List α
  | 0 => []
  | n + 1 => z ++ rep z n

theorem zerosL_reals {ε : Ev} {z : List C} {zs : List Value} (h : C.reals ε z = some zs) : ∀ n, C.reals ε (zerosL z n) = some (rep zs n)
  | 0 => by simp [zerosL, rep, C.reals]
  | n + 1 => reals_append h (zerosL_reals h n)

theorem rep_length {α : Type} (z : List α) : ∀ n, (rep z n).length = n * z.length
  | 0 => by simp [rep]
  | n + 1 => by simp [rep, rep_length z n, Nat.add_mul]; omega

theorem rep_get {α : Type} (z : List α) : ∀ (n i : Nat), i < n * z.length → (rep z n)[i]? = z[i % z.length]?
  | 0, i, h => by simp at h
  | n + 1, i, h => by
    rw [Nat.add_mul, Nat.one_mul] at h
    simp only [rep]
    rcases Nat.lt_or_ge i z.length with h1 | h1
    · rw [List.getElem?_append_left h1, Nat.mod_eq_of_lt h1]
    · rw [List.getElem?_append_right h1, rep_get z n (i - z.length) (by omega), Nat.mod_eq_sub_mod h1]

theorem range_rep (zs : List Value) (n : Nat) : (Array.range (n * zs.length)).map (fun i => zs.toArray[i % zs.toArray.size]!) = (rep zs n).toArray := by
  apply Array.ext'
  apply List.ext_getElem?
  intro i
  by_cases hi : i < n * zs.length
  · have h1 : 0 < zs.length := by
      rcases Nat.eq_zero_or_pos zs.length with h | h
      · rw [h] at hi; simp at hi
      · exact h
    have h2 := Nat.mod_lt i h1
    have h3 := rep_get zs n i hi
    simp only [List.getElem?_toArray] at *
    simp [hi, h3, h2]
  · have h4 := rep_length zs n
    rw [List.getElem?_eq_none (by simp; omega), List.getElem?_eq_none (by simp; omega)]

section
variable {P : Program} {sf : SF} {g : List Nat} {o : Oper}

/- WHAT IS BUILT -/

structure FK where
  f : List C → Tr C → List C → (List C → R) → R

noncomputable def fkOf (sf : SF) (g : List Nat) (place : Nat → Option (Nat × TI)) (total : Nat) : List (Nat × Operand) → FK
  | [] => ⟨fun _ _ cs k => k cs⟩
  | (i, x) :: rest => match place i with
    | none => ⟨fun _ _ _ _ => none⟩
    | some (off, tj) => if off + tj.size ≤ total then (match tj.agg with
        | true => ⟨fun st vs cs k => (cOpd sf g x).g st vs fun c => c.onAgg fun s l => onB (Nat.beq s tj.size) ((fkOf sf g place total rest).f st vs (spliceR cs off tj.size total l) k) none⟩
        | false => if tj.size = 1 then ⟨fun st vs cs k => (cOpd sf g x).g st vs fun c => onB c.isCell ((fkOf sf g place total rest).f st vs (setNth c cs off) k) none⟩ else ⟨fun _ _ _ _ => none⟩) else ⟨fun _ _ _ _ => none⟩

theorem list_step {α : Type} (cur : List α) (m : Nat) (v : α) (vs : List α) (h : m + (vs.length + 1) ≤ cur.length) :
    (cur.set m v).take (m + 1) ++ vs ++ (cur.set m v).drop (m + 1 + vs.length) = cur.take m ++ v :: vs ++ cur.drop (m + (vs.length + 1)) := by
  rw [List.set_eq_take_append_cons_drop, if_pos (by omega)]
  have hA : (cur.take m).length = m := by simp; omega
  have h1 : (cur.take m ++ v :: cur.drop (m + 1)).take (m + 1) = cur.take m ++ [v] := by
    rw [List.take_append, hA, show m + 1 - m = 1 from by omega, List.take_of_length_le (by omega)]; rfl
  have h2 : (cur.take m ++ v :: cur.drop (m + 1)).drop (m + 1 + vs.length) = cur.drop (m + (vs.length + 1)) := by
    rw [List.drop_append, hA, List.drop_of_length_le (by omega), show m + 1 + vs.length - m = vs.length + 1 from by omega, List.nil_append, List.drop_succ_cons, List.drop_drop]
    congr 1; omega
  rw [h1, h2]; simp

theorem foldl_put (off : Nat) : ∀ (vs : List Value) (k : Nat) (cs : List Value), off + k + vs.length ≤ cs.length →
    (vs.zipIdx k).foldl (fun (c : Array Value) (x : Value × Nat) => c.setIfInBounds (off + x.2) x.1) cs.toArray = (cs.take (off + k) ++ vs ++ cs.drop (off + k + vs.length)).toArray
  | [], k, cs, _ => by simp
  | v :: vs, k, cs, h => by
    simp only [List.length_cons] at h
    have ih := foldl_put off vs (k + 1) (cs.set (off + k) v) (by simp; omega)
    simp only [List.zipIdx_cons, List.foldl_cons]
    have hs : cs.toArray.setIfInBounds (off + k) v = (cs.set (off + k) v).toArray := by simp
    rw [hs, ih]
    apply congrArg List.toArray
    have := list_step cs (off + k) v vs (by omega)
    rw [show off + (k + 1) = off + k + 1 from by omega, this]
    rfl

theorem fill_step {rp : Nat → Option (Nat × Nat)} {i off sz : Nat} {v : Value} {lv v0 : List Value} {rest : List (Nat × Value)} (hp : rp i = some (off, sz)) (hc : v.cells = lv.toArray) (hl : lv.length = sz) (hle : off + sz ≤ v0.length) :
    Instr.fill rp v0.toArray ((i, v) :: rest) = Instr.fill rp (v0.take off ++ lv ++ v0.drop (off + lv.length)).toArray rest := by
  simp only [Instr.fill, hp, hc]
  have : ¬ ((lv.toArray.size ≠ sz || off + lv.toArray.size > v0.toArray.size) = true) := by simp [hl]; omega
  rw [if_neg this]
  have hfo := foldl_put off lv 0 v0 (by omega)
  simp only [Nat.add_zero] at hfo
  rw [← Array.foldl_toList, Array.toList_zipIdx, hfo]

theorem fkOf_ok {place : Nat → Option (Nat × TI)} {total : Nat} {rp : Nat → Option (Nat × Nat)} (hp : ∀ i off tj, place i = some (off, tj) → rp i = some (off, tj.size)) : ∀ (parts : List (Nat × Operand)) (st : List C) (vs : Tr C) (cs : List C) (k : List C → R) (r : C × Mem),
    (fkOf sf g place total parts).f st vs cs k = some r → ∃ cs', k cs' = some r ∧ ∀ ε a, SRel sf ε g st vs a → cs.length = total → cs.all C.cell = true → ∀ v0, C.reals ε cs = some v0 →
      cs'.length = total ∧ cs'.all C.cell = true ∧ ∃ v1, C.reals ε cs' = some v1 ∧ Instr.fill rp v0.toArray (parts.map fun x => (x.1, a.eval x.2)) = some v1.toArray
  | [], st, vs, cs, k, r, h => ⟨cs, h, fun ε a hs hl hc v0 hv => ⟨hl, hc, v0, hv, rfl⟩⟩
  | (i, x) :: rest, st, vs, cs, k, r, h => by
    unfold fkOf at h
    split at h
    · cases h
    · rename_i off tj hpl
      split at h
      · rename_i hle
        split at h
        · rename_i hag
          obtain ⟨c, h1, h2⟩ := cOpd_ok sf g x _ _ _ _ h
          obtain ⟨s, l, rfl, h3⟩ := C.onAgg_inv h1
          obtain ⟨h4, h5⟩ := onB_inv h3
          have hs' := Nat.eq_of_beq_eq_true h4
          obtain ⟨cs', h6, h8⟩ := fkOf_ok hp rest st vs _ k r h5
          refine ⟨cs', h6, fun ε a hs hl hc v0 hv => ?_⟩
          obtain ⟨h9, h10, lv, h11, h12⟩ := real_a (h2 ε a hs)
          have he : spliceR cs off tj.size total l = splice cs off l := spliceR_eq hl.symm (by omega) hle
          rw [he] at h8
          have hvl := reals_length hv
          have hlv := reals_length h11
          have hv1 : C.reals ε (splice cs off l) = some (v0.take off ++ lv ++ v0.drop (off + lv.length)) := by
            have := reals_append (reals_append (reals_take off hv) h11) (reals_drop (off + l.length) hv)
            rw [hlv]
            exact this
          obtain ⟨h16, h13, v1, h14, h15⟩ := h8 ε a hs (by unfold splice; rw [splice_len cs l off (by omega)]; exact hl) (all_splice off hc h10) _ hv1
          refine ⟨h16, h13, v1, h14, ?_⟩
          rw [List.map_cons, fill_step (lv := lv) (hp i off tj hpl) (by simp [h12, Value.cells]) (by omega) (by omega)]
          exact h15
        · rename_i hag
          split at h
          · rename_i hsz
            obtain ⟨c, h1, h2⟩ := cOpd_ok sf g x _ _ _ _ h
            obtain ⟨h3, h4⟩ := onB_inv h1
            rw [C.isCell_eq] at h3
            obtain ⟨cs', h6, h8⟩ := fkOf_ok hp rest st vs _ k r h4
            refine ⟨cs', h6, fun ε a hs hl hc v0 hv => ?_⟩
            have h9 := h2 ε a hs
            have hone := C.real_oneCell h9 h3
            have he : setNth c cs off = splice cs off [c] := by rw [setNth_eq, set_splice cs off c (by omega)]
            rw [he] at h8
            have hvl := reals_length hv
            have hv1 : C.reals ε (splice cs off [c]) = some (v0.take off ++ [a.eval x] ++ v0.drop (off + [a.eval x].length)) :=
              reals_append (reals_append (reals_take off hv) (reals_of h9 (by simp [C.reals]))) (reals_drop (off + 1) hv)
            obtain ⟨h16, h13, v1, h14, h15⟩ := h8 ε a hs (by unfold splice; rw [splice_len cs [c] off (by simp; omega)]; exact hl) (all_splice off hc (by simp [h3])) _ hv1
            refine ⟨h16, h13, v1, h14, ?_⟩
            rw [List.map_cons, fill_step (lv := [a.eval x]) (hp i off tj hpl) (cells_of_oneCell hone) (by simp [hsz]) (by omega)]
            exact h15
          · cases h
      · cases h

/-- The places of a struct's fields. -/
def fplace (P : Program) (fs : Array Field) (i : Nat) : Option (Nat × TI) :=
  match fs[i]? with
  | some f => match tiOf P f.type with
    | some tj => some (f.offset, tj)
    | none => none
  | none => none

noncomputable def oBuild (sf : SF) (g : List Nat) (P : Program) (fs : Array Field) (ti : TI) (parts : List (Nat × Operand)) : Opc :=
  ⟨fun st vs m k => (fkOf sf g (fplace P fs) ti.size parts).f st vs ti.zero fun cs => k (.a ti.size cs) m⟩

theorem run_mapM_list {α β : Type} (P : Program) (w : World) (f : α → Sem β) (g : α → β) : ∀ (l : List α), (∀ x ∈ l, (f x).run P w = .ok (g x) w) → (l.mapM f).run P w = .ok (l.map g) w
  | [], _ => by simp
  | x :: l, h => by
    have h1 := h x (by simp)
    have ih := run_mapM_list P w f g l (fun y hy => h y (by simp [hy]))
    simp [List.mapM_cons, h1, ih]

theorem oBuild_ok {t : TypeId} {ti : TI} {fs : Array Field} {parts : Array (Nat × Operand)} (ho : o.op = .build t parts) (ht : tiOf P t = some ti) (hu : ti.und = .struct fs) (hall : fs.toList.all (fun f => (tiOf P f.type).isSome) = true) : FreeOk P sf g o (oBuild sf g P fs ti parts.toList) :=
  fun st vs m k r h => by
    have hok := tiOf_ok ht
    have hp : ∀ i off tj, fplace P fs i = some (off, tj) → ((fs.map fun f => (f.offset, ((tiOf P f.type).map (·.size)).getD 0))[i]?) = some (off, tj.size) := by
      intro i off tj h
      unfold fplace at h
      split at h
      · rename_i f hf
        split at h
        · rename_i tj' htj
          cases h
          simp [hf, htj]
        · cases h
      · cases h
    obtain ⟨cs', h1, h2⟩ := fkOf_ok hp parts.toList st vs _ _ r h
    refine ⟨_, h1, fun ε a w hs => ?_⟩
    obtain ⟨z, hz, hc⟩ := hok.run_zero w ε
    obtain ⟨h3, h4, v1, h5, h6⟩ := h2 ε a hs hok.len hok.cell _ hc
    have hund := hok.run_und w
    rw [hu] at hund
    refine ⟨.agg v1.toArray, by simp only [C.real]; rw [if_pos ⟨h3.symm, h4⟩, h5]; rfl, ?_⟩
    have hm1 : (fs.mapM fun f => do pure (f.offset, ← sizeOf f.type) : Sem (Array (Nat × Nat))).run P w = .ok (fs.map fun f => (f.offset, ((tiOf P f.type).map (·.size)).getD 0)) w := by
      rw [Array.mapM_eq_mapM_toList]
      have := run_mapM_list P w (fun f : Field => (do pure (f.offset, ← sizeOf f.type) : Sem (Nat × Nat))) (fun f => (f.offset, ((tiOf P f.type).map (·.size)).getD 0)) fs.toList (fun f hf => by
        have := List.all_eq_true.1 hall f hf
        obtain ⟨tj, htj⟩ := Option.isSome_iff_exists.1 this
        simp [(tiOf_ok htj).run_size, htj])
      simp only [Sem.run_map, this, Result.andThen_ok]
      refine congrArg (fun x => Result.ok x w) ?_
      apply Array.ext'
      simp
    have hparts : (parts.map fun (i, x) => (i, a.eval x)).toList = parts.toList.map fun x => (x.1, a.eval x.2) := by simp
    simp only [execOp, ho, Instr.build, Sem.run_bind, hz, Result.andThen_ok, hund, hm1, hparts]
    have hzc : z.cells.toList.toArray = z.cells := by simp
    rw [hzc] at h6
    rw [h6]
    rfl

/-- A row that is built, a new block. -/
noncomputable def oBuildSl (sf : SF) (g : List Nat) (e : TypeId) (tj : TI) (len : Nat) (parts : List (Nat × Operand)) : Opc :=
  ⟨fun st vs m k => (fkOf sf g (fun i => some (i * tj.size, tj)) (len * tj.size) parts).f st vs (zerosL tj.zero len) fun cs => onB (Nat.blt m.nx 65536) (k (.sl m.nx 0 len false len) (m.add (.cells e (len * tj.size) cs 0 true))) none⟩

theorem oBuildSl_ok {t e : TypeId} {ti tj : TI} {len : Nat} {parts : Array (Nat × Operand)} (ho : o.op = .buildSlice t len parts) (ht : tiOf P t = some ti) (hu : ti.und = .slice e) (hj : tiOf P e = some tj) (hlen : len * tj.size ≤ 2 ^ 24) : OpOk P sf g o (oBuildSl sf g e tj len parts.toList) := by
  intro st vs m k r h
  have hok := tiOf_ok hj
  obtain ⟨cs', h1, h2⟩ := fkOf_ok (rp := fun i => some (i * tj.size, tj.size)) (fun i off tj' h => by cases h; rfl) parts.toList st vs _ _ r h
  obtain ⟨h7, h8⟩ := onB_inv h1
  refine ⟨_, _, h8, rfl, fun wb ε a w hs hm => ?_⟩
  obtain ⟨z, hz, hc⟩ := hok.run_zero w ε
  have hzl : (zerosL tj.zero len).length = len * tj.size := by rw [zerosL_length, hok.len]
  obtain ⟨h3, h4, v1, h5, h6⟩ := h2 ε a hs hzl (zerosL_all hok.cell len) _ (zerosL_reals hc len)
  have hund := (tiOf_ok ht).run_und w
  rw [hu] at hund
  have hnew := hm.new (blt_lt h7) e h5 h4 h3.symm
  refine ⟨_, _, _, hm.with_le _, by simp only [C.real, Ev.with_at, Option.bind_some, capOf, Bool.false_eq_true, if_false]; rw [if_pos (Nat.le_refl _)], hnew, .inl ?_⟩
  have hparts : (parts.map fun (i, x) => (i, a.eval x)).toList = parts.toList.map fun x => (x.1, a.eval x.2) := by simp
  have hzs : z.cells.toList.length = tj.size := by rw [reals_length hc, hok.len]
  have hzc : z.cells = z.cells.toList.toArray := by simp
  by_cases h0 : len * tj.size = 0
  · have hr0 : rep z.cells.toList len = [] := List.length_eq_zero_iff.1 (by rw [rep_length, hzs]; exact h0)
    rw [hr0] at h6
    simp only [execOp, ho, Instr.buildSlice, Sem.run_bind, hund, Result.andThen_ok, hok.run_size, hparts]
    rw [if_neg (by omega), if_pos h0]
    have h6' : Instr.fill (fun i => some (i * tj.size, tj.size)) #[] (parts.toList.map fun x => (x.1, a.eval x.2)) = some v1.toArray := h6
    have e0 : ∀ f : Nat → Value, (Array.range 0).map f = #[] := fun f => by apply Array.ext'; simp
    simp [h0, e0, h6', newRow]
  · have hrr := range_rep z.cells.toList len
    rw [hzs] at hrr
    simp only [execOp, ho, Instr.buildSlice, Sem.run_bind, hund, Result.andThen_ok, hok.run_size, hparts]
    rw [if_neg (by omega), if_neg h0]
    simp only [Sem.run_bind, Sem.run_pure, Result.andThen_ok, hz]
    rw [hzc, hrr]
    rw [h6]
    simp [newRow]

end

end Go.Proofs.YtoihipolfdhhnaaGreatDoor.Vm
