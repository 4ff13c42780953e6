/-
  Vm, eleventh part: which operation is done by what; and that each is the model's own.
-/
import Derived.Test.YtoihipolfdhhnaaGreatDoorVJ3
namespace Go.Proofs.YtoihipolfdhhnaaGreatDoor.Vm

theorem opNo_free {P : Program} {sf : SF} {g : List Nat} {o : Oper} : FreeOk P sf g o opNo := fun _ _ _ _ _ h => by cases h

theorem wTi_gen {P : Program} {t : TypeId} {f : TI → Opc} {Q : Opc → Prop} (h0 : Q opNo) (h : ∀ ti, tiOf P t = some ti → Q (f ti)) : Q (wTi P t f) := by
  unfold wTi
  split
  · rename_i ti ht; exact h ti ht
  · exact h0

noncomputable def cBin (P : Program) (sf : SF) (g : List Nat) (op : BinOp) (t : TypeId) (x y : Operand) : Opc :=
  match tiOf P t with
  | none => opNo
  | some ti => match ti.und with
    | .int k => if isCmp op then oCmp sf.th op k (cOpd sf g x) (cOpd sf g y)
      else match op with
        | .shl => oAr sf.eq .shl k true (cOpd sf g x) (cOpd sf g y)
        | .shr => oAr sf.eq .shr k true (cOpd sf g x) (cOpd sf g y)
        | op => oAr sf.eq op k false (cOpd sf g x) (cOpd sf g y)
    | .string => match op with
      | .add => oCat (cOpd sf g x) (cOpd sf g y)
      | .eql => oStrEq sf.th false (cOpd sf g x) (cOpd sf g y)
      | .neq => oStrEq sf.th true (cOpd sf g x) (cOpd sf g y)
      | .lss => oStrOrd .lss (cOpd sf g x) (cOpd sf g y)
      | .leq => oStrOrd .leq (cOpd sf g x) (cOpd sf g y)
      | .gtr => oStrOrd .gtr (cOpd sf g x) (cOpd sf g y)
      | .geq => oStrOrd .geq (cOpd sf g x) (cOpd sf g y)
      | _ => opNo
    | .bool => match op with
      | .eql => oBoolEq false (cOpd sf g x) (cOpd sf g y)
      | .neq => oBoolEq true (cOpd sf g x) (cOpd sf g y)
      | _ => opNo
    | .pointer _ => match op, y with
      | .eql, .const (.pointer none) => oNilP false (cOpd sf g x)
      | .neq, .const (.pointer none) => oNilP true (cOpd sf g x)
      | _, _ => opNo
    | .func _ _ _ => match op, y with
      | .eql, .const .nilFunc => oNilF false (cOpd sf g x)
      | .neq, .const .nilFunc => oNilF true (cOpd sf g x)
      | _, _ => opNo
    | .slice _ => match op, y with
      | .eql, .const (.slice none 0 0) => oNilS false (cOpd sf g x)
      | .neq, .const (.slice none 0 0) => oNilS true (cOpd sf g x)
      | _, _ => opNo
    | .interface _ => match op, y with
      | .eql, .const .nilIface => oNilI false (cOpd sf g x)
      | .neq, .const .nilIface => oNilI true (cOpd sf g x)
      | _, _ => opNo
    | .map _ _ => match op, y with
      | .eql, .const (.map none) => oNilM false (cOpd sf g x)
      | .neq, .const (.map none) => oNilM true (cOpd sf g x)
      | _, _ => opNo
    | _ => opNo

theorem cBin_ok {P : Program} {sf : SF} {g : List Nat} {o : Oper} {op : BinOp} {t ty : TypeId} {x y : Operand} (ho : o.op = .binOp op t x y ty) : FreeOk P sf g o (cBin P sf g op t x y) := by
  unfold cBin
  split
  · exact opNo_free
  · rename_i ti ht
    split
    · rename_i k hu
      split
      · rename_i hc
        exact oCmp_ok ho hc (cOpd_ok sf g x) (cOpd_ok sf g y)
      · split
        · exact oAr_ok ho (fun _ => .inl rfl) (cOpd_ok sf g x) (cOpd_ok sf g y)
        · exact oAr_ok ho (fun _ => .inr rfl) (cOpd_ok sf g x) (cOpd_ok sf g y)
        · exact oAr_ok ho (fun h => by cases h) (cOpd_ok sf g x) (cOpd_ok sf g y)
    · rename_i hu
      split
      · exact oCat_ok ho (cOpd_ok sf g x) (cOpd_ok sf g y)
      · exact oStrEq_ok ho (.inl ⟨rfl, rfl⟩) (cOpd_ok sf g x) (cOpd_ok sf g y)
      · exact oStrEq_ok ho (.inr ⟨rfl, rfl⟩) (cOpd_ok sf g x) (cOpd_ok sf g y)
      · exact oStrOrd_ok ho (.inl rfl) (cOpd_ok sf g x) (cOpd_ok sf g y)
      · exact oStrOrd_ok ho (.inr (.inl rfl)) (cOpd_ok sf g x) (cOpd_ok sf g y)
      · exact oStrOrd_ok ho (.inr (.inr (.inl rfl))) (cOpd_ok sf g x) (cOpd_ok sf g y)
      · exact oStrOrd_ok ho (.inr (.inr (.inr rfl))) (cOpd_ok sf g x) (cOpd_ok sf g y)
      · exact opNo_free
    · rename_i hu
      split
      · exact oBoolEq_ok ho ht hu (.inl ⟨rfl, rfl⟩) (cOpd_ok sf g x) (cOpd_ok sf g y)
      · exact oBoolEq_ok ho ht hu (.inr ⟨rfl, rfl⟩) (cOpd_ok sf g x) (cOpd_ok sf g y)
      · exact opNo_free
    · rename_i hu
      split
      · exact oNilP_ok ho ht hu (.inl ⟨rfl, rfl⟩) (cOpd_ok sf g x)
      · exact oNilP_ok ho ht hu (.inr ⟨rfl, rfl⟩) (cOpd_ok sf g x)
      · exact opNo_free
    · rename_i hu
      split
      · exact oNilF_ok ho ht hu (.inl ⟨rfl, rfl⟩) (cOpd_ok sf g x)
      · exact oNilF_ok ho ht hu (.inr ⟨rfl, rfl⟩) (cOpd_ok sf g x)
      · exact opNo_free
    · rename_i hu
      split
      · exact oNilS_ok ho ht hu (.inl ⟨rfl, rfl⟩) (cOpd_ok sf g x)
      · exact oNilS_ok ho ht hu (.inr ⟨rfl, rfl⟩) (cOpd_ok sf g x)
      · exact opNo_free
    · rename_i hu
      split
      · exact oNilI_ok ho ht hu (.inl ⟨rfl, rfl⟩) (cOpd_ok sf g x)
      · exact oNilI_ok ho ht hu (.inr ⟨rfl, rfl⟩) (cOpd_ok sf g x)
      · exact opNo_free
    · rename_i hu
      split
      · exact oNilM_ok ho ht hu (.inl ⟨rfl, rfl⟩) (cOpd_ok sf g x)
      · exact oNilM_ok ho ht hu (.inr ⟨rfl, rfl⟩) (cOpd_ok sf g x)
      · exact opNo_free
    · exact opNo_free

noncomputable def cConv (P : Program) (sf : SF) (g : List Nat) (t u : TypeId) (x : Operand) : Opc :=
  match tiOf P t, tiOf P u with
  | some ti, some tu => match ti.und, tu.und with
    | .int _, .int kd => oCv sf.eq kd (cOpd sf g x)
    | .string, .string => oCvS (cOpd sf g x)
    | .string, .slice e => oStrBytes sf.th P e (cOpd sf g x)
    | .slice e, .string => oBytesStr sf.th P e (cOpd sf g x)
    | _, _ => opNo
  | _, _ => opNo

theorem cConv_ok {P : Program} {sf : SF} {g : List Nat} {o : Oper} {t u : TypeId} {x : Operand} (ho : o.op = .convert t u x) : OpOk P sf g o (cConv P sf g t u x) := by
  unfold cConv
  split
  · rename_i ti tu ht hu
    split
    · rename_i k2 kd h1 h2
      exact (oCv_ok ho ht hu h2 (cOpd_ok sf g x)).op
    · rename_i h1 h2
      exact (oCvS_ok ho ht hu h2 (cOpd_ok sf g x)).op
    · rename_i e h1 h2
      exact oStrBytes_ok ho ht h1 hu h2 (cOpd_ok sf g x)
    · rename_i e h1 h2
      exact (oBytesStr_ok ho ht h1 hu h2 (cOpd_ok sf g x)).op
    · exact opNo_ok
  · exact opNo_ok

noncomputable def cField (P : Program) (s : TypeId) (n : Nat) (f : Nat → TI → Opc) : Opc :=
  match tiOf P s with
  | none => opNo
  | some ti => match ti.und with
    | .struct fs => match fs[n]? with
      | some fd => match tiOf P fd.type with
        | some tj => f fd.offset tj
        | none => opNo
      | none => opNo
    | _ => opNo

theorem cField_ok {P : Program} {s : TypeId} {n : Nat} {f : Nat → TI → Opc} {Q : Opc → Prop} (h0 : Q opNo) (h : ∀ ti fs fd tj, tiOf P s = some ti → ti.und = .struct fs → fs[n]? = some fd → tiOf P fd.type = some tj → Q (f fd.offset tj)) : Q (cField P s n f) := by
  unfold cField
  split
  · exact h0
  · rename_i ti ht
    split
    · rename_i fs hu
      split
      · rename_i fd hf
        split
        · rename_i tj hj
          exact h ti fs fd tj ht hu hf hj
        · exact h0
      · exact h0
    · exact h0

noncomputable def cIdxA (P : Program) (sf : SF) (g : List Nat) (t : TypeId) (x i : Operand) : Opc :=
  wTi P t fun ti => match ti.und with
    | .slice e => wTi P e fun tj => oIdxSl sf.th tj.size (cOpd sf g x) (cOpd sf g i)
    | .array len e => wTi P e fun tj => oIdxArr sf.th len tj.size (cOpd sf g x) (cOpd sf g i)
    | _ => opNo

theorem cIdxA_ok {P : Program} {sf : SF} {g : List Nat} {o : Oper} {t : TypeId} {x i : Operand} (ho : o.op = .indexAddr t x i) : FreeOk P sf g o (cIdxA P sf g t x i) := by
  refine wTi_gen opNo_free fun ti ht => ?_
  split
  · rename_i e hu
    exact wTi_gen opNo_free fun tj hj => oIdxSl_ok ho ht hu hj (cOpd_ok sf g x) (cOpd_ok sf g i)
  · rename_i len e hu
    exact wTi_gen opNo_free fun tj hj => oIdxArr_ok ho ht hu hj (cOpd_ok sf g x) (cOpd_ok sf g i)
  · exact opNo_free

noncomputable def cSlice (P : Program) (sf : SF) (g : List Nat) (t : TypeId) (x : Operand) (lo hi : Option Operand) : Opc :=
  wTi P t fun ti => match ti.und with
    | .string => oSlStr (cOpd sf g x) (bdOf sf.th (lo.map (cOpd sf g))) (bdOf sf.th (hi.map (cOpd sf g)))
    | .slice e => wTi P e fun tj => oSlSl tj.size (cOpd sf g x) (bdOf sf.th (lo.map (cOpd sf g))) (bdOf sf.th (hi.map (cOpd sf g)))
    | _ => opNo

theorem cSlice_ok {P : Program} {sf : SF} {g : List Nat} {o : Oper} {t : TypeId} {x : Operand} {lo hi : Option Operand} (ho : o.op = .slice t x lo hi none) : OpOk P sf g o (cSlice P sf g t x lo hi) := by
  refine wTi_ok fun ti ht => ?_
  split
  · rename_i hu
    exact (oSlStr_ok ho ht hu (cOpd_ok sf g x) bdOf_ok bdOf_ok).op
  · rename_i e hu
    exact wTi_ok fun tj hj => (oSlSl_ok ho ht hu hj (cOpd_ok sf g x) bdOf_ok bdOf_ok).op
  · exact opNo_ok

noncomputable def cLen (P : Program) (sf : SF) (g : List Nat) (x : Operand) (t : TypeId) : Opc :=
  wTi P t fun ti => match ti.und with
    | .string => oLenS (cOpd sf g x)
    | .slice _ => oLenSl (cOpd sf g x)
    | _ => opNo

theorem cLen_ok {P : Program} {sf : SF} {g : List Nat} {o : Oper} {t : TypeId} {x : Operand} (ho : o.op = .call ⟨.builtin .len, #[x], #[t]⟩) : FreeOk P sf g o (cLen P sf g x t) := by
  refine wTi_gen opNo_free fun ti ht => ?_
  split
  · rename_i hu; exact oLenS_ok ho ht hu (cOpd_ok sf g x)
  · rename_i e hu; exact oLenSl_ok ho ht hu (cOpd_ok sf g x)
  · exact opNo_free

noncomputable def cOp (P : Program) (sf : SF) (g : List Nat) (o : Oper) : Opc :=
  match o.op with
  | .move x => oMove (cOpd sf g x)
  | .assign x => oMove (cOpd sf g x)
  | .pick c a b => oPick (cOpd sf g c) (cOpd sf g a) (cOpd sf g b)
  | .alloc t => wTi P t fun ti => oAlloc t ti
  | .box t x => wTi P t fun ti => oBox t ti (cOpd sf g x)
  | .load t x => wTi P t fun ti => oLoad ti (cOpd sf g x)
  | .store t x y => wTi P t fun ti => if ti.agg = false → ti.size = 1 then oStore ti (cOpd sf g x) (cOpd sf g y) else opNo
  | .nilCheck x => oNil (cOpd sf g x)
  | .binOp op t x y _ => cBin P sf g op t x y
  | .unOp .not _ x => oNot (cOpd sf g x)
  | .unOp .neg _ x => oNeg (cOpd sf g x)
  | .convert t u x => cConv P sf g t u x
  | .makeInterface t x => wTi P t fun ti => if notIfc ti.und = true then oIfc t (cOpd sf g x) else opNo
  | .makeFunc (.func f) first captured => if first.size = 0 then oFunc f (evA sf g captured.toList) else opNo
  | .extract x i => oExtract i (cOpd sf g x)
  | .fieldAddr s x n => cField P s n fun off tj => if tj.size = 0 then opNo else oFieldA off (cOpd sf g x)
  | .field s x n => cField P s n fun off tj => oPart off tj (cOpd sf g x)
  | .indexAddr t x i => cIdxA P sf g t x i
  | .index t x i => wTi P t fun ti => match ti.und with
    | .string => oIdxS sf.th (cOpd sf g x) (cOpd sf g i)
    | _ => opNo
  | .slice t x lo hi none => cSlice P sf g t x lo hi
  | .build t parts => wTi P t fun ti => match ti.und with
    | .struct fs => if fs.toList.all (fun f => (tiOf P f.type).isSome) = true then oBuild sf g P fs ti parts.toList else opNo
    | _ => opNo
  | .buildSlice t len parts => wTi P t fun ti => match ti.und with
    | .slice e => wTi P e fun tj => if len * tj.size ≤ 2 ^ 24 then oBuildSl sf g e tj len parts.toList else opNo
    | _ => opNo
  | .call ⟨.builtin .len, ⟨[x]⟩, ⟨[t]⟩⟩ => cLen P sf g x t
  | .call ⟨.builtin .append, ⟨[x, y]⟩, ⟨[t, u]⟩⟩ => cApp P sf g x y t u
  | .call ⟨.builtin .copy, ⟨[x, y]⟩, ⟨[t, u]⟩⟩ => cCopy P sf g x y t u
  | .call ⟨.builtin .min, ⟨[x, y]⟩, ⟨[t, _]⟩⟩ => cMin P sf g false x y t
  | .call ⟨.builtin .max, ⟨[x, y]⟩, ⟨[t, _]⟩⟩ => cMin P sf g true x y t
  | .makeSlice t l c => cMake P sf g t l c
  | .range t x => cRange P sf g t x
  | .next x true => oNext sf.th (cOpd sf g x)
  | _ => opNo

theorem cOp_ok (P : Program) (sf : SF) (g : List Nat) (o : Oper) : OpOk P sf g o (cOp P sf g o) := by
  unfold cOp
  split
  · rename_i x ho; exact (oMove_ok (.inl ho) (cOpd_ok sf g x)).op
  · rename_i x ho; exact (oMove_ok (.inr ho) (cOpd_ok sf g x)).op
  · rename_i c x y ho; exact (oPick_ok ho (cOpd_ok sf g c) (cOpd_ok sf g x) (cOpd_ok sf g y)).op
  · rename_i t ho; exact wTi_ok fun ti ht => oAlloc_ok ho ht
  · rename_i t x ho; exact wTi_ok fun ti ht => oBox_ok ho (cOpd_ok sf g x)
  · rename_i t x ho; exact wTi_ok fun ti ht => (oLoad_ok ho ht (cOpd_ok sf g x)).op
  · rename_i t x y ho
    refine wTi_ok fun ti ht => ?_
    split
    · rename_i hs; exact oStore_ok ho ht hs (cOpd_ok sf g x) (cOpd_ok sf g y)
    · exact opNo_ok
  · rename_i x ho; exact (oNil_ok ho (cOpd_ok sf g x)).op
  · rename_i op t x y yt ho; exact (cBin_ok ho).op
  · rename_i t x ho; exact (oNot_ok ho (cOpd_ok sf g x)).op
  · rename_i t x ho; exact (oNeg_ok ho (cOpd_ok sf g x)).op
  · rename_i t u x ho; exact cConv_ok ho
  · rename_i t x ho
    refine wTi_ok fun ti ht => ?_
    split
    · rename_i hn; exact (oIfc_ok ho ht hn (cOpd_ok sf g x)).op
    · exact opNo_ok
  · rename_i f first captured ho
    split
    · rename_i hf; exact (oFunc_ok ho hf).op
    · exact opNo_ok
  · rename_i x i ho; exact (oExtract_ok ho (cOpd_ok sf g x)).op
  · rename_i s x n ho
    refine cField_ok opNo_ok fun ti fs fd tj ht hu hf hj => ?_
    split
    · exact opNo_ok
    · rename_i hz; exact (oFieldA_ok ho ht hu hf hj hz (cOpd_ok sf g x)).op
  · rename_i s x n ho
    exact cField_ok opNo_ok fun ti fs fd tj ht hu hf hj => (oPart_ok ho ht hu hf hj (cOpd_ok sf g x)).op
  · rename_i t x i ho; exact (cIdxA_ok ho).op
  · rename_i t x i ho
    refine wTi_ok fun ti ht => ?_
    split
    · rename_i hu; exact (oIdxS_ok ho ht hu (cOpd_ok sf g x) (cOpd_ok sf g i)).op
    · exact opNo_ok
  · rename_i t x lo hi ho; exact cSlice_ok ho
  · rename_i t parts ho
    refine wTi_ok fun ti ht => ?_
    split
    · rename_i fs hu
      split
      · rename_i hall; exact (oBuild_ok ho ht hu hall).op
      · exact opNo_ok
    · exact opNo_ok
  · rename_i t len parts ho
    refine wTi_ok fun ti ht => ?_
    split
    · rename_i e hu
      refine wTi_ok fun tj hj => ?_
      split
      · rename_i hlen; exact oBuildSl_ok ho ht hu hj hlen
      · exact opNo_ok
    · exact opNo_ok
  · rename_i x t ho; exact (cLen_ok ho).op
  · rename_i x y t u ho; exact cApp_ok ho
  · rename_i x y t u ho; exact cCopy_ok ho
  · rename_i x y t u ho; exact cMin_ok (.inl ⟨rfl, ho⟩)
  · rename_i x y t u ho; exact cMin_ok (.inr ⟨rfl, ho⟩)
  · rename_i t l c ho; exact cMake_ok ho
  · rename_i t x ho; exact cRange_ok ho
  · rename_i x ho; exact oNext_ok ho (cOpd_ok sf g x)
  · exact opNo_ok

/-- Operations that neither read nor write. -/
def freeOp (P : Program) : Op → Bool
  | .move _ => true
  | .assign _ => true
  | .pick _ _ _ => true
  | .nilCheck _ => true
  | .binOp _ _ _ _ _ => true
  | .unOp _ _ _ => true
  | .extract _ _ => true
  | .fieldAddr _ _ _ => true
  | .field _ _ _ => true
  | .indexAddr _ _ _ => true
  | .index _ _ _ => true
  | .makeFunc _ _ _ => true
  | .makeInterface _ _ => true
  | .build _ _ => true
  | .convert _ u _ => match P.underlying u with
    | some (.int _) => true
    | _ => false
  | .slice t _ _ _ _ => match P.underlying t with
    | some .string => true
    | _ => false
  | .call ⟨.builtin .len, _, _⟩ => true
  | _ => false

theorem cOp_free {P : Program} {sf : SF} {g : List Nat} {o : Oper} (h : freeOp P o.op = true) : FreeOk P sf g o (cOp P sf g o) := by
  unfold cOp
  split
  · rename_i x ho; exact oMove_ok (.inl ho) (cOpd_ok sf g x)
  · rename_i x ho; exact oMove_ok (.inr ho) (cOpd_ok sf g x)
  · rename_i c x y ho; exact oPick_ok ho (cOpd_ok sf g c) (cOpd_ok sf g x) (cOpd_ok sf g y)
  · rename_i t ho; rw [ho] at h; cases h
  · rename_i t x ho; rw [ho] at h; cases h
  · rename_i t x ho; rw [ho] at h; cases h
  · rename_i t x y ho; rw [ho] at h; cases h
  · rename_i x ho; exact oNil_ok ho (cOpd_ok sf g x)
  · rename_i op t x y yt ho; exact cBin_ok ho
  · rename_i t x ho; exact oNot_ok ho (cOpd_ok sf g x)
  · rename_i t x ho; exact oNeg_ok ho (cOpd_ok sf g x)
  · rename_i t u x ho
    rw [ho] at h
    simp only [freeOp] at h
    split at h
    · rename_i kd hu
      unfold cConv
      split
      · rename_i ti tu ht htu
        have h1 := (tiOf_ok htu).und
        rw [hu, Option.some.injEq] at h1
        split
        · rename_i k2 kd' h2 h3
          exact oCv_ok ho ht htu h3 (cOpd_ok sf g x)
        · rename_i h2 h3; rw [← h1] at h3; cases h3
        · rename_i e h2 h3; rw [← h1] at h3; cases h3
        · rename_i e h2 h3; rw [← h1] at h3; cases h3
        · exact opNo_free
      · exact opNo_free
    · cases h
  · rename_i t x ho
    refine wTi_gen opNo_free fun ti ht => ?_
    split
    · rename_i hn; exact oIfc_ok ho ht hn (cOpd_ok sf g x)
    · exact opNo_free
  · rename_i f first captured ho
    split
    · rename_i hf; exact oFunc_ok ho hf
    · exact opNo_free
  · rename_i x i ho; exact oExtract_ok ho (cOpd_ok sf g x)
  · rename_i s x n ho
    refine cField_ok opNo_free fun ti fs fd tj ht hu hf hj => ?_
    split
    · exact opNo_free
    · rename_i hz; exact oFieldA_ok ho ht hu hf hj hz (cOpd_ok sf g x)
  · rename_i s x n ho
    exact cField_ok opNo_free fun ti fs fd tj ht hu hf hj => oPart_ok ho ht hu hf hj (cOpd_ok sf g x)
  · rename_i t x i ho; exact cIdxA_ok ho
  · rename_i t x i ho
    refine wTi_gen opNo_free fun ti ht => ?_
    split
    · rename_i hu; exact oIdxS_ok ho ht hu (cOpd_ok sf g x) (cOpd_ok sf g i)
    · exact opNo_free
  · rename_i t x lo hi ho
    rw [ho] at h
    simp only [freeOp] at h
    split at h
    · rename_i hu
      refine wTi_gen opNo_free fun ti ht => ?_
      have h1 := (tiOf_ok ht).und
      rw [hu, Option.some.injEq] at h1
      split
      · rename_i h2; exact oSlStr_ok ho ht h2 (cOpd_ok sf g x) bdOf_ok bdOf_ok
      · rename_i e h2; rw [← h1] at h2; cases h2
      · exact opNo_free
    · cases h
  · rename_i t parts ho
    refine wTi_gen opNo_free fun ti ht => ?_
    split
    · rename_i fs hu
      split
      · rename_i hall; exact oBuild_ok ho ht hu hall
      · exact opNo_free
    · exact opNo_free
  · rename_i t len parts ho; rw [ho] at h; cases h
  · rename_i x t ho; exact cLen_ok ho
  · rename_i x y t u ho; rw [ho] at h; cases h
  · rename_i x y t u ho; rw [ho] at h; cases h
  · rename_i x y t u ho; rw [ho] at h; cases h
  · rename_i x y t u ho; rw [ho] at h; cases h
  · rename_i t l c ho; rw [ho] at h; cases h
  · rename_i t x ho; rw [ho] at h; cases h
  · rename_i x ho; rw [ho] at h; cases h
  · exact opNo_free

def slOp (P : Program) : Op → Bool
  | .slice t _ _ _ none => match P.underlying t with
    | some (.slice _) => true
    | _ => false
  | _ => false

def ghOp (P : Program) (o : Op) : Bool := freeOp P o || slOp P o

theorem cOp_gh {P : Program} {sf : SF} {g : List Nat} {o : Oper} (h : ghOp P o.op = true) : GhOk P sf g o (cOp P sf g o) := by
  simp only [ghOp, Bool.or_eq_true] at h
  rcases h with h | h
  · exact (cOp_free h).gh
  · cases hop : o.op <;> rw [hop] at h <;> first | (cases h; done) | skip
    rename_i t x lo hi mx
    cases mx with
    | some y => cases h
    | none =>
      simp only [slOp] at h
      split at h
      · rename_i e hu
        have e : cOp P sf g o = cSlice P sf g t x lo hi := by unfold cOp; rw [hop]
        rw [e]
        refine wTi_gen opNo_free.gh fun ti ht => ?_
        have h1 := (tiOf_ok ht).und
        rw [hu, Option.some.injEq] at h1
        split
        · rename_i h2; rw [← h1] at h2; cases h2
        · rename_i e h2
          exact wTi_gen opNo_free.gh fun tj hj => oSlSl_ok hop ht h2 hj (cOpd_ok sf g x) bdOf_ok bdOf_ok
        · exact opNo_free.gh
      · cases h

def isLoad : Op → Bool
  | .load _ _ => true
  | _ => false

theorem cOp_load {P : Program} {sf : SF} {g : List Nat} {o : Oper} (h : isLoad o.op = true) : PureOk P sf g o (cOp P sf g o) := by
  cases hop : o.op <;> rw [hop] at h <;> first | (cases h; done) | skip
  rename_i t x
  have e : cOp P sf g o = wTi P t fun ti => oLoad ti (cOpd sf g x) := by unfold cOp; rw [hop]
  rw [e]
  exact wTi_gen opNo_free.pure fun ti ht => oLoad_ok hop ht (cOpd_ok sf g x)

end Go.Proofs.YtoihipolfdhhnaaGreatDoor.Vm
