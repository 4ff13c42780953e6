/-
  The symbolic executor's operations, and that each is the model's own.
-/
import Derived.Test.YtoihipolfdhhnaaGreatDoorSx
import Derived.Laws.Cells
import Derived.Laws.Entries
namespace Go.Proofs.YtoihipolfdhhnaaGreatDoor

/-- The model's answer, as the executor foretells it. -/
def Foretold (ε : Env) (σ : St) (r : Option SV) (σ' : St) (res : Result Next) : Prop :=
  σ'.tl = σ.tl ∧
  ∃ w', Rel ε σ'.bs w' ∧ res = .ok (match r with | some v => .value (v.real ε.ρ) | none => .skip) w'

/-- The answer of an operation that only reads. -/
def ReadOk (ε : Env) (σ : St) (r : Option SV) (σ' : St) (res : Result Next) (w : World) : Prop :=
  ∃ v, r = some v ∧ σ'.bs = σ.bs ∧ σ'.tl = σ.tl ∧ res = .ok (.value (v.real ε.ρ)) w

theorem ReadOk.foretold {ε : Env} {σ : St} {r : Option SV} {σ' : St} {res : Result Next} {w : World} (h : ReadOk ε σ r σ' res w) (hrel : Rel ε σ.bs w) : Foretold ε σ r σ' res := by
  obtain ⟨v, rfl, hb, ht, hr⟩ := h
  exact ⟨ht, w, by rw [hb]; exact hrel, hr⟩

theorem addr_add (b o n : Nat) : (⟨b, o, none⟩ : Addr).add n = ⟨b, o + n, none⟩ := by
  unfold Addr.add
  by_cases h : n = 0
  · simp [h]
  · simp [h]

/- MEMORY -/

def splice (cs : List C) (o : Nat) (vs : List C) : List C := cs.take o ++ vs ++ cs.drop (o + vs.length)

def xLoad (T : TypeId → Option TI) (t : TypeId) (x : Operand) (σ : St) : Option (Option SV × St) :=
  match T t, evC σ x with
  | some i, some (.p b o) =>
    match σ.bs[b]? with
    | some nb =>
      if i.agg then
        if o + i.size ≤ nb.cs.length then some (some (.e (.a ((nb.cs.drop o).take i.size))), σ) else none
      else match nb.cs[o]? with
        | some c => some (some (.e (.c c)), σ)
        | none => none
    | none => none
  | some i, some (.rp a) =>
    match σ.ext with
    | .e v :: rest =>
      match i.agg, v with
      | true, .a l => if l.length = i.size then
          some (some (.e v), { σ with ext := rest, ob := σ.ob ++ [fun ε => ∀ j x, l[j]? = some x → ε.ro (a.add j) = some (x.real ε.ρ)] })
        else none
      | false, .c x => some (some (.e v), { σ with ext := rest, ob := σ.ob ++ [fun ε => ε.ro a = some (x.real ε.ρ)] })
      | _, _ => none
    | _ => none
  | _, _ => none

theorem Sees.cell? {ε : Env} {bs : List NB} {w : World} (h : Sees ε bs w) {b : Nat} {nb : NB} (hb : bs[b]? = some nb) (o : Nat) :
    w.cell? ⟨ε.ρ b, o, none⟩ = (nb.cs[o]?).map (C.real ε.ρ) := by
  simp [World.cell?, h.cells b nb hb]

theorem run_typeInfo' {P : Program} {t : TypeId} {i : TypeInfo} (h : P.info? t = some i) (w : World) : (typeInfo t).run P w = .ok i w := by
  simp [typeInfo, h]

theorem run_sizeOf' {P : Program} {t : TypeId} {i : TI} (h : TIok P t i) (w : World) : (sizeOf t).run P w = .ok i.size w := by
  obtain ⟨j, hj, hs, _⟩ := h.info
  simp [sizeOf, run_typeInfo' hj, hs]

theorem run_isAgg' {P : Program} {t : TypeId} {i : TI} (h : TIok P t i) (w : World) : (isAgg t).run P w = .ok i.agg w := by
  obtain ⟨d, hd, ha, _⟩ := h.und
  rw [← ha]
  cases d <;> simp [isAgg, run_underlying hd]

theorem run_zeroValue' {P : Program} {t : TypeId} {i : TI} (h : TIok P t i) (w : World) (ρ : Nat → Nat) :
    ∃ z, (zeroValue t).run P w = .ok z w ∧ z.cells = (i.zero.map (C.real ρ)).toArray := by
  obtain ⟨j, hj, _, z, hz, hc⟩ := h.info
  exact ⟨z, by simp [zeroValue, run_typeInfo' hj, hz], hc ρ⟩

theorem take_drop_get (l : List C) (o n j : Nat) (h : j < n) : ((l.drop o).take n)[j]? = l[o + j]? := by
  rw [List.getElem?_take_of_lt h, List.getElem?_drop]

theorem xLoad_ok {P : Program} {T : TypeId → Option TI} (hT : Tabs P T) {t : TypeId} {x : Operand} {σ σ' : St} {r : Option SV} {a : Act} {w : World} {ε : Env}
    (h : xLoad T t x σ = some (r, σ')) (htl : TRel ε.ρ σ.tl a.tmps) (hrel : Sees ε σ.bs w) (hob : σ'.holds ε) :
    ReadOk ε σ r σ' ((Instr.loadAt t (a.eval x) >>= fun v => pure (Next.value v)).run P w) w := by
  unfold xLoad at h
  split at h
  · rename_i i b o hi hx
    have he := evC_ok htl hx
    have hok := hT t i hi
    split at h
    · rename_i nb hb
      split at h
      · rename_i ha
        split at h
        · rename_i hsz
          cases h
          refine ⟨_, rfl, rfl, rfl, ?_⟩
          have hl := run_loadCells_list (P := P) w ⟨ε.ρ b, o, none⟩ (((nb.cs.drop o).take i.size).map (C.real ε.ρ)) (fun j v hj => by
            rw [addr_add, hrel.cell? hb]
            rw [List.getElem?_map] at hj
            have hjl : j < i.size := by
              rcases Nat.lt_or_ge j i.size with h2 | h2
              · exact h2
              · rw [List.getElem?_eq_none (by simp; omega)] at hj; cases hj
            rw [take_drop_get _ _ _ _ hjl] at hj
            exact hj)
          have hlen : (((nb.cs.drop o).take i.size).map (C.real ε.ρ)).length = i.size := by simp; omega
          rw [hlen] at hl
          simp [Instr.loadAt, he, C.real, Instr.sureAddr, loadVar, run_isAgg' hok, ha, run_sizeOf' hok, hl, SV.real, E.real]
        · cases h
      · rename_i ha
        split at h
        · rename_i c hc
          cases h
          refine ⟨_, rfl, rfl, rfl, ?_⟩
          have := hrel.cell? hb o
          rw [hc] at this
          simp [Instr.loadAt, he, C.real, Instr.sureAddr, loadVar, run_isAgg' hok, ha, this, SV.real, E.real]
        · cases h
    · cases h
  · rename_i i ad hi hx
    have he := evC_ok htl hx
    have hok := hT t i hi
    split at h
    · rename_i v rest hext
      split at h
      · rename_i l ha
        split at h
        · rename_i hlen
          cases h
          refine ⟨_, rfl, rfl, rfl, ?_⟩
          have h3 := hob _ (List.mem_append.2 (.inr (List.mem_singleton.2 rfl)))
          have hl := run_loadCells_list (P := P) w ad (l.map (C.real ε.ρ)) (fun j v hj => by
            rw [List.getElem?_map] at hj
            cases hlj : l[j]? with
            | none => rw [hlj] at hj; cases hj
            | some y =>
              rw [hlj] at hj
              cases hj
              exact hrel.ro _ _ (h3 j y hlj))
          simp only [List.length_map, hlen] at hl
          simp [Instr.loadAt, he, C.real, Instr.sureAddr, loadVar, run_isAgg' hok, ha, run_sizeOf' hok, hl, SV.real, E.real]
        · cases h
      · rename_i y ha
        cases h
        refine ⟨_, rfl, rfl, rfl, ?_⟩
        have h3 := hob _ (List.mem_append.2 (.inr (List.mem_singleton.2 rfl)))
        have := hrel.ro _ _ h3
        simp [Instr.loadAt, he, C.real, Instr.sureAddr, loadVar, run_isAgg' hok, ha, this, SV.real, E.real]
      · cases h
    · cases h
  · cases h

/- STORES -/

theorem list_step {α : Type} (cur : List α) (m : Nat) (v : α) (vs : List α) (h : m + (vs.length + 1) ≤ cur.length) :
    (cur.set m v).take (m + 1) ++ vs ++ (cur.set m v).drop (m + 1 + vs.length) = cur.take m ++ v :: vs ++ cur.drop (m + (vs.length + 1)) := by
  rw [List.set_eq_take_append_cons_drop, if_pos (by omega)]
  have hA : (cur.take m).length = m := by simp; omega
  have h1 : (cur.take m ++ v :: cur.drop (m + 1)).take (m + 1) = cur.take m ++ [v] := by
    rw [List.take_append, hA, show m + 1 - m = 1 from by omega, List.take_of_length_le (by omega)]; rfl
  have h2 : (cur.take m ++ v :: cur.drop (m + 1)).drop (m + 1 + vs.length) = cur.drop (m + (vs.length + 1)) := by
    rw [List.drop_append, hA, List.drop_of_length_le (by omega), show m + 1 + vs.length - m = vs.length + 1 from by omega, List.nil_append, List.drop_succ_cons, List.drop_drop]
    congr 1; omega
  rw [h1, h2]; simp

theorem run_storeCells_blk (P : Program) (g o : Nat) (ty : TypeId) : ∀ (vs : List Value) (i : Nat) (cur : List Value) (w : World),
    w.heap[g]? = some (.cells cur.toArray ty (0, 0)) → o + i + vs.length ≤ cur.length → (∀ v ∈ vs, v.oneCell' = true) →
    (storeCells ⟨g, o, none⟩ vs i).run P w = .ok () { w with heap := w.heap.setIfInBounds g (.cells (cur.take (o + i) ++ vs ++ cur.drop (o + i + vs.length)).toArray ty (0, 0)) }
  | [], i, cur, w, hg, _, _ => by
    have hlt : g < w.heap.size := (Array.getElem?_eq_some_iff.1 hg).1
    have hge : w.heap[g] = .cells cur.toArray ty (0, 0) := (Array.getElem?_eq_some_iff.1 hg).2
    simp only [storeCells, Sem.run_pure, List.append_nil, List.length_nil, Nat.add_zero, List.take_append_drop]
    congr 1
    rw [← hge]
    have : w.heap.setIfInBounds g w.heap[g] = w.heap := by
      apply Array.ext_getElem?
      intro k
      rw [Array.getElem?_setIfInBounds]
      split
      · rename_i e; subst e; simp [hlt]
      · rfl
    rw [this]
  | v :: vs, i, cur, w, hg, hl, h1 => by
    have hv := h1 v (by simp)
    simp only [List.length_cons] at hl
    have hc : w.cell? ⟨g, o + i, none⟩ = some (cur[o + i]'(by omega)) := by
      simp only [World.cell?, hg, Option.isSome_none, Bool.false_eq_true, if_false, List.getElem?_toArray]
      rw [List.getElem?_eq_getElem (by omega)]
    have hf : w.frozen? ⟨g, o + i, none⟩ = false := by simp [World.frozen?, hg]
    have hst := run_store P w ⟨g, o + i, none⟩ v .plain hv
    rw [hc] at hst
    simp only [hf, Bool.false_eq_true, if_false] at hst
    have hset : w.setCell ⟨g, o + i, none⟩ v = { w with heap := w.heap.setIfInBounds g (.cells (cur.set (o + i) v).toArray ty (0, 0)) } := by
      unfold World.setCell
      congr 1
      apply Array.ext'
      apply List.ext_getElem?
      intro k
      simp only [Array.getElem?_toList, Array.getElem?_modify, Array.getElem?_setIfInBounds]
      have hlt : g < w.heap.size := (Array.getElem?_eq_some_iff.1 hg).1
      by_cases hk : g = k
      · subst hk; simp [hlt]
        have hge : w.heap[g] = .cells cur.toArray ty (0, 0) := (Array.getElem?_eq_some_iff.1 hg).2
        simp [hge]
      · simp [hk]
    have ih := run_storeCells_blk P g o ty vs (i + 1) (cur.set (o + i) v) { w with heap := w.heap.setIfInBounds g (.cells (cur.set (o + i) v).toArray ty (0, 0)) }
      (by have hlt : g < w.heap.size := (Array.getElem?_eq_some_iff.1 hg).1; simp [Array.getElem?_setIfInBounds_self_of_lt hlt]) (by simp; omega) (fun x hx => h1 x (by simp [hx]))
    simp only [storeCells, Sem.run_bind, addr_add, hst, Result.andThen_ok, hset, ih]
    congr 1
    simp only [Array.setIfInBounds_setIfInBounds]
    congr 3
    apply congrArg List.toArray
    have := list_step cur (o + i) v vs (by omega)
    rw [show o + (i + 1) = o + i + 1 from by omega, this]
    rfl

def xStore (T : TypeId → Option TI) (t : TypeId) (x y : Operand) (σ : St) : Option (Option SV × St) :=
  match T t, evC σ x, evE σ y with
  | some i, some (.p b o), some v =>
    match σ.bs[b]? with
    | some nb =>
      if v.cells.length = i.size ∧ o + v.cells.length ≤ nb.cs.length ∧ v.cells.all C.cell = true then
        some (none, { σ with bs := σ.bs.set b ⟨nb.ty, splice nb.cs o v.cells⟩ })
      else none
    | none => none
  | _, _, _ => none

theorem xStore_ok {P : Program} {T : TypeId → Option TI} (hT : Tabs P T) {t : TypeId} {x y : Operand} {σ σ' : St} {r : Option SV} {a : Act} {w : World} {ε : Env}
    (h : xStore T t x y σ = some (r, σ')) (htl : TRel ε.ρ σ.tl a.tmps) (hrel : Rel ε σ.bs w) :
    Foretold ε σ r σ' ((Instr.storeAt t (a.eval x) (a.eval y) >>= fun _ => pure Next.skip).run P w) := by
  unfold xStore at h
  split at h
  · rename_i i b o v hi hx hy
    have hex := evC_ok htl hx
    have hey := evE_ok htl hy
    have hok := hT t i hi
    split at h
    · rename_i nb hb
      split at h
      · rename_i hc
        cases h
        refine ⟨rfl, _, hrel.set hb (splice nb.cs o v.cells), ?_⟩
        have hcells := E.real_cells ε.ρ v hc.2.2
        have hst := run_storeCells_blk P (ε.ρ b) o nb.ty (v.cells.map (C.real ε.ρ)) 0 (nb.cs.map (C.real ε.ρ)) w (hrel.cells b nb hb) (by simpa using hc.2.1)
          (fun z hz => by
            obtain ⟨c, hc1, rfl⟩ := List.mem_map.1 hz
            exact C.real_oneCell _ _ (List.all_eq_true.1 hc.2.2 c hc1))
        simp only [Nat.add_zero, List.length_map, ← List.map_take, ← List.map_drop, ← List.map_append] at hst
        simp [Instr.storeAt, hex, hey, C.real, Instr.sureAddr, storeVar, hcells, run_sizeOf' hok, hc.1, hst, splice]
      · cases h
    · cases h
  · cases h

/- NEW BLOCKS -/

def xAlloc (T : TypeId → Option TI) (t : TypeId) (σ : St) : Option (Option SV × St) :=
  match T t with
  | some i => some (some (.e (.c (.p σ.bs.length 0))), { σ with bs := σ.bs ++ [⟨t, i.zero⟩] })
  | none => none

theorem xAlloc_ok {P : Program} {T : TypeId → Option TI} (hT : Tabs P T) {t : TypeId} {σ σ' : St} {r : Option SV} {w : World} {ε : Env}
    (h : xAlloc T t σ = some (r, σ')) (hrel : Rel ε σ.bs w) :
    Foretold ε σ r σ' ((Instr.alloc t true (.tuple #[]) >>= fun v => pure (Next.value v)).run P w) := by
  unfold xAlloc at h
  split at h
  · rename_i i hi
    cases h
    obtain ⟨h1, h2⟩ := hrel.alloc ⟨t, i.zero⟩
    refine ⟨rfl, _, h1, ?_⟩
    obtain ⟨z, hz, hc⟩ := run_zeroValue' (hT t i hi) w ε.ρ
    simp [Instr.alloc, hz, newVar, newRow, hc, SV.real, E.real, C.real, h2]
  · cases h

def xBox (t : TypeId) (x : Operand) (σ : St) : Option (Option SV × St) :=
  match evE σ x with
  | some v => if v.cells.all C.cell = true then some (some (.e (.c (.p σ.bs.length 0))), { σ with bs := σ.bs ++ [⟨t, v.cells⟩] }) else none
  | none => none

theorem xBox_ok {P : Program} {t : TypeId} {x : Operand} {σ σ' : St} {r : Option SV} {a : Act} {w : World} {ε : Env}
    (h : xBox t x σ = some (r, σ')) (htl : TRel ε.ρ σ.tl a.tmps) (hrel : Rel ε σ.bs w) :
    Foretold ε σ r σ' ((Instr.box t (a.eval x) >>= fun v => pure (Next.value v)).run P w) := by
  unfold xBox at h
  split at h
  · rename_i v hv
    split at h
    · rename_i hc
      cases h
      obtain ⟨h1, h2⟩ := hrel.alloc ⟨t, v.cells⟩
      refine ⟨rfl, _, h1, ?_⟩
      have he := evE_ok htl hv
      have hcells := E.real_cells ε.ρ v hc
      rw [← he] at hcells
      simp [Instr.box, newVar, newRow, hcells, SV.real, E.real, C.real, h2]
    · cases h
  · cases h

/- STRUCTS -/

def xFill (place : Nat → Option (Nat × Nat)) (cells : List C) : List (Nat × E) → Option (List C)
  | [] => some cells
  | (i, v) :: rest =>
    match place i with
    | none => none
    | some (off, size) =>
      if v.cells.length = size ∧ off + v.cells.length ≤ cells.length ∧ v.cells.all C.cell = true then xFill place (splice cells off v.cells) rest else none

theorem foldl_splice (off : Nat) : ∀ (vs : List Value) (k : Nat) (cs : List Value), off + k + vs.length ≤ cs.length →
    (vs.zipIdx k).foldl (fun (c : Array Value) (x : Value × Nat) => c.setIfInBounds (off + x.2) x.1) cs.toArray = (cs.take (off + k) ++ vs ++ cs.drop (off + k + vs.length)).toArray
  | [], k, cs, _ => by simp
  | v :: vs, k, cs, h => by
    simp only [List.length_cons] at h
    have ih := foldl_splice off vs (k + 1) (cs.set (off + k) v) (by simp; omega)
    simp only [List.zipIdx_cons, List.foldl_cons]
    have hs : cs.toArray.setIfInBounds (off + k) v = (cs.set (off + k) v).toArray := by simp
    rw [hs, ih]
    apply congrArg List.toArray
    have := list_step cs (off + k) v vs (by omega)
    rw [show off + (k + 1) = off + k + 1 from by omega, this]
    rfl

theorem xFill_ok (place : Nat → Option (Nat × Nat)) (ρ : Nat → Nat) : ∀ (parts : List (Nat × E)) (cells out : List C), xFill place cells parts = some out →
    Instr.fill place (cells.map (C.real ρ)).toArray (parts.map fun x => (x.1, x.2.real ρ)) = some (out.map (C.real ρ)).toArray
  | [], cells, out, h => by simp only [xFill, Option.some.injEq] at h; subst h; rfl
  | (i, v) :: rest, cells, out, h => by
    simp only [xFill] at h
    split at h
    · cases h
    · rename_i off size hp
      split at h
      · rename_i hc
        have ih := xFill_ok place ρ rest _ out h
        have hcells := E.real_cells ρ v hc.2.2
        simp only [List.map_cons, Instr.fill, hp, hcells]
        rw [if_neg (by simp; omega)]
        have := foldl_splice off (v.cells.map (C.real ρ)) 0 (cells.map (C.real ρ)) (by simpa using hc.2.1)
        simp only [Nat.add_zero, List.length_map] at this
        rw [← ih]
        congr 1
        rw [← Array.foldl_toList, Array.toList_zipIdx]
        rw [this]
        simp [splice]
      · cases h

def evParts (σ : St) : List (Nat × Operand) → Option (List (Nat × E))
  | [] => some []
  | (i, x) :: r => match evE σ x, evParts σ r with
    | some v, some l => some ((i, v) :: l)
    | _, _ => none

theorem evParts_ok {ρ : Nat → Nat} {σ : St} {a : Act} (h : TRel ρ σ.tl a.tmps) : ∀ {l : List (Nat × Operand)} {r : List (Nat × E)}, evParts σ l = some r →
    l.map (fun (x : Nat × Operand) => (x.1, a.eval x.2)) = r.map (fun x => (x.1, x.2.real ρ))
  | [], r, hr => by simp only [evParts, Option.some.injEq] at hr; subst hr; rfl
  | (i, x) :: l, r, hr => by
    unfold evParts at hr
    split at hr
    · rename_i v l' hv hl
      cases hr
      simp only [List.map_cons, evE_ok h hv, evParts_ok h hl]
    · cases hr

def placesOf (T : TypeId → Option TI) : List (TypeId × Nat) → Option (List (Nat × Nat))
  | [] => some []
  | (t, o) :: r => match T t, placesOf T r with
    | some i, some l => some ((o, i.size) :: l)
    | _, _ => none

def xBuild (T : TypeId → Option TI) (t : TypeId) (parts : Array (Nat × Operand)) (σ : St) : Option (Option SV × St) :=
  match T t with
  | some i => match i.kd with
    | .struct fl => match placesOf T fl, evParts σ parts.toList with
      | some pl, some ps => match xFill (fun k => pl[k]?) i.zero ps with
        | some cs => some (some (.e (.a cs)), σ)
        | none => none
      | _, _ => none
    | _ => none
  | none => none

theorem run_mapM_list {α β : Type} (P : Program) (w : World) (f : α → Sem β) (g : α → β) : ∀ (l : List α), (∀ x ∈ l, (f x).run P w = .ok (g x) w) → (l.mapM f).run P w = .ok (l.map g) w
  | [], _ => by simp
  | x :: l, h => by
    have h1 := h x (by simp)
    have ih := run_mapM_list P w f g l (fun y hy => h y (by simp [hy]))
    simp [List.mapM_cons, h1, ih]

theorem run_places {P : Program} {T : TypeId → Option TI} (hT : Tabs P T) (w : World) : ∀ (fl : List (TypeId × Nat)) (pl : List (Nat × Nat)), placesOf T fl = some pl →
    ∀ (fs : List Field), fs.map (fun (f : Field) => (f.type, f.offset)) = fl → (fs.mapM fun (f : Field) => do pure (f.offset, ← sizeOf f.type)).run P w = .ok pl w
  | [], pl, h, fs, hfs => by
    have : fs = [] := by simpa using hfs
    subst this
    simp only [placesOf, Option.some.injEq] at h; subst h; simp
  | (t, o) :: fl, pl, h, fs, hfs => by
    unfold placesOf at h
    split at h
    · rename_i i l hi hl
      cases h
      cases fs with
      | nil => cases hfs
      | cons f fs =>
        simp only [List.map_cons, List.cons.injEq, Prod.mk.injEq] at hfs
        obtain ⟨⟨h1, h2⟩, h3⟩ := hfs
        have ih := run_places hT w fl l hl fs h3
        have hs := run_sizeOf' (hT t i hi) w
        rw [← h1] at hs
        rw [List.mapM_cons]
        simp only [Sem.run_bind, hs, Result.andThen_ok, Sem.run_pure, ih, h2]
    · cases h

theorem xBuild_ok {P : Program} {T : TypeId → Option TI} (hT : Tabs P T) {t : TypeId} {parts : Array (Nat × Operand)} {σ σ' : St} {r : Option SV} {a : Act} {w : World} {ε : Env}
    (h : xBuild T t parts σ = some (r, σ')) (htl : TRel ε.ρ σ.tl a.tmps) :
    ReadOk ε σ r σ' ((Instr.build t (parts.map fun (i, x) => (i, a.eval x)) >>= fun v => pure (Next.value v)).run P w) w := by
  unfold xBuild at h
  split at h
  · rename_i i hi
    have hok := hT t i hi
    split at h
    · rename_i fl hk
      split at h
      · rename_i pl ps hpl hps
        split at h
        · rename_i cs hcs
          cases h
          refine ⟨_, rfl, rfl, rfl, ?_⟩
          obtain ⟨z, hz, hc⟩ := run_zeroValue' hok w ε.ρ
          obtain ⟨d, hd, _, hkd⟩ := hok.und
          rw [hk] at hkd
          obtain ⟨fs, rfl, hfl⟩ := hkd
          have hp := run_places hT w fl pl hpl fs.toList hfl
          have hfill := xFill_ok (fun k => pl[k]?) ε.ρ ps i.zero cs hcs
          have hparts : (parts.map fun (i, x) => (i, a.eval x)).toList = ps.map fun x => (x.1, x.2.real ε.ρ) := by
            rw [Array.toList_map]; exact evParts_ok htl hps
          have hm : (fs.mapM fun (f : Field) => do pure (f.offset, ← sizeOf f.type) : Sem (Array (Nat × Nat))) = List.toArray <$> (fs.toList.mapM fun (f : Field) => do pure (f.offset, ← sizeOf f.type)) := by
            rw [Array.mapM_eq_mapM_toList]
          have hplace : (fun (k : Nat) => pl.toArray[k]?) = fun (k : Nat) => pl[k]? := by funext k; simp
          simp only [Instr.build, Sem.run_bind, hz, Result.andThen_ok, hc, run_underlying hd, hm, Sem.run_map, hp, hparts, hplace, hfill, Sem.run_pure]
          rfl
        · cases h
      · cases h
    · cases h
  · cases h

end Go.Proofs.YtoihipolfdhhnaaGreatDoor
