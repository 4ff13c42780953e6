/-
  What the statements' own loops need: old memory read at any time, rows of texts that grow, a call of Next behind which one block keeps its name.
-/
import Derived.Test.YtoihipolfdhhnaaGreatDoorShownB
import Derived.Test.YtoihipolfdhhnaaGreatDoorDigits
import Derived.Test.YtoihipolfdhhnaaGreatDoorExcl
namespace Go.Proofs.YtoihipolfdhhnaaGreatDoor

/-- What was there at the beginning. -/
def oro (B : Nat) (w : World) : Addr → Option Value := fun a => if a.block < B then w.cell? a else none

theorem oro_le {B : Nat} {w : World} {a : Addr} {v : Value} (h : oro B w a = some v) : a.block < B ∧ w.cell? a = some v := by
  unfold oro at h
  split at h
  · rename_i hs; exact ⟨hs, h⟩
  · cases h

theorem oro_of {B : Nat} {w : World} {a : Addr} {v : Value} (hs : a.block < B) (h : w.cell? a = some v) : oro B w a = some v := by
  unfold oro; rw [if_pos hs]; exact h

abbrev lenv (B : Nat) (w : World) (ks : List Nat) : Env := env w ks (oro B w)

/-- One block keeps its name, the others are forgotten. -/
theorem CRel.anchor1 {ε : Env} {nt : Nat} {σ : St} {a : Act} {w : World} (hc : CRel ε nt σ a w) (B i : Nat) (nb : NB) (hi : σ.bs[i]? = some nb) (hcs : nb.cs.all (C.below 0) = true) (hB : B ≤ ε.ρ i) (tl : List (Nat × SV)) (orc : List Bool) (ext : List SV)
    (h : AllT ε.ρ (lenv B w [ε.ρ i]).ρ σ.tl tl) : CRel (lenv B w [ε.ρ i]) nt { tl := tl, bs := [nb], orc := orc, ext := ext } a w := by
  have hcell := hc.mem.cells i nb hi
  rw [map_plain _ hcs] at hcell
  refine ⟨?_, hc.size, hc.defers, ?_⟩
  · intro d v hd
    obtain ⟨u, h1, h2⟩ := h.lk hd
    rw [hc.tl d u h1, h2]
  · refine rel_start rfl ?_ ?_ (fun ad v hv => by obtain ⟨h1, h2⟩ := oro_le hv; exact ⟨h2, by simp; omega⟩)
    · intro i j k hi hj
      match i, j, hi, hj with
      | 0, 0, _, _ => rfl
      | i + 1, _, hi, _ => simp at hi
      | 0, j + 1, _, hj => simp at hj
    · intro j nb' k hj hk
      match j, hj, hk with
      | 0, hj, hk =>
        simp only [List.getElem?_cons_zero, Option.some.injEq] at hj hk
        subst hj; subst hk
        rw [map_plain _ hcs]
        exact hcell
      | j + 1, hj, _ => simp at hj

/-- All names are forgotten. -/
theorem CRel.anchor0 {ε : Env} {nt : Nat} {σ : St} {a : Act} {w : World} (hc : CRel ε nt σ a w) (B : Nat) (tl : List (Nat × SV)) (orc : List Bool) (ext : List SV)
    (h : AllT ε.ρ (lenv B w []).ρ σ.tl tl) : CRel (lenv B w []) nt { tl := tl, bs := [], orc := orc, ext := ext } a w := by
  refine ⟨?_, hc.size, hc.defers, rel_nil w _ (fun _ _ h => (oro_le h).2)⟩
  intro d v hd
  obtain ⟨u, h1, h2⟩ := h.lk hd
  rw [hc.tl d u h1, h2]

theorem Over.lenv {w0 w : World} {B : Nat} {ks : List Nat} (hn : New w0 w) (hk : ∀ k ∈ ks, w0.heap.size ≤ k) : Over w0 (lenv B w ks) := by
  refine ⟨hn, fun i hi => ?_⟩
  have hi' : i < ks.length := hi
  show w0.heap.size ≤ if i < ks.length then ks.getD i 0 else _
  rw [if_pos hi']
  exact hk _ (by rw [List.getD_eq_getElem?_getD, List.getElem?_eq_getElem hi']; exact List.getElem_mem hi')

/-- A machine's work, seen from the statement's beginning. -/
theorem LU.new {B : Bd} {w0 w w' : World} {ku b : Nat} {m : M} (h : LU B w0 w ku b m) (hn : New w0 w) (he : Evo w b w') : New w0 w' :=
  ⟨he.os.trans hn.os, he.tape.trans hn.tape, he.output.trans hn.output, Nat.le_trans hn.size he.size, fun k hk =>
    (he.block k (Nat.lt_of_lt_of_le hk hn.size) (fun ho => by have := h.own k ho; omega)).trans (hn.block k hk)⟩

theorem LU.evo {B : Bd} {w0 w w' : World} {ku b : Nat} {m m' : M} (h : LU B w0 w ku b m) (hn : New w0 w) (he : Evo w b w') (hu : UOk B w' ku b m') : LU B w0 w' ku b m' :=
  ⟨hu, fun j ho => (he.fresh j ho).elim (h.own j) (fun h1 => Nat.le_trans hn.size h1)⟩

/-- A new block of an answer. -/
theorem LU.excl {B : Bd} {w0 w w' : World} {ku b kr : Nat} {m : M} (h : LU B w0 w ku b m) (hn : New w w') (hk : w.heap.size ≤ kr) (hlt : kr < w'.heap.size) : LU (B.with kr) w0 w' ku b m :=
  ⟨h.u.excl hn hk hlt, fun j ho => h.own j (hfr h.u.2.2 hn j ho)⟩

/-- Own work that writes a block of an answer. -/
theorem LU.rel35 {B : Bd} {w0 w w' : World} {ku b kr : Nat} {m : M} {bs : List NB} {ro : Addr → Option Value} (h : LU B w0 w ku b m) (hB : B ≤ kr) (hx : kr ∈ B.x) {x : Array Value} (hkc : w.heap[kr]? = some (.cells x 35 (0, 0))) (hr : Rel (env w [kr] ro) bs w') : LU B w0 w' ku b m := by
  have hsz : w.heap.size ≤ w'.heap.size := by rw [hr.size]; exact Nat.le_add_right _ _
  obtain ⟨h1, h2, h3⟩ := h.u.2.2.side35 hB hx hkc hr.os hr.tape hr.output hsz (fun k hk hne => hr.keep k hk (fun i hi e => by
    have hi1 : i < 1 := hi
    have : i = 0 := by omega
    subst this
    exact hne e.symm))
  exact ⟨⟨h.u.1, h.u.2.1.keep h2, h1⟩, fun j ho => h.own j (h3 j ho)⟩

/-- A call of Next, behind which one block keeps its name. -/
theorem law_next1 {B : Bd} {w0 w1 : World} {ε : Env} {nt : Nat} {f : FuncId} {k : List Item} {σ : St} {a : Act} {R : Ending → World → Prop} {m m' : M} (N d : Nat) (r : Res) (ku b i : Nat) (nb : NB) (tl : List (Nat × SV)) {ad : Option Addr} {nn cp : Nat} {rs : List C}
    (hN : New w0 w1) (hc : CRel ε nt σ a w1) (hu : LU B w0 w1 ku b m)
    (hx : callX k σ = some ⟨14, [.c (.rp ⟨ku, 0, none⟩), .a rs], [], #[]⟩) (hrs : (E.a rs).real ε.ρ = resV r ad nn cp) (hnm : StrsAt B w1 ad nn cp r.names)
    (hd : dstX k = some d) (hdt : Nat.blt d nt = true) (hi : σ.bs[i]? = some nb) (hcs : nb.cs.all (C.below 0) = true) (h1 : nb.ty ≠ 66) (h2 : nb.ty ≠ 84) (hB : B ≤ ε.ρ i)
    (hT : ∀ w', AllT ε.ρ (lenv B w' [ε.ρ i]).ρ σ.tl tl) (hm' : next N m r = m') (hok : okNext N m r)
    (h : ∀ a' w', New w0 w' → LU B w0 w' ku b m' → CRel (lenv B w' [ε.ρ i]) nt { tl := (d, .e (.a m'.call.cs)) :: tl, bs := [nb] } a' w' → Gets Tryz.prog f (popX k) a' w' R) :
    Gets Tryz.prog f k a w1 R := by
  refine gets_call hc hx (by kernel_rfl) (S := UNextR B ku b w1 m') (by
    have := unext_calls hu.u r ad nn cp hnm N hok
    rw [hm'] at this
    have e : CallX.real ε.ρ ⟨14, [.c (.rp ⟨ku, 0, none⟩), .a rs], [], #[]⟩ = #[bp ku, resV r ad nn cp] := by simp only [CallX.real, List.map_cons, List.map_nil, hrs]; rfl
    rw [e]; exact this) (fun e w' ⟨e1, e2, e3⟩ => ⟨_, e1, ?_⟩)
  rw [hd]
  have hcell := hc.mem.cells i nb hi
  have hcell' : w'.heap[ε.ρ i]? = some (.cells (plainR nb.cs) nb.ty (0, 0)) := by
    obtain ⟨_, _, _, _, _, hM⟩ := hu.u.2.2
    rw [e3.block _ (lt_of_block hcell) (hM.notown hcell h1 h2), hcell, map_plain _ hcs]
  refine h _ w' (hu.new hN e3) (hu.evo hN e3 e2) ⟨fun d' v hd' => ?_, by rw [Act.put_size]; exact hc.size, by rw [Act.put_defers']; exact hc.defers, ?_⟩
  · simp only [lk] at hd'
    split at hd'
    · rename_i e
      cases hd'
      subst e
      show (a.tmps.setIfInBounds d _)[d]? = _
      rw [Array.getElem?_setIfInBounds_self_of_lt (by rw [hc.size]; exact Nat.le_of_ble_eq_true hdt)]
      exact congrArg (fun x => some (Value.agg x)) (map_plain _ rfl).symm
    · rename_i hne
      obtain ⟨u, hu1, hu2⟩ := (hT w').lk hd'
      show (a.tmps.setIfInBounds d _)[d']? = _
      rw [Array.getElem?_setIfInBounds_ne hne, hc.tl d' u hu1, hu2]
  · refine rel_start rfl ?_ ?_ (fun ad v hv => by obtain ⟨h1, h2⟩ := oro_le hv; exact ⟨h2, by simp; omega⟩)
    · intro i j k hi hj
      match i, j, hi, hj with
      | 0, 0, _, _ => rfl
      | i + 1, _, hi, _ => simp at hi
      | 0, j + 1, _, hj => simp at hj
    · intro j nb' k hj hk
      match j, hj, hk with
      | 0, hj, hk =>
        simp only [List.getElem?_cons_zero, Option.some.injEq] at hj hk
        subst hj; subst hk
        rw [map_plain _ hcs]
        exact hcell'
      | j + 1, hj, _ => simp at hj

/- ROWS OF TEXTS -/

/-- A row of texts of one's own. -/
def Row (B : Nat) (w : World) (a : Option Addr) (n c : Nat) (l : List ByteArray) : Prop := w.ownsRow B 9 1 (.slice a n c) n (l.map Value.string)

theorem Row.strs {B : Nat} {B' : Bd} {w : World} {a : Option Addr} {n c : Nat} {l : List ByteArray} (h : Row B w a n c l) : StrsAt B' w a n c l := by
  obtain ⟨a', c', h1, h2⟩ := StrsAt.of_row (B := B') h
  simp only [Value.slice.injEq] at h1
  obtain ⟨rfl, _, rfl⟩ := h1
  exact h2

theorem Row.fresh {B : Nat} {w w' : World} {a : Option Addr} {n c : Nat} {l : List ByteArray} (h : Row B w a n c l) (hn : New w w') : Row B w' a n c l := by
  obtain ⟨h1, h2⟩ := h
  refine ⟨h1, ?_⟩
  rcases h2 with h2 | ⟨g, cap, cur, h3, h4, h5, h6⟩
  · exact .inl h2
  · exact .inr ⟨g, cap, cur, h3, h4, by rw [hn.block g (lt_of_block h5)]; exact h5, h6⟩

theorem row_one {B k : Nat} {w : World} (s : ByteArray) (hk : B ≤ k) (h : w.heap[k]? = some (.cells #[.string s] 9 (0, 0))) : Row B w (some ⟨k, 0, none⟩) 1 1 [s] :=
  ⟨rfl, .inr ⟨k, 1, #[.string s], rfl, hk, h, Nat.le_refl _, by decide, rfl, rfl⟩⟩

theorem append9 {B : Nat} {w : World} {a : Option Addr} {n cp : Nat} {l : List ByteArray} (hrow : Row B w a n cp l) (ad : Addr) (c2 : Nat) (s : ByteArray) (hs : w.cell? ad = some (.string s)) (hn : n ≤ 1000000) (hB : B ≤ w.heap.size) (ty : TypeId) :
    ∃ a' cp' w', (Builtin.append_ #[22, 22] ty #[.slice a n cp, .slice (some ad) 1 c2]).run Tryz.prog w = .ok (.slice a' (n + 1) cp') w' ∧ Row B w' a' (n + 1) cp' (l ++ [s]) ∧ w.grownBy w' (Value.ownBlock (.slice a n cp)) := by
  obtain ⟨i9, hi9, hz9⟩ : ∃ i, Tryz.prog.info? 9 = some i ∧ i.zero.map (fun z => z.cells) = some #[.string ⟨#[]⟩] ∧ i.size = 1 ∧ i.bytes = 16 := by
    have := info9
    cases hi : Tryz.prog.info? 9 with
    | none => rw [hi] at this; cases this
    | some i => rw [hi] at this; simp only [Option.map_some, Option.some.injEq, Prod.mk.injEq] at this; exact ⟨i, rfl, this.1, this.2⟩
  obtain ⟨hz, hs9, hb9⟩ := hz9
  obtain ⟨z, hz1, hz2⟩ : ∃ z, i9.zero = some z ∧ z.cells = #[.string ⟨#[]⟩] := by
    cases h : i9.zero with
    | none => rw [h] at hz; cases hz
    | some z => rw [h] at hz; simp only [Option.map_some, Option.some.injEq] at hz; exact ⟨z, rfl, hz⟩
  have hl63 : n + 1 ≤ maxLen := Nat.le_trans (by omega : n + 1 ≤ 1000001) (by decide)
  obtain ⟨v', w', hrun, hown, hgrow, _, _⟩ := run_append_own_at (P := Tryz.prog) w B 22 ty 9 i9 z 1 16 Tryz.underlying22 hi9 hz1 hs9 hb9 (by rw [hz2]; rfl) (by decide)
    (.slice a n cp) n (l.map Value.string) hrow ad 1 c2 [.string s] rfl (fun j u hj => by
      match j, hj with
      | 0, hj =>
        simp only [List.getElem?_cons_zero, Option.some.injEq] at hj
        subst hj
        have : ad.add 0 = ad := by unfold Addr.add; simp
        rw [this]; exact hs
      | j + 1, hj => simp at hj) (fun u hu => by simp only [List.mem_singleton] at hu; subst hu; rfl) hl63 (by omega) hB
  have hrow' : w'.ownsRow B 9 1 v' (n + 1) ((l ++ [s]).map Value.string) := by simpa using hown
  obtain ⟨a', c', rfl, _⟩ := StrsAt.of_row (B := ⟨B, []⟩) hrow'
  exact ⟨a', c', w', hrun, hrow', hgrow⟩

/-- One text behind a row of one's own; the names are forgotten. -/
theorem gets_append9 {B : Nat} {w0 : World} {ε : Env} {nt : Nat} {f : FuncId} {k : List Item} {σ : St} {a : Act} {w : World} {R : Ending → World → Prop} (d x y b : Nat) (ap : Option Addr) (n cp : Nat) (l : List ByteArray) (s : ByteArray) (tl : List (Nat × SV))
    (hN : New w0 w) (hB0 : B = w0.heap.size) (hc : CRel ε nt σ a w) (hop : opX k = some (some d, .call ⟨.builtin .append, #[.tmp x, .tmp y], #[22, 22]⟩, 22)) (hx : lk x σ.tl = some (.e (.c (.sl ap n cp)))) (hy : lk y σ.tl = some (.e (.c (.nsl b 0 1 1)))) (hb : σ.bs[b]? = some ⟨9, [.str s]⟩)
    (hrow : Row B w ap n cp l) (hn : n ≤ 1000000) (hd : Nat.blt d nt = true) (hT : ∀ ρ', AllT ε.ρ ρ' σ.tl tl)
    (h : ∀ a' w' ap' cp', New w0 w' → Row B w' ap' (n + 1) cp' (l ++ [s]) → CRel (lenv B w' []) nt { tl := (d, .e (.c (.sl ap' (n + 1) cp'))) :: tl, bs := [] } a' w' → Gets Tryz.prog f (popX k) a' w' R) :
    Gets Tryz.prog f k a w R := by
  have hcell : w.cell? ⟨ε.ρ b, 0, none⟩ = some (.string s) := by have := hc.mem.sees.cell? hb 0; simpa [C.real] using this
  obtain ⟨ap', cp', w', hrun, hrow', hgrow⟩ := append9 hrow ⟨ε.ρ b, 0, none⟩ 1 s hcell hn (by rw [hB0]; exact hN.size) 22
  have hex : a.eval (.tmp x) = .slice ap n cp := ev_ok hc.tl (x := .tmp x) hx
  have hey : a.eval (.tmp y) = .slice (some ⟨ε.ρ b, 0, none⟩) 1 1 := ev_ok hc.tl (x := .tmp y) hy
  have hN' : New w0 w' := ⟨hgrow.os.trans hN.os, hgrow.tape.trans hN.tape, hgrow.output.trans hN.output, Nat.le_trans hN.size hgrow.size, fun j hj => by
    rw [hgrow.block j (Nat.lt_of_lt_of_le hj hN.size) ?_]
    · exact hN.block j hj
    · intro e
      obtain ⟨_, h2⟩ := hrow
      rcases h2 with ⟨h3, _⟩ | ⟨g, cap, cur, h3, h4, _⟩
      · simp only [Value.slice.injEq] at h3; rw [h3.1] at e; simp [Value.ownBlock] at e
      · simp only [Value.slice.injEq] at h3
        rw [h3.1] at e
        simp only [Value.ownBlock, Option.some.injEq] at e
        omega⟩
  refine gets_opX (dst := some d) (op := .call ⟨.builtin .append, #[.tmp x, .tmp y], #[22, 22]⟩) (ty := 22) hop (v := .slice ap' (n + 1) cp') (w' := w') (fun pos after => by simp [execOp, resolve, invoke, builtin, hex, hey, hrun]) ?_
  refine h _ w' ap' cp' hN' hrow' ⟨fun d' v hd' => ?_, by rw [Act.put_size]; exact hc.size, by rw [Act.put_defers']; exact hc.defers, rel_nil w' _ (fun _ _ h => (oro_le h).2)⟩
  simp only [lk] at hd'
  split at hd'
  · rename_i e
    cases hd'
    subst e
    show (a.tmps.setIfInBounds d _)[d]? = _
    rw [Array.getElem?_setIfInBounds_self_of_lt (by rw [hc.size]; exact Nat.le_of_ble_eq_true hd)]
    rfl
  · rename_i hne
    obtain ⟨u, hu1, hu2⟩ := (hT (lenv B w' []).ρ).lk hd'
    show (a.tmps.setIfInBounds d _)[d']? = _
    rw [Array.getElem?_setIfInBounds_ne hne, hc.tl d' u hu1, hu2]

end Go.Proofs.YtoihipolfdhhnaaGreatDoor
