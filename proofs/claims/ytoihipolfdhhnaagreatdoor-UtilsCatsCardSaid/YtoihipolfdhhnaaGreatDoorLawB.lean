/-
  A stretch of a statement's own function up to a call of Next, and the call.
-/
import Derived.Test.YtoihipolfdhhnaaGreatDoorLawA
namespace Go.Proofs.YtoihipolfdhhnaaGreatDoor

/-- A utility that was made in the statement's own time. -/
structure LU (B : Bd) (w0 w : World) (ku b : Nat) (m : M) : Prop where
  u : UOk B w ku b m
  own : ∀ j, Own w b j → w0.heap.size ≤ j

theorem LU.fresh {B : Bd} {w0 w w' : World} {ku b : Nat} {m : M} (h : LU B w0 w ku b m) (hn : New w w') : LU B w0 w' ku b m :=
  ⟨⟨h.u.1, h.u.2.1.keep (hn.keep B), (h.u.2.2.fresh hn).1⟩, fun j ho => h.own j (hfr h.u.2.2 hn j ho)⟩

theorem Sep.fresh {B : Bd} {w w' : World} {b b2 : Nat} {m m2 : M} (h : Sep w b b2) (hm : MOk B w b m) (hm2 : MOk B w b2 m2) (hn : New w w') : Sep w' b b2 :=
  fun k h1 h2 => h k (hfr hm hn k h1) (hfr hm2 hn k h2)

theorem Rel.grow {ε : Env} {bs ex : List NB} {w w' : World} (h : Rel ε bs w) (h' : Rel ε (bs ++ ex) w') : New w w' := by
  refine ⟨h'.os.trans h.os.symm, h'.tape.trans h.tape.symm, h'.output.trans h.output.symm, by rw [h.size, h'.size, List.length_append]; omega, fun k hk => ?_⟩
  by_cases hn : ∃ i, i < bs.length ∧ ε.ρ i = k
  · obtain ⟨i, hi, rfl⟩ := hn
    rw [h.cells i _ (List.getElem?_eq_getElem hi), h'.cells i _ (by rw [List.getElem?_append_left hi]; exact List.getElem?_eq_getElem hi)]
  · have hlt : k < ε.wb.heap.size := by
      rcases Nat.lt_or_ge k ε.wb.heap.size with h1 | h1
      · exact h1
      · have := h.size
        have h0 := h.n0
        exact absurd ⟨ε.n0 + (k - ε.wb.heap.size), by omega, by rw [h.new _ (by omega)]; omega⟩ hn
    have hno : ∀ i, i < ε.n0 → ε.ρ i ≠ k := fun i hi e => hn ⟨i, Nat.lt_of_lt_of_le hi h.n0, e⟩
    rw [h.keep k hlt hno, h'.keep k hlt hno]

theorem Over.step {w w1 w2 : World} {ε : Env} {bs : List NB} (h : Over w ε) (hr : Rel ε bs w1) (hn : New w w2) (ro : Addr → Option Value) : Over w (ε.next bs.length w2 ro) := by
  refine ⟨hn, fun i hi => ?_⟩
  have hi' : i < bs.length := hi
  simp only [Env.next, if_pos hi']
  rcases Nat.lt_or_ge i ε.n0 with h1 | h1
  · exact h.names i h1
  · rw [hr.new i h1]; have := h.new.size; omega

theorem law_next {B : Bd} {w0 w1 : World} {ε : Env} {nt : Nat} {f : FuncId} {k : List Item} {σ : St} {a : Act} {R : Ending → World → Prop} {m m' : M} (n N d : Nat) (orc : List Bool) (r : Res) (ku b : Nat) (tl : List (Nat × SV)) (ex : List NB) {ad : Option Addr} {nn cp : Nat} {rs : List C}
    (hov : Over w0 ε) (hc : CRel ε nt σ a w1) (hu : LU B w0 w1 ku b m) {obs : List (Env → Prop)} (hob : (run Tab nt n k σ).2.ob = obs) (hobs : AllP obs ε) (hbs : (run Tab nt n k σ).2.bs = σ.bs ++ ex)
    (hpick : tl.map (fun x => lk x.1 (run Tab nt n k σ).2.tl) = tl.map (fun x => some x.2))
    (hx : callX (run Tab nt n k σ).1 (run Tab nt n k σ).2 = some ⟨14, [.c (.rp ⟨ku, 0, none⟩), .a rs], [], #[]⟩) (hrs : (E.a rs).real ε.ρ = resV r ad nn cp) (hnm : StrsAt B w1 ad nn cp r.names)
    (hd : dstX (run Tab nt n k σ).1 = some d) (hdn : Nat.blt d nt = true) (hts : ((σ.bs ++ ex).all fun b => b.ty != 66 && b.ty != 84) = true)
    (hb : (tl.all fun x => x.2.below (σ.bs ++ ex).length) = true) (hb' : ((σ.bs ++ ex).all fun b => b.cs.all (C.below (σ.bs ++ ex).length)) = true)
    (hm' : next N m r = m') (hok : okNext N m r)
    (h : ∀ ε' a' w', Over w0 ε' → LU B w0 w' ku b m' → (∀ ku2 b2 m2, LU B w0 w1 ku2 b2 m2 → Sep w1 b b2 → LU B w0 w' ku2 b2 m2 ∧ Sep w' b b2) → CRel ε' nt { tl := (d, .e (.a m'.call.cs)) :: tl, bs := σ.bs ++ ex, orc := orc } a' w' → Gets Tryz.prog f (popX (run Tab nt n k σ).1) a' w' R) :
    Gets Tryz.prog f k a w1 R := by
  refine gets_run tab_ok n hc (holds_of hob hobs) (fun a2 w2 hc2 => ?_)
  have hr2 := hc2.mem.bs hbs
  have hn2 := hc.mem.grow hr2
  have hu2 := hu.fresh hn2
  have hN2 := hov.rel hr2
  have hx' : callX (run Tab nt n k σ).1 (run Tab nt n k σ).2 = some ⟨14, [.c (.rp ⟨ku, 0, none⟩), .a rs], [], #[]⟩ := hx
  refine gets_call hc2 hx' (by kernel_rfl) (S := UNextR B ku b w2 m') (by
    have := unext_calls hu2.u r ad nn cp (hnm.keep (hn2.keep B)) N hok
    rw [hm'] at this
    have e : CallX.real ε.ρ ⟨14, [.c (.rp ⟨ku, 0, none⟩), .a rs], [], #[]⟩ = #[bp ku, resV r ad nn cp] := by simp only [CallX.real, List.map_cons, List.map_nil, hrs]; rfl
    rw [e]; exact this) (fun e w' ⟨e1, e2, e3⟩ => ⟨_, e1, ?_⟩)
  rw [hd]
  have hN3 : New w0 w' := Evo.new hN2 e3 hu2.own
  refine h (ε.next (σ.bs ++ ex).length w' noRo) _ w' (hov.step hr2 hN3 noRo) ⟨e2, fun j ho => ?_⟩ (fun ku2 b2 m2 hu3 hs => ?_) ?_
  · rcases e3.fresh j ho with h1 | h1
    · exact hu2.own j h1
    · have := hN2.size; omega
  · have hu3' := hu3.fresh hn2
    have hs' := hs.fresh hu.u.2.2 hu3.u.2.2 hn2
    obtain ⟨h1, h2⟩ := e3.other hu2.u.2.2 hu3'.u.2.2 hs'
    refine ⟨⟨⟨hu3.u.1, hu3'.u.2.1.keep (e3.keep hu2.u.2.2), h1⟩, fun j ho => ?_⟩, h2⟩
    obtain ⟨_, _, _, _, _, hM⟩ := hu3'.u.2.2
    have hb2 : w'.heap[b2]? = w2.heap[b2]? := e3.block b2 (lt_of_block hM.cells) (fun ho => hs' b2 ho (.inl rfl))
    have hcell : w'.cell? ⟨b2, 3, none⟩ = w2.cell? ⟨b2, 3, none⟩ := World.cell?_of_block hb2
    refine hu3'.own j ?_
    rcases ho with ho | ⟨n', c', ho⟩
    · exact .inl ho
    · exact .inr ⟨n', c', by rw [← hcell]; exact ho⟩
  · have hno : ∀ i nb, (σ.bs ++ ex)[i]? = some nb → w'.heap[ε.ρ i]? = w2.heap[ε.ρ i]? := by
      intro i nb hi
      have hcell := hr2.cells i nb hi
      have hty := List.all_eq_true.1 hts nb (List.mem_of_getElem? hi)
      simp only [Bool.and_eq_true, bne_iff_ne] at hty
      obtain ⟨_, _, _, _, _, hM⟩ := hu2.u.2.2
      exact e3.block _ (lt_of_block hcell) (hM.notown hcell hty.1 hty.2)
    have hc2' := hc2.pick tl (σ.bs ++ ex) hpick hbs
    have := CRel.next (ε := ε) (nt := nt) (tl := (d, .e (.a m'.call.cs)) :: tl) (bs' := σ.bs ++ ex) (a := a2.put (some d) (.agg (plainR m'.call.cs))) (w' := w') (σ.bs ++ ex).length noRo (hc2'.tl.lay hc2.size d hdn _ rfl) (by rw [Act.put_size]; exact hc2.size) (by rw [Act.put_defers']; exact hc2.defers) rfl hr2.inj
      (fun i nb hi => by rw [hno i nb hi]; exact hr2.cells i nb hi) (fun _ _ h => by cases h) (by simp only [List.all_cons, hb]; rfl) hb'
    exact ⟨this.tl, this.size, this.defers, this.mem⟩

end Go.Proofs.YtoihipolfdhhnaaGreatDoor
