/-
  What the statements' own functions call: New, Next.
-/
import Derived.Test.YtoihipolfdhhnaaGreatDoorNewB
namespace Go.Proofs.YtoihipolfdhhnaaGreatDoor

/-- Two machines share nothing. -/
def Sep (w : World) (b b2 : Nat) : Prop := ∀ k, Own w b k → ¬ Own w b2 k

theorem Own.lt {B : Bd} {b : Nat} {w : World} {m : M} (hm : MOk B w b m) {k : Nat} (h : Own w b k) : k < w.heap.size := by
  obtain ⟨_, _, _, _, _, hM⟩ := hm
  rcases (hM.own k).1 h with rfl | rfl
  · exact lt_of_block hM.cells
  · obtain ⟨_, h2⟩ := hM.owns
    rcases h2 with ⟨h3, _⟩ | ⟨g, cap, cur, h3, _, h5, _⟩
    · cases h3
    · simp only [Value.slice.injEq, Option.some.injEq, Addr.mk.injEq] at h3
      obtain ⟨⟨rfl, _⟩, _, _⟩ := h3
      exact lt_of_block h5

/-- One machine's work leaves the other. -/
theorem Evo.other {B : Bd} {b b2 : Nat} {w w' : World} {m m2 : M} (h : Evo w b w') (hm : MOk B w b m) (hm2 : MOk B w b2 m2) (hs : Sep w b b2) : MOk B w' b2 m2 ∧ Sep w' b b2 := by
  have hkeep := h.keep hm
  have hm20 := hm2
  obtain ⟨a, n, c, th, row, hM⟩ := hm2
  have hb2 : w'.heap[b2]? = w.heap[b2]? := h.block b2 (lt_of_block hM.cells) (fun ho => hs b2 ho (.inl rfl))
  have hcell : w'.cell? ⟨b2, 3, none⟩ = w.cell? ⟨b2, 3, none⟩ := World.cell?_of_block hb2
  refine ⟨⟨a, n, c, th, row, hM.base, by rw [hb2]; exact hM.cells, ?_, hM.todo.mono (fun k x hx => hx.keep hkeep), hM.len, thn_keep hM.thn hkeep, hM.glob.keep hkeep⟩, fun k ho ho2 => ?_⟩
  · obtain ⟨h1, h2⟩ := hM.owns
    refine ⟨h1, ?_⟩
    rcases h2 with h2 | ⟨g, cap, cur, h3, h4, h5, h6⟩
    · exact .inl h2
    · refine .inr ⟨g, cap, cur, h3, h4, ?_, h6⟩
      simp only [Value.slice.injEq] at h3
      rw [h.block g (lt_of_block h5) (fun ho => hs g ho ((hM.own g).2 (.inr h3.1)))]
      exact h5
  · have ho2' : Own w b2 k := by
      rcases ho2 with ho2 | ⟨n', c', ho2⟩
      · exact .inl ho2
      · exact .inr ⟨n', c', by rw [← hcell]; exact ho2⟩
    rcases h.fresh k ho with h1 | h1
    · exact hs k h1 ho2'
    · have := ho2'.lt hm20; omega

/-- A call of New. -/
theorem gets_new {B : Bd} {ε : Env} {nt : Nat} {f : FuncId} {k : List Item} {σ : St} {a : Act} {w : World} {R : Ending → World → Prop} (d : Nat) (orc : List Bool) (s : ByteArray) (l : List ByteArray) (sl : E) (ad : Option Addr) (n cp : Nat) (pd : Dp)
    (hc : CRel ε nt σ a w) (hg : GlobOk B w) (hx : callX k σ = some ⟨12, [.c (.str s), sl], [], #[]⟩) (hsl : sl.real ε.ρ = .slice ad n cp) (hl : StrsAt B w ad n cp l) (hlen : l.length ≤ 1000000) (hp : progOf s = some pd) (hd : dstX k = some d) (hdn : Nat.blt d nt = true)
    (hb : (σ.tl.all fun x => x.2.below σ.bs.length) = true) (hb' : (σ.bs.all fun b => b.cs.all (C.below σ.bs.length)) = true)
    (h : ∀ a' w' ku b, New w w' → w.heap.size ≤ ku → UOk B w' ku b ((m0 s).push (.start pd (l.drop 1))) → (∀ j, Own w' b j → w.heap.size ≤ j) → CRel (ε.next σ.bs.length w' noRo) nt { tl := (d, .e (.c (.rp ⟨ku, 0, none⟩))) :: σ.tl, bs := σ.bs, orc := orc } a' w' → Gets Tryz.prog f (popX k) a' w' R) :
    Gets Tryz.prog f k a w R := by
  refine gets_call hc hx (by kernel_rfl) (S := MadeU B s l w) (by
    have := new_calls (B := B) (w := w) hg s l ad n cp hl hlen
    have e : CallX.real ε.ρ ⟨12, [.c (.str s), sl], [], #[]⟩ = #[.string s, .slice ad n cp] := by simp only [CallX.real, List.map_cons, List.map_nil, hsl]; rfl
    rw [e]; exact this) (fun e w' ⟨h1, h2⟩ => ?_)
  rw [hp] at h2
  obtain ⟨ku, b, e1, e2, e3, e4⟩ := h2
  refine ⟨_, e1, ?_⟩
  rw [hd]
  refine h _ w' ku b h1 e2 e3 e4 ?_
  have hlt : ∀ i b, σ.bs[i]? = some b → ε.ρ i < w.heap.size := fun i b hi => lt_of_block (hc.mem.cells i b hi)
  have := CRel.next (ε := ε) (nt := nt) (tl := (d, .e (.c (.rp ⟨ku, 0, none⟩))) :: σ.tl) (bs' := σ.bs) (a := a.put (some d) (bp ku)) (w' := w') σ.bs.length noRo (hc.tl.lay hc.size d hdn _ rfl) (by rw [Act.put_size]; exact hc.size) (by rw [Act.put_defers']; exact hc.defers) rfl hc.mem.inj
    (fun i b hi => by rw [h1.block _ (hlt i b hi)]; exact hc.mem.cells i b hi) (fun _ _ h => by cases h) (by simp only [List.all_cons, hb]; rfl) hb'
  exact ⟨this.tl, this.size, this.defers, this.mem⟩

/-- A call of New for which there is no program. -/
theorem gets_new_none {B : Bd} {ε : Env} {nt : Nat} {f : FuncId} {k : List Item} {σ : St} {a : Act} {w : World} {R : Ending → World → Prop} (d : Nat) (orc : List Bool) (s : ByteArray) (l : List ByteArray) (sl : E) (ad : Option Addr) (n cp : Nat)
    (hc : CRel ε nt σ a w) (hg : GlobOk B w) (hx : callX k σ = some ⟨12, [.c (.str s), sl], [], #[]⟩) (hsl : sl.real ε.ρ = .slice ad n cp) (hl : StrsAt B w ad n cp l) (hlen : l.length ≤ 1000000) (hp : progOf s = none) (hd : dstX k = some d) (hdn : Nat.blt d nt = true)
    (hb : (σ.tl.all fun x => x.2.below σ.bs.length) = true) (hb' : (σ.bs.all fun b => b.cs.all (C.below σ.bs.length)) = true)
    (h : ∀ a' w', New w w' → CRel (ε.next σ.bs.length w' noRo) nt { tl := (d, .e (.c .nilp)) :: σ.tl, bs := σ.bs, orc := orc } a' w' → Gets Tryz.prog f (popX k) a' w' R) :
    Gets Tryz.prog f k a w R := by
  refine gets_call hc hx (by kernel_rfl) (S := MadeU B s l w) (by
    have := new_calls (B := B) (w := w) hg s l ad n cp hl hlen
    have e : CallX.real ε.ρ ⟨12, [.c (.str s), sl], [], #[]⟩ = #[.string s, .slice ad n cp] := by simp only [CallX.real, List.map_cons, List.map_nil, hsl]; rfl
    rw [e]; exact this) (fun e w' ⟨h1, h2⟩ => ?_)
  rw [hp] at h2
  refine ⟨_, h2, ?_⟩
  rw [hd]
  refine h _ w' h1 ?_
  have hlt : ∀ i b, σ.bs[i]? = some b → ε.ρ i < w.heap.size := fun i b hi => lt_of_block (hc.mem.cells i b hi)
  have := CRel.next (ε := ε) (nt := nt) (tl := (d, .e (.c .nilp)) :: σ.tl) (bs' := σ.bs) (a := a.put (some d) (.pointer none)) (w' := w') σ.bs.length noRo (hc.tl.lay hc.size d hdn _ rfl) (by rw [Act.put_size]; exact hc.size) (by rw [Act.put_defers']; exact hc.defers) rfl hc.mem.inj
    (fun i b hi => by rw [h1.block _ (hlt i b hi)]; exact hc.mem.cells i b hi) (fun _ _ h => by cases h) (by simp only [List.all_cons, hb]; rfl) hb'
  exact ⟨this.tl, this.size, this.defers, this.mem⟩

/-- A call of Next. -/
theorem gets_next {B : Bd} {ε : Env} {nt : Nat} {f : FuncId} {k : List Item} {σ : St} {a : Act} {w : World} {R : Ending → World → Prop} {m m' : M} (N d : Nat) (orc : List Bool) (r : Res) (ku b : Nat) {ad : Option Addr} {n cp : Nat} {rs : List C}
    (hc : CRel ε nt σ a w) (hu : UOk B w ku b m) (hm' : next N m r = m') (hok : okNext N m r) (hx : callX k σ = some ⟨14, [.c (.rp ⟨ku, 0, none⟩), .a rs], [], #[]⟩) (hrs : (E.a rs).real ε.ρ = resV r ad n cp) (hnm : StrsAt B w ad n cp r.names) (hd : dstX k = some d) (hdn : Nat.blt d nt = true)
    (hts : (σ.bs.all fun b => b.ty != 66 && b.ty != 84) = true)
    (hb : (σ.tl.all fun x => x.2.below σ.bs.length) = true) (hb' : (σ.bs.all fun b => b.cs.all (C.below σ.bs.length)) = true)
    (h : ∀ a' w', Evo w b w' → UOk B w' ku b m' → CRel (ε.next σ.bs.length w' noRo) nt { tl := (d, .e (.a m'.call.cs)) :: σ.tl, bs := σ.bs, orc := orc } a' w' → Gets Tryz.prog f (popX k) a' w' R) :
    Gets Tryz.prog f k a w R := by
  refine gets_call hc hx (by kernel_rfl) (S := UNextR B ku b w m') (by
    have := unext_calls hu r ad n cp hnm N hok
    rw [hm'] at this
    have e : CallX.real ε.ρ ⟨14, [.c (.rp ⟨ku, 0, none⟩), .a rs], [], #[]⟩ = #[bp ku, resV r ad n cp] := by simp only [CallX.real, List.map_cons, List.map_nil, hrs]; rfl
    rw [e]; exact this) (fun e w' ⟨e1, e2, e3⟩ => ⟨_, e1, ?_⟩)
  rw [hd]
  refine h _ w' e3 e2 ?_
  have hno : ∀ i nb, σ.bs[i]? = some nb → w'.heap[ε.ρ i]? = w.heap[ε.ρ i]? := by
    intro i nb hi
    have hcell := hc.mem.cells i nb hi
    have hty := List.all_eq_true.1 hts nb (List.mem_of_getElem? hi)
    simp only [Bool.and_eq_true, bne_iff_ne] at hty
    obtain ⟨_, _, _, _, _, _, _, hM⟩ := hu
    exact e3.block _ (lt_of_block hcell) (hM.notown hcell hty.1 hty.2)
  have := CRel.next (ε := ε) (nt := nt) (tl := (d, .e (.a m'.call.cs)) :: σ.tl) (bs' := σ.bs) (a := a.put (some d) (.agg (plainR m'.call.cs))) (w' := w') σ.bs.length noRo (hc.tl.lay hc.size d hdn _ rfl) (by rw [Act.put_size]; exact hc.size) (by rw [Act.put_defers']; exact hc.defers) rfl hc.mem.inj
    (fun i nb hi => by rw [hno i nb hi]; exact hc.mem.cells i nb hi) (fun _ _ h => by cases h) (by simp only [List.all_cons, hb]; rfl) hb'
  exact ⟨this.tl, this.size, this.defers, this.mem⟩

end Go.Proofs.YtoihipolfdhhnaaGreatDoor
