/-
  steps.New, utils.New.
-/
import Derived.Test.YtoihipolfdhhnaaGreatDoorNames
namespace Go.Proofs.YtoihipolfdhhnaaGreatDoor

def m0 (prog : ByteArray) : M := ⟨prog, 0, [], none, {}, false⟩

theorem Evo.new {w w1 w2 : World} {b : Nat} (h : New w w1) (he : Evo w1 b w2) (hr : ∀ k, Own w1 b k → w.heap.size ≤ k) : New w w2 :=
  ⟨he.os.trans h.os, he.tape.trans h.tape, he.output.trans h.output, Nat.le_trans h.size he.size, fun k hk => by
    rw [he.block k (Nat.lt_of_lt_of_le hk h.size) (fun ho => by have := hr k ho; omega)]
    exact h.block k hk⟩

/-- What is owned stays so where only new blocks come. -/
theorem hfr {B : Bd} {b : Nat} {w w' : World} {m : M} (hm : MOk B w b m) (hn : New w w') (j : Nat) (ho : Own w' b j) : Own w b j := by
  obtain ⟨_, _, _, _, _, hM⟩ := hm
  rcases ho with ho | ⟨n, c, ho⟩
  · exact .inl ho
  · refine .inr ⟨n, c, ?_⟩
    rw [← ho]
    exact (World.cell?_of_block (hn.block b (lt_of_block hM.cells))).symm

/-- What a maker of a machine comes to. -/
def MadeM (B : Bd) (w : World) (m : M) (e : Ending) (w' : World) : Prop := ∃ b, e = .returned (bp b) ∧ MOk B w' b m ∧ New w w' ∧ ∀ j, Own w' b j → w.heap.size ≤ j

theorem steps_new_calls {B : Bd} {w : World} (hg : GlobOk B w) (prog : ByteArray) (k : Fn) (f : FuncId) (c : Array Value) (hk : RepF B w k f c) :
    Calls Tryz.prog 20 #[.agg (plainR [.str prog, .int .i64 0]), .func (.func f) #[] c] w (MadeM B w ((m0 prog).push k)) := by
  refine enter (B := B) tab_ok [.e (.a [.str prog, .int .i64 0]), .e (.c (.fv f c))] [] [] 40 Tryz.func20 rfl rfl rfl (obs := []) (by kernel_rfl) trivial (fun a1 w1 hc1 => ?_)
  have hr1 := hc1.mem.bs (bs' := [⟨60, [.str prog, .int .i64 0]⟩, ⟨66, mcells prog 0 none 0 0 .nilf {} false⟩]) (by kernel_rfl)
  have hn1 := (Over.env w _).rel hc1.mem
  have hM : MAt B w1 (w.heap.size + 1) (m0 prog) none 0 0 none [] := by
    refine ⟨by have := hg.le; omega, ?_, ⟨rfl, .inl ⟨rfl, rfl⟩⟩, .nil, rfl, trivial, hg.keep (hn1.keep B)⟩
    have := hr1.cells 1 _ rfl
    rw [map_plain _ rfl] at this
    exact this
  have hm1 : MOk B w1 (w.heap.size + 1) (m0 prog) := ⟨_, _, _, _, _, hM⟩
  refine gets_does (c := ⟨22, [.c (.p 1 0), .c (.fv f c)], [], #[]⟩) 11 [(5, .e (.c (.rp ⟨w.heap.size + 1, 0, none⟩)))] [] [] hc1 (by kernel_rfl) (by kernel_rfl) (by kernel_rfl) rfl (push_calls hm1 (Nat.zero_le _) hm1.le k f c (hk.keep (hn1.keep B))) (fun ρ' => ⟨rfl, trivial⟩) (fun a2 w2 hm2 he2 hc2 => ?_)
  have hn2 : New w w2 := Evo.new hn1 he2 (fun j ho => by
    rcases (hM.own j).1 ho with rfl | h
    · omega
    · cases h)
  have hown : ∀ j, Own w2 (w.heap.size + 1) j → w.heap.size ≤ j := fun j ho => by
    rcases he2.fresh j ho with h | h
    · rcases (hM.own j).1 h with rfl | h
      · omega
      · cases h
    · have := hn1.size; omega
  refine gets_run tab_ok 20 hc2 (holds_of (obs := []) (by kernel_rfl) trivial) (fun a3 w3 hc3 => ?_)
  have hn3 := hc2.mem.same (hc3.mem.bs (bs' := []) (by kernel_rfl))
  obtain ⟨hm3, _⟩ := hm2.fresh hn3
  exact gets_fin tab_ok (l := [.c (.rp ⟨w.heap.size + 1, 0, none⟩)]) hc3 Tryz.func20 (by kernel_rfl) (by kernel_rfl) ⟨_, rfl, hm3, hn2.trans hn3, fun j ho => hown j (hfr hm2 hn3 j ho)⟩

theorem info9 : (Tryz.prog.info? 9).map (fun i => (i.zero.map fun z => z.cells, i.size, i.bytes)) = some (some #[.string ⟨#[]⟩], 1, 16) := by kernel_rfl

/-- An operation of a drawn region whose run is known, where it alone may come up. -/
theorem dgets_opR {P : Program} {f : FuncId} {ops : Array Oper} {k : List Item} {a : Act} {w w' : World} {R : Ending → World → Prop} {S : World → Prop} {fuel : Nat} {listed : Array Bool} {i : Nat} {o : Oper} {v : Value}
    (hr : Region.ready .any ops listed = [i]) (ho : ops[i]? = some o) (hw : o.guard = none) (hrun : (execOp a.eval o).run P w = .ok (.value v) w')
    (h : S w' ∧ wpAnyH P .any ops (Behind P f k R) S fuel (listed.setIfInBounds i true) (a.put o.dst v) w') : wpAnyH P .any ops (Behind P f k R) S (fuel + 1) listed a w := by
  refine wpAnyH_all hr (by simp) (fun j hj => ?_)
  simp only [List.mem_singleton] at hj
  subst hj
  have hw' : Region.wanted o (yielded ops a.tmps) = true := by unfold Region.wanted; rw [hw]
  unfold wpOp
  simp only [ho, hw', if_true]
  refine .inl ?_
  unfold Oper.wp
  rw [hrun]
  exact h

/-- All texts of a slice, as cells. -/
theorem StrsAt.news {B : Bd} {w : World} {a : Addr} {n c : Nat} {l : List ByteArray} (h : StrsAt B w (some a) n c l) : ∀ j u, (l.map Value.string)[j]? = some u → w.cell? (a.add j) = some u := by
  intro j u hj
  rw [List.getElem?_map] at hj
  cases hl : l[j]? with
  | none => rw [hl] at hj; cases hj
  | some s =>
    rw [hl] at hj
    simp only [Option.map_some, Option.some.injEq] at hj
    obtain ⟨ad, h1, h2, _⟩ := h.at_ j s hl
    cases h1
    rw [h2, hj]

theorem StrsAt.of_row {B : Bd} {B' : Nat} {w : World} {v : Value} {n : Nat} {l : List ByteArray} (h : w.ownsRow B' 9 1 v n (l.map Value.string)) : ∃ a c, v = .slice a n c ∧ StrsAt B w a n c l := by
  obtain ⟨h1, h2⟩ := h
  simp only [List.length_map, Nat.mul_one] at h1
  rcases h2 with ⟨rfl, rfl⟩ | ⟨g, cap, cur, rfl, _, h5, h6, h7, h8, h9⟩
  · exact ⟨none, 0, rfl, h1.symm, Nat.le_refl _, fun j s hj => by rw [List.length_eq_zero_iff.1 h1] at hj; simp at hj⟩
  · refine ⟨_, cap, rfl, h1.symm, h6, fun j s hj => ⟨_, rfl, ?_, .inr ⟨_, _, _, h5, by decide, by decide, by decide, fun e => absurd e (by decide)⟩⟩⟩
    rw [addr_add]
    have hjl : j < l.length := (List.getElem?_eq_some_iff.1 hj).1
    have : (cur.toList.take (n * 1))[j]? = some (.string s) := by rw [h9, List.getElem?_map, hj]; rfl
    rw [List.getElem?_take_of_lt (by omega), Array.getElem?_toList] at this
    simp [World.cell?, h5, this]

/-- What New comes to. -/
def MadeU (B : Bd) (s : ByteArray) (l : List ByteArray) (w : World) (e : Ending) (w' : World) : Prop :=
  New w w' ∧ match progOf s with
    | none => e = .returned (.pointer none)
    | some d => ∃ k b, e = .returned (bp k) ∧ w.heap.size ≤ k ∧ UOk B w' k b ((m0 s).push (.start d (l.drop 1))) ∧ ∀ j, Own w' b j → w.heap.size ≤ j

/-- New's end: from the words on. -/
theorem new_end {B : Bd} {w w1 : World} {a1 : Act} {k : List Item} (hg : GlobOk B w) (s : ByteArray) (l : List ByteArray) (d : Dp) (hp : progOf s = some d) (hn : New w w1) (kd kw : Nat) (df : FuncId) (dc : Array Value)
    (hd : Box w1 kd 55 (.func (.func df) #[] dc)) (hrd : RepD w1 d df dc) (hws : StrsBox B w1 kw (l.drop 1))
    (hc : CRel (env0 B w1) Tryz.f12.ntmps { tl := [(0, .e (.c (.str s))), (5, .e (.c (.rp ⟨kd, 0, none⟩))), (6, .e (.c (.rp ⟨kw, 0, none⟩)))], bs := [] } a1 w1)
    (hk : (run Tab Tryz.f12.ntmps 40 k { tl := [(0, .e (.c (.str s))), (5, .e (.c (.rp ⟨kd, 0, none⟩))), (6, .e (.c (.rp ⟨kw, 0, none⟩)))], bs := [] }).2.ob = [])
    (hbs : (run Tab Tryz.f12.ntmps 40 k { tl := [(0, .e (.c (.str s))), (5, .e (.c (.rp ⟨kd, 0, none⟩))), (6, .e (.c (.rp ⟨kw, 0, none⟩)))], bs := [] }).2.bs = [])
    (hx : callX (run Tab Tryz.f12.ntmps 40 k { tl := [(0, .e (.c (.str s))), (5, .e (.c (.rp ⟨kd, 0, none⟩))), (6, .e (.c (.rp ⟨kw, 0, none⟩)))], bs := [] }).1 (run Tab Tryz.f12.ntmps 40 k { tl := [(0, .e (.c (.str s))), (5, .e (.c (.rp ⟨kd, 0, none⟩))), (6, .e (.c (.rp ⟨kw, 0, none⟩)))], bs := [] }).2 = some ⟨20, [.a [.str s, .int .i64 0], .c (.f 21 [.r ⟨kd, 0, none⟩, .r ⟨kw, 0, none⟩])], [], #[]⟩)
    (hdst : dstX (run Tab Tryz.f12.ntmps 40 k { tl := [(0, .e (.c (.str s))), (5, .e (.c (.rp ⟨kd, 0, none⟩))), (6, .e (.c (.rp ⟨kw, 0, none⟩)))], bs := [] }).1 = some 21)
    (hend : ∀ b, (run Tab Tryz.f12.ntmps 40 (popX (run Tab Tryz.f12.ntmps 40 k { tl := [(0, .e (.c (.str s))), (5, .e (.c (.rp ⟨kd, 0, none⟩))), (6, .e (.c (.rp ⟨kw, 0, none⟩)))], bs := [] }).1) { tl := [(21, .e (.c (.rp ⟨b, 0, none⟩)))], bs := [] }).2.ob = [] ∧
      (run Tab Tryz.f12.ntmps 40 (popX (run Tab Tryz.f12.ntmps 40 k { tl := [(0, .e (.c (.str s))), (5, .e (.c (.rp ⟨kd, 0, none⟩))), (6, .e (.c (.rp ⟨kw, 0, none⟩)))], bs := [] }).1) { tl := [(21, .e (.c (.rp ⟨b, 0, none⟩)))], bs := [] }).2.bs = [⟨69, [.rp ⟨b, 0, none⟩]⟩] ∧
      isFin (run Tab Tryz.f12.ntmps 40 (popX (run Tab Tryz.f12.ntmps 40 k { tl := [(0, .e (.c (.str s))), (5, .e (.c (.rp ⟨kd, 0, none⟩))), (6, .e (.c (.rp ⟨kw, 0, none⟩)))], bs := [] }).1) { tl := [(21, .e (.c (.rp ⟨b, 0, none⟩)))], bs := [] }).1 = true ∧
      resXs Tab (run Tab Tryz.f12.ntmps 40 (popX (run Tab Tryz.f12.ntmps 40 k { tl := [(0, .e (.c (.str s))), (5, .e (.c (.rp ⟨kd, 0, none⟩))), (6, .e (.c (.rp ⟨kw, 0, none⟩)))], bs := [] }).1) { tl := [(21, .e (.c (.rp ⟨b, 0, none⟩)))], bs := [] }).2 Tryz.f12.results.toList = some [.c (.p 0 0)]) :
    Gets Tryz.prog 12 k a1 w1 (MadeU B s l w) := by
  refine gets_run tab_ok 40 hc (holds_of hk trivial) (fun a2 w2 hc2 => ?_)
  have hn2 := hc.mem.same (hc2.mem.bs hbs)
  have hk2 := hn2.keep B
  refine gets_call hc2 hx (by kernel_rfl) (steps_new_calls (B := B) (hg.keep ((hn.trans hn2).keep B)) s (.start d (l.drop 1)) 21 #[bp kd, bp kw] ⟨rfl, kd, kw, df, dc, rfl, hd.keep hk2, hrd.keep hk2, hws.keep hk2⟩) (fun e w3 ⟨b, e1, e2, e3, e4⟩ => ⟨_, e1, ?_⟩)
  rw [hdst]
  have hc3 : CRel (env0 B w3) Tryz.f12.ntmps { tl := [(21, .e (.c (.rp ⟨b, 0, none⟩)))], bs := [] } (a2.put (some 21) (bp b)) w3 := by
    refine ⟨fun d v hd => ?_, by rw [Act.put_size]; exact hc2.size, by rw [Act.put_defers']; exact hc2.defers, rel_nil w3 _ (fun _ _ h => (sro_le h).2)⟩
    simp only [lk] at hd
    split at hd
    · rename_i e; cases hd; subst e
      show (a2.tmps.setIfInBounds 21 _)[21]? = _
      rw [Array.getElem?_setIfInBounds_self_of_lt (by rw [hc2.size]; decide)]
      rfl
    · cases hd
  obtain ⟨g1, g2, g3, g4⟩ := hend b
  refine gets_run tab_ok 40 hc3 (holds_of g1 trivial) (fun a4 w4 hc4 => ?_)
  have hr4 := hc4.mem.bs g2
  have hn4 := (Over.env w3 _).rel hc4.mem
  obtain ⟨hm4, _⟩ := e2.fresh hn4
  refine gets_fin tab_ok (l := [.c (.p 0 0)]) hc4 Tryz.func12 g3 g4 ⟨((hn.trans hn2).trans e3).trans hn4, ?_⟩
  rw [hp]
  have hsz : B ≤ w3.heap.size := by have := hg.le; have := hn.size; have := hn2.size; have := e3.size; omega
  have hsz2 : w.heap.size ≤ w2.heap.size := (hn.trans hn2).size
  exact ⟨w3.heap.size, b, rfl, by have := e3.size; omega, ⟨hsz, box_of hr4 (i := 0) rfl rfl rfl, hm4⟩, fun j ho => Nat.le_trans hsz2 (e4 j (hfr e2 hn4 j ho))⟩

end Go.Proofs.YtoihipolfdhhnaaGreatDoor
