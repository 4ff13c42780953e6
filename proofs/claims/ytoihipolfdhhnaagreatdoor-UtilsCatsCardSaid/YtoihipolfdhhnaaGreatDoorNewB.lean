/-
  utils.New.
-/
import Derived.Test.YtoihipolfdhhnaaGreatDoorNew
namespace Go.Proofs.YtoihipolfdhhnaaGreatDoor

theorem sees_none (w w' : World) : Sees (env w [] noRo) [] w' := ⟨fun i b h => by simp at h, fun a v h => by cases h⟩

theorem new_calls {B : Bd} {w : World} (hg : GlobOk B w) (s : ByteArray) (l : List ByteArray) (a : Option Addr) (n cp : Nat) (hl : StrsAt B w a n cp l) (hlen : l.length ≤ 1000000) : Calls Tryz.prog 12 #[.string s, .slice a n cp] w (MadeU B s l w) := by
  refine enter (B := B) tab_ok [.e (.c (.str s)), .e (.c (.sl a n cp))] [] [] 40 Tryz.func12 rfl rfl rfl (obs := []) (by kernel_rfl) trivial (fun a1 w1 hc1 => ?_)
  have hn1 := (Over.env w _).rel hc1.mem
  cases hp : progOf s with
  | none =>
    have hpc : Calls Tryz.prog 19 #[.string s] w1 (fun e w' => e = .returned .nilFunc ∧ New w1 w' ∧ True) := by
      refine Calls.mono (programs_calls (B := B) w1 s) (fun e w' ⟨v, e1, e2, e3⟩ => ?_)
      rw [hp] at e3
      have e3' : v = .nilFunc := e3
      subst e3'
      exact ⟨e1, e2, trivial⟩
    refine gets_pure (Q := fun _ => True) (c := ⟨19, [.c (.str s)], [], #[]⟩) 8 (.e (.c .nilf)) [] [] hc1 (by kernel_rfl) (by kernel_rfl) (by kernel_rfl) (by kernel_rfl) hpc (by kernel_rfl) (by kernel_rfl) (fun a2 w2 hn2 _ hc2 => ?_)
    have hov := (Over.env w (sro B w)).next hc1.mem hn2 (sro B w)
    refine gets_run tab_ok 60 hc2 (holds_of (obs := []) (by kernel_rfl) trivial) (fun a3 w3 hc3 => ?_)
    refine gets_fin tab_ok (l := [.c .nilp]) hc3 Tryz.func12 (by kernel_rfl) (by kernel_rfl) ⟨hov.rel hc3.mem, ?_⟩
    rw [hp]
    rfl
  | some d =>
    refine gets_call (c := ⟨19, [.c (.str s)], [], #[]⟩) hc1 (by kernel_rfl) (by kernel_rfl) (programs_calls (B := B) w1 s) (fun e w2 ⟨v, e1, hn2, e3⟩ => ⟨v, e1, ?_⟩)
    rw [hp] at e3
    obtain ⟨df, dc, rfl, hrd⟩ := e3
    have hn12 := hn1.trans hn2
    have hdst : dstX (run Tab Tryz.f12.ntmps 40 (code Tryz.f12) (ini [.e (.c (.str s)), .e (.c (.sl a n cp))] [] [])).1 = some 8 := by kernel_rfl
    rw [hdst]
    have hc2 : ∀ orc, CRel (env0 B w2) Tryz.f12.ntmps { tl := [(8, .e (.c (.fv df dc))), (0, .e (.c (.str s))), (1, .e (.c (.sl a n cp)))], bs := [], orc := orc } (a1.put (some 8) (.func (.func df) #[] dc)) w2 := by
      intro orc
      refine ⟨fun d v hd => ?_, by rw [Act.put_size]; exact hc1.size, by rw [Act.put_defers']; exact hc1.defers, rel_nil w2 _ (fun _ _ h => (sro_le h).2)⟩
      simp only [lk] at hd
      split at hd
      · rename_i e; cases hd; subst e
        show (a1.tmps.setIfInBounds 8 _)[8]? = _
        rw [Array.getElem?_setIfInBounds_self_of_lt (by rw [hc1.size]; decide)]
        rfl
      · split at hd
        · rename_i e; cases hd; subst e
          show (a1.tmps.setIfInBounds 8 _)[0]? = _
          rw [Array.getElem?_setIfInBounds_ne (by decide), hc1.tl 0 (.e (.c (.str s))) (by kernel_rfl)]; rfl
        · split at hd
          · rename_i e; cases hd; subst e
            show (a1.tmps.setIfInBounds 8 _)[1]? = _
            rw [Array.getElem?_setIfInBounds_ne (by decide), hc1.tl 1 (.e (.c (.sl a n cp))) (by kernel_rfl)]; rfl
          · cases hd
    by_cases hn : n > 1
    · refine gets_run tab_ok 60 (hc2 [true]) (holds_of (obs := [fun _ => decide ((n : Int) > 1) = true]) (by kernel_rfl) ⟨by simp; omega, trivial⟩) (fun a3 w3 hc3 => ?_)
      have hr3 := hc3.mem.bs (bs' := [⟨55, [.fv df dc]⟩, ⟨22, [.sl none 0 0]⟩]) (by kernel_rfl)
      have hn3 := (Over.env w2 _).rel hc3.mem
      -- the names forgotten; the region that appends
      have hkw : w3.heap[w2.heap.size + 1]? = some (.cells (plainR [.sl none 0 0]) 22 (0, 0)) := hr3.cells 1 _ rfl
      have hkd : Box w3 w2.heap.size 55 (.func (.func df) #[] dc) := box_of hr3 (i := 0) rfl rfl rfl
      have hc4 := hc3.anew B [(0, .e (.c (.str s))), (5, .e (.c (.rp ⟨w2.heap.size, 0, none⟩))), (6, .e (.c (.rp ⟨w2.heap.size + 1, 0, none⟩))), (1, .e (.c (.sl a n cp)))] [] [] ⟨by rfl, by rfl, by rfl, by rfl, trivial⟩
      clear hc3
      have hl3 := hl.keep ((hn12.trans hn3).keep B)
      have hll := hl.len
      have hlc := hl.cap
      refine gets_draw (S := Sees (env w3 [] noRo) []) (by kernel_rfl) ?_
      refine dgets_take (ε := env w3 [] noRo) (fuel := 3) (l' := #[false, true, true, false, false]) tab_ok (by kernel_rfl) (sees_none _ _) [1, 2] _
        { tl := [(0, .e (.c (.str s))), (5, .e (.c (.rp ⟨w2.heap.size, 0, none⟩))), (6, .e (.c (.rp ⟨w2.heap.size + 1, 0, none⟩))), (1, .e (.c (.sl a n cp)))], bs := [] }
        { tl := [(16, .e (.c (.sl (if cp = 1 then a else a.map (·.add (1 * 1))) (n - 1) (cp - 1)))), (15, .e (.c (.sl a n cp))), (0, .e (.c (.str s))), (5, .e (.c (.rp ⟨w2.heap.size, 0, none⟩))), (6, .e (.c (.rp ⟨w2.heap.size + 1, 0, none⟩))), (1, .e (.c (.sl a n cp)))], bs := [], ob := [fun _ => True ∧ (0 : Int) ≤ 1 ∧ (1 : Int) ≤ (n : Int)] } _
        (by kernel_rfl) rfl hc4.tl hc4.size (holds_of rfl ⟨⟨trivial, by omega, by omega⟩, trivial⟩) (fun a4 h4 h5 h6 => ?_)
      have hc5 : CRel (env { w3 with drawn := w3.drawn + 1 } [w2.heap.size + 1] noRo) Tryz.f12.ntmps { tl := [(16, .e (.c (.sl (if cp = 1 then a else a.map (·.add (1 * 1))) (n - 1) (cp - 1)))), (0, .e (.c (.str s))), (5, .e (.c (.rp ⟨w2.heap.size, 0, none⟩))), (6, .e (.c (.p 0 0)))], bs := [⟨22, [.sl none 0 0]⟩] } a4 { w3 with drawn := w3.drawn + 1 } := by
        refine ⟨fun d v hd => ?_, h5, h6.trans hc4.defers, rel1 hkw rfl⟩
        simp only [lk] at hd
        split at hd
        · rename_i e; cases hd; subst e; exact h4 16 _ (by rfl)
        · split at hd
          · rename_i e; cases hd; subst e; exact h4 0 _ (by rfl)
          · split at hd
            · rename_i e; cases hd; subst e; exact h4 5 _ (by rfl)
            · split at hd
              · rename_i e; cases hd; subst e; exact h4 6 (.e (.c (.rp ⟨w2.heap.size + 1, 0, none⟩))) (by rfl)
              · cases hd
      refine dgets_op (i := 0) (r := some (.e (.c (.sl none 0 0)))) (σ1 := { tl := [(16, .e (.c (.sl (if cp = 1 then a else a.map (·.add (1 * 1))) (n - 1) (cp - 1)))), (0, .e (.c (.str s))), (5, .e (.c (.rp ⟨w2.heap.size, 0, none⟩))), (6, .e (.c (.p 0 0)))], bs := [⟨22, [.sl none 0 0]⟩] })
        (σ2 := { tl := [(14, .e (.c (.sl none 0 0))), (16, .e (.c (.sl (if cp = 1 then a else a.map (·.add (1 * 1))) (n - 1) (cp - 1)))), (0, .e (.c (.str s))), (5, .e (.c (.rp ⟨w2.heap.size, 0, none⟩))), (6, .e (.c (.p 0 0)))], bs := [⟨22, [.sl none 0 0]⟩] })
        tab_ok hc5 (by kernel_rfl) rfl (by kernel_rfl) (by kernel_rfl) (by kernel_rfl) (fun p hp => by cases hp) (fun a6 w6 hc6 => ⟨sees_none _ _, ?_⟩)
      have hn6 : New w3 w6 := by
        have := hc5.mem.same hc6.mem
        exact ⟨this.os, this.tape, this.output, this.size, this.block⟩
      -- the append
      cases l with
      | nil => simp at hll; omega
      | cons s0 ws =>
      simp only [List.length_cons] at hll hlen
      have hws : StrsAt B w6 (if cp = 1 then a else a.map (·.add 1)) (n - 1) (cp - 1) ws := (hl3.keep (hn6.keep B)).tail
      obtain ⟨ad, had⟩ : ∃ ad, (if cp = 1 then a else a.map (·.add 1)) = some ad := by
        cases ws with
        | nil => simp at hll; omega
        | cons s1 ws' => obtain ⟨ad, h, _⟩ := hws.at_ 0 s1 rfl; exact ⟨ad, h⟩
      rw [had] at hws
      have hadd : (if cp = 1 then a else a.map (·.add (1 * 1))) = some ad := had
      obtain ⟨i9, hi9, hz9⟩ : ∃ i, Tryz.prog.info? 9 = some i ∧ i.zero.map (fun z => z.cells) = some #[.string ⟨#[]⟩] ∧ i.size = 1 ∧ i.bytes = 16 := by
        have := info9
        cases hi : Tryz.prog.info? 9 with
        | none => rw [hi] at this; cases this
        | some i => rw [hi] at this; simp only [Option.map_some, Option.some.injEq, Prod.mk.injEq] at this; exact ⟨i, rfl, this.1, this.2⟩
      obtain ⟨hz, hs9, hb9⟩ := hz9
      obtain ⟨z, hz1, hz2⟩ : ∃ z, i9.zero = some z ∧ z.cells = #[.string ⟨#[]⟩] := by
        cases h : i9.zero with
        | none => rw [h] at hz; cases hz
        | some z => rw [h] at hz; simp only [Option.map_some, Option.some.injEq] at hz; exact ⟨z, rfl, hz⟩
      have hl63 : (0 : Nat) + (n - 1) ≤ maxLen := Nat.le_trans (by omega : 0 + (n - 1) ≤ 1000000) (by decide)
      obtain ⟨v', w7, hrun, hown, hgrow, _, _⟩ := run_append_own_at (P := Tryz.prog) w6 0 22 22 9 i9 z 1 16 Tryz.underlying22 hi9 hz1 hs9 hb9 (by rw [hz2]; rfl) (by decide)
        (.slice none 0 0) 0 [] ⟨rfl, .inl ⟨rfl, rfl⟩⟩ ad (n - 1) (cp - 1) (ws.map Value.string) (by simp; omega) hws.news
        (fun u hu => by obtain ⟨x, _, rfl⟩ := List.mem_map.1 hu; rfl) hl63 (by omega) (Nat.zero_le _)
      have hblk7 : ∀ j, j < w6.heap.size → w7.heap[j]? = w6.heap[j]? := fun j hj => hgrow.block j hj (by simp [Value.ownBlock])
      have hn7 : New w6 w7 := ⟨hgrow.os, hgrow.tape, hgrow.output, hgrow.size, hblk7⟩
      rw [List.nil_append, Nat.zero_add] at hown
      obtain ⟨a', c', rfl, hws'⟩ := StrsAt.of_row (B := B) hown
      have hev14 : a6.eval (.tmp 14) = .slice none 0 0 := ev_ok (σ := { tl := _, bs := [] }) (v := .e (.c (.sl none 0 0))) hc6.tl rfl
      have hev16 : a6.eval (.tmp 16) = .slice (some ad) (n - 1) (cp - 1) := by
        rw [← hadd]
        exact ev_ok (σ := { tl := _, bs := [] }) (v := .e (.c (.sl (if cp = 1 then a else a.map (·.add (1 * 1))) (n - 1) (cp - 1)))) hc6.tl rfl
      have hkw6 : w6.heap[w2.heap.size + 1]? = some (.cells (plainR [.sl none 0 0]) 22 (0, 0)) := by rw [hn6.block _ (lt_of_block hkw)]; exact hkw
      have hkw7 : w7.heap[w2.heap.size + 1]? = some (.cells (plainR [.sl none 0 0]) 22 (0, 0)) := by rw [hblk7 _ (lt_of_block hkw6)]; exact hkw6
      refine dgets_opR (i := 3) (w' := w7) (v := .slice a' (n - 1) c') (by kernel_rfl) rfl rfl ?_ ⟨sees_none _ _, ?_⟩
      · simp [execOp, resolve, invoke, builtin, hev14, hev16, hrun]
      have hc7 : CRel (env w7 [w2.heap.size + 1] noRo) Tryz.f12.ntmps { tl := [(17, .e (.c (.sl a' (n - 1) c'))), (0, .e (.c (.str s))), (5, .e (.c (.rp ⟨w2.heap.size, 0, none⟩))), (6, .e (.c (.p 0 0)))], bs := [⟨22, [.sl none 0 0]⟩] } (a6.put (some 17) (.slice a' (n - 1) c')) w7 := by
        refine ⟨fun d v hd => ?_, by rw [Act.put_size]; exact hc6.size, by rw [Act.put_defers']; exact hc6.defers, rel1 hkw7 rfl⟩
        simp only [lk] at hd
        split at hd
        · rename_i e; cases hd; subst e
          show (a6.tmps.setIfInBounds 17 _)[17]? = _
          rw [Array.getElem?_setIfInBounds_self_of_lt (by rw [hc6.size]; decide)]
          rfl
        · split at hd
          · rename_i e; cases hd; subst e
            show (a6.tmps.setIfInBounds 17 _)[0]? = _
            rw [Array.getElem?_setIfInBounds_ne (by decide)]; exact hc6.tl 0 _ (by rfl)
          · split at hd
            · rename_i e; cases hd; subst e
              show (a6.tmps.setIfInBounds 17 _)[5]? = _
              rw [Array.getElem?_setIfInBounds_ne (by decide)]; exact hc6.tl 5 _ (by rfl)
            · split at hd
              · rename_i e; cases hd; subst e
                show (a6.tmps.setIfInBounds 17 _)[6]? = _
                rw [Array.getElem?_setIfInBounds_ne (by decide)]; exact hc6.tl 6 (.e (.c (.p 0 0))) (by rfl)
              · cases hd
      refine dgets_op (i := 4) (r := none) (σ1 := { tl := [(17, .e (.c (.sl a' (n - 1) c'))), (0, .e (.c (.str s))), (5, .e (.c (.rp ⟨w2.heap.size, 0, none⟩))), (6, .e (.c (.p 0 0)))], bs := [⟨22, [.sl a' (n - 1) c']⟩] })
        (σ2 := { tl := [(17, .e (.c (.sl a' (n - 1) c'))), (0, .e (.c (.str s))), (5, .e (.c (.rp ⟨w2.heap.size, 0, none⟩))), (6, .e (.c (.p 0 0)))], bs := [⟨22, [.sl a' (n - 1) c']⟩] })
        tab_ok hc7 (by kernel_rfl) rfl (by kernel_rfl) (by kernel_rfl) (by kernel_rfl) (fun p hp => by cases hp) (fun a8 w8 hc8 => ⟨sees_none _ _, ?_⟩)
      refine dgets_done 0 (by kernel_rfl) ?_
      have hsz8 : w7.heap.size ≤ w8.heap.size := by rw [hc8.mem.size]; exact Nat.le_add_right _ _
      have hblk8 : ∀ j, j < w7.heap.size → j ≠ w2.heap.size + 1 → w8.heap[j]? = w7.heap[j]? := fun j hj hne => hc8.mem.keep j hj (fun i hi e => by
        have hi1 : i < 1 := hi
        have : i = 0 := by omega
        subst this
        exact hne e.symm)
      have hn27 : New w2 w7 := (hn3.trans hn6).trans hn7
      have hn28 : New w2 w8 := ⟨hc8.mem.os.trans hn27.os, hc8.mem.tape.trans hn27.tape, hc8.mem.output.trans hn27.output, Nat.le_trans hn27.size hsz8, fun j hj => by
        rw [hblk8 j (Nat.lt_of_lt_of_le hj hn27.size) (by omega)]; exact hn27.block j hj⟩
      have hkd8 : Box w8 w2.heap.size 55 (.func (.func df) #[] dc) := by
        have h7 : Box w7 w2.heap.size 55 (.func (.func df) #[] dc) := hkd.keep ((hn6.trans hn7).keep B)
        unfold Box
        rw [hblk8 _ (lt_of_block h7) (by omega)]
        exact h7
      have hkw8 : Box w8 (w2.heap.size + 1) 22 (.slice a' (n - 1) c') := hc8.mem.cells 0 _ rfl
      have hws8 : StrsAt B w8 a' (n - 1) c' ws := by
        refine ⟨hws'.len, hws'.cap, fun j x hj => ?_⟩
        obtain ⟨ad', g1, g2, g3⟩ := hws'.at_ j x hj
        have hlt := World.block_lt_of_cell? w7 _ g2
        rw [addr_add_block] at hlt
        have hne : ad'.block ≠ w2.heap.size + 1 := by
          intro e
          have hb := hown.2
          rcases hb with ⟨hb1, hb2⟩ | ⟨g, cap, cur, hb1, _, hb3, _⟩
          · simp only [Value.slice.injEq] at hb1
            rw [hb1.1] at g1; cases g1
          · simp only [Value.slice.injEq] at hb1
            rw [hb1.1] at g1
            simp only [Option.some.injEq] at g1
            rw [← g1] at e
            simp only at e
            subst e
            rw [hkw7] at hb3
            simp only [Option.some.injEq, Obj.cells.injEq] at hb3
            exact absurd hb3.2.1 (by decide)
        have hbe := hblk8 ad'.block hlt hne
        refine ⟨ad', g1, ?_, ?_⟩
        · have e : w8.cell? (ad'.add j) = w7.cell? (ad'.add j) := World.cell?_of_block (by rw [addr_add_block]; exact hbe)
          rw [e]; exact g2
        · rcases g3 with g3 | ⟨cx, T, fr, g4, g5⟩
          · exact .inl g3
          · exact .inr ⟨cx, T, fr, by rw [hbe]; exact g4, g5⟩
      have hc9 := hc8.anew B [(0, .e (.c (.str s))), (5, .e (.c (.rp ⟨w2.heap.size, 0, none⟩))), (6, .e (.c (.rp ⟨w2.heap.size + 1, 0, none⟩)))] [] [] ⟨by rfl, by rfl, by rfl, trivial⟩
      exact new_end hg s (s0 :: ws) d hp (hn12.trans hn28) w2.heap.size (w2.heap.size + 1) df dc hkd8 (hrd.keep (hn28.keep B)) ⟨a', n - 1, c', hkw8, hws8⟩ hc9 (by kernel_rfl) (by kernel_rfl) (by kernel_rfl) (by kernel_rfl) (fun b => ⟨by kernel_rfl, by kernel_rfl, by kernel_rfl, by kernel_rfl⟩)
    · refine gets_run tab_ok 25 (hc2 [false]) (holds_of (obs := [fun _ => decide ((n : Int) > 1) = false]) (by kernel_rfl) ⟨by simp; omega, trivial⟩) (fun a3 w3 hc3 => ?_)
      have hr3 := hc3.mem.bs (bs' := [⟨55, [.fv df dc]⟩, ⟨22, [.sl none 0 0]⟩]) (by kernel_rfl)
      have hn3 := (Over.env w2 _).rel hc3.mem
      have hdrop : l.drop 1 = [] := List.drop_eq_nil_of_le (by have := hl.len; omega)
      have hc4 := hc3.anew B [(0, .e (.c (.str s))), (5, .e (.c (.rp ⟨w2.heap.size, 0, none⟩))), (6, .e (.c (.rp ⟨w2.heap.size + 1, 0, none⟩)))] [] [] ⟨by rfl, by rfl, by rfl, trivial⟩
      refine new_end hg s l d hp (hn12.trans hn3) w2.heap.size (w2.heap.size + 1) df dc (box_of hr3 (i := 0) rfl rfl rfl) (hrd.keep (hn3.keep B)) ⟨none, 0, 0, box_of hr3 (i := 1) rfl rfl rfl, by rw [hdrop]; exact ⟨rfl, Nat.le_refl _, fun j s h => by simp at h⟩⟩ hc4 (by kernel_rfl) (by kernel_rfl) (by kernel_rfl) (by kernel_rfl) (fun b => ⟨by kernel_rfl, by kernel_rfl, by kernel_rfl, by kernel_rfl⟩)

end Go.Proofs.YtoihipolfdhhnaaGreatDoor
