/-
  Part 3 of the proof: ClosH, Next, NextB, NextC, Util, Names, New, NewB, LawA, LawB, ShownA, ShownB, Digits, Excl, LawC, CatsA, CatsB.
-/
import Derived.Laws.IdiomStrings
import Derived.Laws.Entries
import Derived.Lib.ItoaNum
import Derived.Test.YtoihipolfdhhnaaGreatDoorMRemoves2

namespace Go.Proofs.YtoihipolfdhhnaaGreatDoor

theorem none_calls {B : Bd} {w : World} {b : Nat} {m : M} (hm : MOk B w b m) : Calls Tryz.prog 73 #[bp b] w (Does B b w m) :=
  does_end [.e (.c (.rp ⟨b, 0, none⟩))] [] [] 40 [] (obs := []) hm Tryz.func73 rfl rfl rfl (by kernel_rfl) (by kernel_rfl) (by kernel_rfl) rfl trivial

/-- false. -/
theorem fls_calls {B : Bd} {w : World} {b : Nat} {m : M} (hm : MOk B w b m) (a : Option Addr) (n cp : Nat) : Calls Tryz.prog 39 #[bp b, .slice a n cp] w (Does B b w { m with status := 1 }) := by
  have hm0 := hm
  obtain ⟨a1, n1, cp1, th, row, hm⟩ := hm
  refine calls_exec [.e (.c (.p 0 0)), .e (.c (.sl a n cp))] [b] [⟨66, mcells m.prog m.status a1 n1 cp1 (thnC th) m.call m.over⟩] noRo Tryz.func39 rfl rfl rfl (hm.rel noRo (fun _ _ h => by cases h)) ?_
  intro a0 hc
  refine gets_run tab_ok 40 hc (holds_of (obs := []) (by kernel_rfl) trivial) (fun a' w' hc' => ?_)
  refine gets_fin tab_ok (l := []) hc' Tryz.func39 (by kernel_rfl) (by kernel_rfl) ?_
  have hr := hc'.mem.bs (bs' := [⟨66, mcells m.prog 1 a1 n1 cp1 (thnC th) m.call m.over⟩]) (by kernel_rfl)
  have hk := (evo_of_rel (m' := { m with status := 1 }) (th' := th) hm hr rfl).keep hm0
  obtain ⟨h1, h2⟩ := hm.after (m' := { m with status := 1 }) (th' := th) hr rfl rfl (thn_keep hm.thn hk)
  exact ⟨rfl, h1, h2⟩

/-- id. -/
theorem id_calls {B : Bd} {w : World} {b : Nat} {m : M} (hm : MOk B w b m) (a : Option Addr) (n cp : Nat) : Calls Tryz.prog 40 #[bp b, .slice a n cp] w (Does B b w (m.sys { op := 22 } .id)) := by
  refine does_tail [.e (.c (.rp ⟨b, 0, none⟩)), .e (.c (.sl a n cp))] [] [] 40 [] ⟨69, [.c (.rp ⟨b, 0, none⟩), .a ({ op := 22 } : CallD).cs, .c (.f 70 [])], [], #[]⟩ (obs := []) hm Tryz.func40 rfl rfl rfl (by kernel_rfl) (by kernel_rfl) (by kernel_rfl) (by kernel_rfl) rfl (by kernel_rfl) trivial (fun w1 _ hm1 _ => ?_)
  exact sys_calls hm1 { op := 22 } .id 70 _ ⟨rfl, rfl⟩

/-- The last step: Exit with the status. -/
theorem exit0_calls {B : Bd} {w : World} {b : Nat} {m : M} (hm : MOk B w b m) : Calls Tryz.prog 23 #[bp b] w (Does B b w (m.exit m.status)) := by
  have hm0 := hm
  obtain ⟨ap, n1, cp1, th, row, hm⟩ := hm
  refine calls_exec [.e (.c (.p 0 0))] [b] [⟨66, mcells m.prog m.status ap n1 cp1 (thnC th) m.call m.over⟩] noRo Tryz.func23 rfl rfl rfl (hm.rel noRo (fun _ _ h => by cases h)) ?_
  intro a0 hc
  refine gets_run tab_ok 40 hc (holds_of (obs := []) (by kernel_rfl) trivial) (fun a1 w1 hc1 => ?_)
  have hr := hc1.mem.bs (bs' := [⟨66, mcells m.prog m.status ap n1 cp1 (thnC th) m.call m.over⟩]) (by kernel_rfl)
  obtain ⟨hm1, he1⟩ := hm.after hr rfl rfl (thn_keep hm.thn ((evo_of_rel hm hr rfl).keep hm0))
  refine gets_tail (fun w' => MOk B w' b (m.exit m.status) ∧ Evo w1 b w') (c := ⟨24, [.c (.p 0 0), .c (.int .i64 m.status)], [], #[]⟩) hc1 (by kernel_rfl) (by kernel_rfl) ?_ Tryz.func23 rfl (by kernel_rfl) (fun w' h => ⟨rfl, h.1, he1.trans h.2⟩)
  exact exit_calls hm1 m.status

theorem bring_calls {B : Bd} {w : World} {b : Nat} {m : M} (hm : MOk B w b m) (br : Bring) (src dst : ByteArray) (f : FuncId) (c : Array Value) (hk : RepB B w br f c) : Calls Tryz.prog f (#[bp b, .string src, .string dst] ++ c) w (Does B b w (m.bring br src dst)) := by
  cases br with
  | ren op => exact ren_calls hm op src dst f c hk
  | cop => exact cop_calls hm src dst f c hk

theorem E_ok (e : Ef) : EOk e := by
  intro B w b m s f c hm hk hok
  cases e with
  | cat => exact cat_word s f c hm hk trivial
  | mk => exact mk_word s f c hm hk trivial
  | rmd => exact rmd_word s f c hm hk trivial
  | rm has => exact rm1_calls hm has s f c hk hok
  | gone p has deep => exact gone112_calls hm p has deep s f c hk hok
  | place pl dir br => cases dir with
    | false => exact place0_word hm pl br s f c hk (fun w' bf bc _ hm' hb => bring_calls hm' br s pl bf bc hb)
    | true => exact hok.elim
  | chmod l => exact hok.elim
  | chown g both o => exact hok.elim
  | ls long l has => exact hok.elim
  | entry all long dir => exact hok.elim

theorem tru_calls {B : Bd} {w : World} {b : Nat} {m : M} (hm : MOk B w b m) (a : Option Addr) (n cp : Nat) : Calls Tryz.prog 38 #[bp b, .slice a n cp] w (Does B b w m) :=
  does_end [.e (.c (.rp ⟨b, 0, none⟩)), .e (.c (.sl a n cp))] [] [] 40 [] (obs := []) hm Tryz.func38 rfl rfl rfl (by kernel_rfl) (by kernel_rfl) (by kernel_rfl) rfl trivial

theorem D_calls {B : Bd} {w : World} {b : Nat} {m : M} (hm : MOk B w b m) (d : Dp) (l : List ByteArray) (a : Option Addr) (n cp : Nat) (hl : StrsAt B w a n cp l) (f : FuncId) (c : Array Value) (hk : RepD B w d f c) (hok : okD d l m) :
    Calls Tryz.prog f (#[bp b, .slice a n cp] ++ c) w (Does B b w (runD d l m)) := by
  cases d with
  | tru => obtain ⟨rfl, rfl⟩ := hk; exact tru_calls hm a n cp
  | fls => obtain ⟨rfl, rfl⟩ := hk; exact fls_calls hm a n cp
  | id => obtain ⟨rfl, rfl⟩ := hk; exact id_calls hm a n cp
  | who => exact hok.elim
  | cat =>
    obtain ⟨rfl, rfl⟩ := hk
    cases l with
    | nil => exact absurd rfl hok.1
    | cons s l => exact cat_calls hm s l a n cp hl hok.2
  | mkdir => obtain ⟨rfl, k, rfl, h1⟩ := hk; exact simple1_calls hm l a n cp hl .mk (E_ok _) k ⟨rfl, k, rfl, h1⟩ hok.1 hok.2
  | rmdir => obtain ⟨rfl, k, rfl, h1⟩ := hk; exact simple1_calls hm l a n cp hl .rmd (E_ok _) k ⟨rfl, k, rfl, h1⟩ hok.1 hok.2
  | rm => obtain ⟨rfl, rfl⟩ := hk; exact rm_calls hm l a n cp hl hok
  | ln => obtain ⟨rfl, k, bf, bc, rfl, h1, h2⟩ := hk; exact places1_calls hm l a n cp hl hok.2 (.ren 12) k bf bc h1 h2 hok.1
  | mv => obtain ⟨rfl, k, bf, bc, rfl, h1, h2⟩ := hk; exact places1_calls hm l a n cp hl hok.2 (.ren 13) k bf bc h1 h2 hok.1
  | cp => obtain ⟨rfl, k, bf, bc, rfl, h1, h2⟩ := hk; exact places1_calls hm l a n cp hl hok.2 .cop k bf bc h1 h2 hok.1
  | chmod => exact hok.elim
  | chown => exact hok.elim
  | ls => exact hok.elim

/-- The first step. -/
theorem start_calls {B : Bd} {w : World} {b : Nat} {m : M} (hm : MOk B w b m) (d : Dp) (ws : List ByteArray) (f : FuncId) (c : Array Value) (hk : RepF B w (.start d ws) f c) (hok : okK (.start d ws) m) :
    Calls Tryz.prog f (#[bp b] ++ c) w (Does B b w (runD d ws (m.push .exit0))) := by
  obtain ⟨rfl, k1, k2, df, dc, rfl, h1, h2, a, n, cp, h3, h4⟩ := hk
  refine enter (B := B) tab_ok [.e (.c (.rp ⟨b, 0, none⟩)), .e (.c (.rp ⟨k1, 0, none⟩)), .e (.c (.rp ⟨k2, 0, none⟩))] [] [] 20 Tryz.func21 rfl rfl rfl (obs := []) (by kernel_rfl) trivial (fun a1 w1 hc1 => ?_)
  have hn1 := (Over.env w _).rel hc1.mem
  obtain ⟨hm1, he1⟩ := hm.fresh hn1
  have hk1 := he1.keep hm
  refine gets_evo he1 (gets_does (c := ⟨22, [.c (.rp ⟨b, 0, none⟩), .c (.f 23 [])], [], #[]⟩) 5 [(0, .e (.c (.rp ⟨b, 0, none⟩))), (1, .e (.c (.rp ⟨k1, 0, none⟩))), (2, .e (.c (.rp ⟨k2, 0, none⟩)))] [] [.e (.c (.fv df dc)), .e (.c (.sl a n cp))]
    hc1 (by kernel_rfl) (by kernel_rfl) (by kernel_rfl) rfl (push_calls hm1 hok.1 hm1.le .exit0 23 #[] ⟨rfl, rfl⟩) (fun ρ' => ⟨rfl, rfl, rfl, trivial⟩) (fun a2 w2 hm2 he2 hc2 => ?_))
  have hk2 := hk1.trans (he2.keep hm1)
  refine gets_run tab_ok 20 hc2 (holds_of (obs := [fun ε => ε.ro ⟨k1, 0, none⟩ = some (.func (.func df) #[] dc), fun ε => ε.ro ⟨k2, 0, none⟩ = some (.slice a n cp)]) (by kernel_rfl) ⟨Box.sro (h1.keep hk2), Box.sro (h3.keep hk2), trivial⟩) (fun a3 w3 hc3 => ?_)
  refine gets_evo he2 (gets_last (bs := []) (c := ⟨df, [.c (.rp ⟨b, 0, none⟩), .c (.sl a n cp)], [], dc⟩) hm2 (Over.env w2 _) hc3 (by kernel_rfl) (by kernel_rfl) h2.enters Tryz.func21 rfl (by kernel_rfl) (fun _ hm3 hk3 => ?_))
  rw [callX_fv]
  exact D_calls hm3 d ws a n cp (h4.keep (hk2.trans hk3)) df dc (h2.keep (hk2.trans hk3)) hok.2

/-- What a step does. -/
theorem K_calls {B : Bd} {w : World} {b : Nat} {m : M} (hm : MOk B w b m) (k : Fn) (f : FuncId) (c : Array Value) (hk : RepF B w k f c) (hok : okK k m) : Calls Tryz.prog f (#[bp b] ++ c) w (Does B b w (runK k m)) := by
  cases k with
  | exit0 => obtain ⟨rfl, rfl⟩ := hk; exact exit0_calls hm
  | start d ws => exact start_calls hm d ws f c hk hok
  | none => obtain ⟨rfl, rfl⟩ := hk; exact none_calls hm
  | exit1 => obtain ⟨rfl, rfl⟩ := hk; exact exit1_calls hm
  | each l e => cases l with
    | nil => exact absurd rfl hok.1
    | cons s l => exact each1_calls hm s l e (E_ok e) f c hk hok.2
  | pours s d t => exact pours11_calls hm s d t f c hk
  | closes fds => exact closes1_calls hm fds f c hk
  | goneD p => exact goneD_calls hm p f c hk
  | entries d names has => exact hok.elim

/-- What follows on an answer. -/
theorem R_calls {B : Bd} {b : Nat} {m : M} (r : Res) (a : Option Addr) (n cp : Nat) : ∀ (t : Rn) {w : World} (_ : MOk B w b m) (f : FuncId) (c : Array Value) (_ : RepR B w t f c) (_ : StrsAt B w a n cp r.names) (_ : okR t r m),
    Calls Tryz.prog f (#[bp b, resV r a n cp] ++ c) w (Does B b w (runR t r m))
  | .say fd text t, w, hm, f, c, hk, _, hok => said_calls hm fd text t f c hk r a n cp (fun tf tc ht w' hk' hm' => K_calls hm' t tf tc (ht.keep hk') hok)
  | .tries p t, w, hm, f, c, hk, hn, hok => tried_calls hm p t f c hk r a n cp hok.1 (fun he tf tc ht w' hk' hm' => R_calls r a n cp t hm' tf tc (ht.keep hk') (hn.keep hk') (hok.2 he))
  | .pours s d t, w, hm, f, c, hk, _, hok => poured_calls hm s d t f c hk r a n cp (fun tf tc ht w' hk' hm' => K_calls hm' t tf tc (ht.keep hk') hok)
  | .closes [], w, hm, f, c, hk, _, hok => absurd rfl hok
  | .closes (fd :: l), w, hm, f, c, hk, _, _ => closes11_calls hm fd l f c hk r a n cp
  | .cat, w, hm, f, c, hk, _, _ => by obtain ⟨rfl, rfl⟩ := hk; exact cat11_calls hm r a n cp
  | .id, w, hm, f, c, hk, _, hok => by obtain ⟨rfl, rfl⟩ := hk; exact id1_calls hm r a n cp hok
  | .who, _, _, _, _, _, _, hok => hok.elim
  | .noop g, w, hm, f, c, hk, _, _ => noop_calls hm g f c hk r a n cp
  | .gone p has deep, w, hm, f, c, hk, _, hok => gone1_calls hm p has deep f c hk r a n cp hok
  | .goneL p has deep, w, hm, f, c, hk, hn, hok => gone11_calls hm p has deep f c hk r a n cp hn (E_ok _) hok.1 hok.2
  | .places l last pl br, w, hm, f, c, hk, _, hok => places11_calls hm l last pl br f c hk r a n cp hok.1 hok.2.1 (fun d => E_ok _) hok.2.2
  | .copies1 src dst, w, hm, f, c, hk, _, hok => copied1_calls hm src dst f c hk r a n cp hok
  | .copies2 dst mode, w, hm, f, c, hk, hn, _ => copied2_calls hm dst mode f c hk r a n cp hn
  | .copies3 dst ra, w, hm, f, c, hk, _, hok => copied3_calls hm dst ra f c hk r a n cp hok.1 hok.2
  | .chmod _ _, _, _, _, _, _, _, hok => hok.elim
  | .chown _ _ _ _, _, _, _, _, _, _, hok => hok.elim
  | .ls1 _ _ _ _, _, _, _, _, _, _, hok => hok.elim
  | .ls2 _ _ _, _, _, _, _, _, _, hok => hok.elim
  | .entry _, _, _, _, _, _, _, hok => hok.elim

end Go.Proofs.YtoihipolfdhhnaaGreatDoor

namespace Go.Proofs.YtoihipolfdhhnaaGreatDoor

def zc : List C := ({} : CallD).cs

/-- What may be read beside the machine and a block of one's own. -/
noncomputable def mro (b kr : Nat) (w : World) : Addr → Option Value := fun a => if a.block = b ∨ a.block = kr then none else w.cell? a

theorem mro_of {b kr : Nat} {w : World} {a : Addr} {v : Value} (h1 : a.block ≠ b) (h2 : a.block ≠ kr) (h : w.cell? a = some v) : mro b kr w a = some v := by
  unfold mro; rw [if_neg (by simp [h1, h2])]; exact h

noncomputable abbrev env2 (b kr : Nat) (w : World) : Env := env w [b, kr] (mro b kr w)

/-- The machine and a block of one's own, named. -/
theorem rel2 {B : Bd} {w : World} {b kr : Nat} {m : M} {a : Option Addr} {n c : Nat} {th : Option (FuncId × Array Value)} {row : List (FuncId × Array Value)} (h : MAt B w b m a n c th row)
    {cs : List C} {T : TypeId} (hT : T ≠ 66) (hkr : w.heap[kr]? = some (.cells (plainR cs) T (0, 0))) (hcs : cs.all (C.below 0) = true) :
    Rel (env2 b kr w) [⟨66, mcells m.prog m.status a n c (thnC th) m.call m.over⟩, ⟨T, cs⟩] w := by
  have hne : b ≠ kr := by
    rintro rfl
    rw [h.cells] at hkr
    simp only [Option.some.injEq, Obj.cells.injEq] at hkr
    exact hT hkr.2.1.symm
  refine rel_start rfl ?_ ?_ (fun ad v hv => ?_)
  · intro i j k hi hj
    match i, j, hi, hj with
    | 0, 0, _, _ => rfl
    | 1, 1, _, _ => rfl
    | 0, 1, hi, hj => simp only [List.getElem?_cons_zero, List.getElem?_cons_succ, Option.some.injEq] at hi hj; exact absurd (hi.trans hj.symm) hne
    | 1, 0, hi, hj => simp only [List.getElem?_cons_zero, List.getElem?_cons_succ, Option.some.injEq] at hi hj; exact absurd (hj.trans hi.symm) hne
    | i + 2, _, hi, _ => simp at hi
    | 0, j + 2, _, hj => simp at hj
    | 1, j + 2, _, hj => simp at hj
  · intro i nb k hi hk
    match i, hi, hk with
    | 0, hi, hk =>
      simp only [List.getElem?_cons_zero, Option.some.injEq] at hi hk
      subst hi; subst hk
      rw [map_plain _ (mcells_below _ _ _ _ _ _ _ _)]
      exact h.cells
    | 1, hi, hk =>
      simp only [List.getElem?_cons_zero, List.getElem?_cons_succ, Option.some.injEq] at hi hk
      subst hi; subst hk
      rw [map_plain _ hcs]
      exact hkr
    | i + 2, hi, _ => simp at hi
  · unfold mro at hv
    split at hv
    · cases hv
    · rename_i hno
      exact ⟨hv, by simp only [List.mem_cons, List.mem_nil_iff, or_false]; exact hno⟩

/-- The machine behind own work, with a block of one's own. -/
theorem after2 {B : Bd} {w0 w w' : World} {b kr : Nat} {m m' : M} {a : Option Addr} {n n' c : Nat} {th th' : Option (FuncId × Array Value)} {row row' ex : List (FuncId × Array Value)} {bs : List NB} {ro : Addr → Option Value}
    (h : MAt B w b m a n c th row) (hE : Evo w0 b w) (hkr : w0.heap.size ≤ kr) (hBk : B ≤ kr) {x : Array Value} (hkc : w.heap[kr]? = some (.cells x 39 (0, 0))) (hrel : Rel (env w [b, kr] ro) bs w')
    (hb : bs[0]? = some ⟨66, mcells m'.prog m'.status a n' c (thnC th') m'.call m'.over⟩) (hrow : row = row' ++ ex) (hn : n' = row'.length) (ht : All2 (fun k x => RepF B w k x.1 x.2) m'.todo row')
    (hth : ∀ w2, Keep B w w2 → ThnOk B w2 m'.thn th') : MAt B w' b m' a n' c th' row' ∧ Evo w0 b w' ∧ Keep B w w' := by
  have hcb : w'.heap[b]? = some (.cells (plainR (mcells m'.prog m'.status a n' c (thnC th') m'.call m'.over)) 66 (0, 0)) := by
    have := hrel.cells 0 _ hb
    rw [map_plain _ (mcells_below _ _ _ _ _ _ _ _)] at this
    exact this
  have hcell : w'.cell? ⟨b, 3, none⟩ = some (.slice a n' c) := by simp [World.cell?, hcb, plainR, mcells, C.real]
  have hblk : ∀ k, k < w.heap.size → k ≠ b → k ≠ kr → w'.heap[k]? = w.heap[k]? := fun k hk h1 h2 => hrel.keep k hk (fun i hi => by
    have hi2 : i < 2 := hi
    match i, hi2 with
    | 0, _ => exact fun e => h1 e.symm
    | 1, _ => exact fun e => h2 e.symm)
  have hsz : w.heap.size ≤ w'.heap.size := by rw [hrel.size]; exact Nat.le_add_right _ _
  have hkeep : Keep B w w' := ⟨hrel.os, hrel.tape, hrel.output, hsz, fun k hk hs => hblk k hk (fun e => h.unsafe_ ((h.own k).2 (.inl e)) hs) (fun e => by
    subst e
    rcases hs with hs | ⟨c', T, fr, h1, h2, h3, h4, _⟩
    · omega
    · rw [hkc] at h1; simp only [Option.some.injEq, Obj.cells.injEq] at h1; exact h4 h1.2.1.symm)⟩
  refine ⟨⟨h.base, hcb, ?_, ht.mono (fun k x hx => hx.keep hkeep), hn, hth w' hkeep, h.glob.keep hkeep⟩, ?_, hkeep⟩
  · obtain ⟨h1, h2⟩ := h.owns
    have hlen : ∀ l : List (FuncId × Array Value), (l.flatMap stepV).length = l.length * 2 := by
      intro l
      induction l with
      | nil => rfl
      | cons y l ih => simp only [List.flatMap_cons, List.length_append, ih, List.length_cons, stepV, List.length_nil]; omega
    refine ⟨by rw [hlen, hn], ?_⟩
    rcases h2 with ⟨h3, h4⟩ | ⟨g, cap, cur, h3, h4, h5, h6, h7, h8, h9⟩
    · simp only [Value.slice.injEq] at h3
      obtain ⟨rfl, rfl, rfl⟩ := h3
      have hl := h.len
      rw [hrow, List.length_append] at hl
      have h0 : n' = 0 := by omega
      exact .inl ⟨by rw [h0], h0⟩
    · have hgb : g ≠ b := by
        rintro rfl
        rw [h.cells] at h5
        simp only [Option.some.injEq, Obj.cells.injEq] at h5
        exact absurd h5.2.1 (by decide)
      have hgk : g ≠ kr := by
        rintro rfl
        rw [hkc] at h5
        simp only [Option.some.injEq, Obj.cells.injEq] at h5
        exact absurd h5.2.1 (by decide)
      simp only [Value.slice.injEq] at h3
      obtain ⟨rfl, _, rfl⟩ := h3
      have hl := h.len
      rw [hrow, List.length_append] at hl
      refine .inr ⟨g, c, cur, rfl, h4, by rw [hblk g (lt_of_block h5) hgb hgk]; exact h5, by omega, h7, h8, ?_⟩
      have : (cur.toList.take (n * 2)).take (n' * 2) = (row.flatMap stepV).take (n' * 2) := by rw [h9]
      rw [List.take_take, Nat.min_eq_left (by omega)] at this
      rw [this, hrow, List.flatMap_append, List.take_append_of_le_length (by rw [hlen]; omega), List.take_of_length_le (by rw [hlen]; omega)]
  · refine ⟨hrel.os.trans hE.os, hrel.tape.trans hE.tape, hrel.output.trans hE.output, Nat.le_trans hE.size hsz, fun k hk ho => ?_, fun k ho => ?_⟩
    · rw [hblk k (Nat.lt_of_lt_of_le hk hE.size) (fun e => ho (.inl e)) (by omega)]
      exact hE.block k hk ho
    · refine hE.fresh k ?_
      rcases ho with rfl | ⟨n2, c2, ho⟩
      · exact .inl rfl
      · rw [hcell] at ho
        simp only [Option.some.injEq, Value.slice.injEq] at ho
        exact (h.own k).2 (.inr ho.1)

/- THE LOOP -/

/-- The head of Next's loop. -/
noncomputable def nextHead : List Item := (loopX (run Tab Tryz.f25.ntmps 100 (code Tryz.f25) { tl := [(0, .e (.c (.p 0 0))), (1, .e (.a (({} : Res).cs none 0 0)))], bs := [⟨66, mcells ⟨#[]⟩ 0 none 0 0 .nilf {} false⟩] }).1).getD []

/-- What holds at the head. -/
structure Head (B : Bd) (b kr : Nat) (w0 : World) (m : M) (w : World) (a : Act) : Prop where
  size : a.tmps.size = Tryz.f25.ntmps
  defers : a.defers = []
  mach : a.tmps[0]? = some (bp b)
  res : a.tmps[4]? = some (bp kr)
  ok : MOk B w b m
  blk : w.heap[kr]? = some (.cells (plainR zc) 39 (0, 0))
  evo : Evo w0 b w
  new : w0.heap.size ≤ kr
  base : B ≤ kr

theorem Head.crel {B : Bd} {b kr : Nat} {w0 : World} {m : M} {w : World} {a : Act} (h : Head B b kr w0 m w a) {ap : Option Addr} {n c : Nat} {th : Option (FuncId × Array Value)} {row : List (FuncId × Array Value)} (hM : MAt B w b m ap n c th row) (orc : List Bool) (ext : List SV) :
    CRel (env2 b kr w) Tryz.f25.ntmps { tl := [(0, .e (.c (.p 0 0))), (4, .e (.c (.p 1 0)))], bs := [⟨66, mcells m.prog m.status ap n c (thnC th) m.call m.over⟩, ⟨39, zc⟩], orc := orc, ext := ext } a w := by
  refine ⟨fun d v hd => ?_, h.size, h.defers, rel2 hM (by decide) h.blk rfl⟩
  simp only [lk] at hd
  split at hd
  · rename_i e; cases hd; subst e; exact h.mach
  · split at hd
    · rename_i e; cases hd; subst e; exact h.res
    · cases hd

/-- What Next comes to. -/
def NextR (B : Bd) (b : Nat) (w0 : World) (m' : M) (e : Ending) (w' : World) : Prop := e = .returned (.agg (plainR m'.call.cs)) ∧ MOk B w' b m' ∧ Evo w0 b w'

/-- The machine has a call, or is over. -/
theorem head_halt {B : Bd} {b kr : Nat} {w0 : World} {m : M} {w : World} {a : Act} (h : Head B b kr w0 m w a) (hh : m.thn.isSome = true ∨ m.over = true) : Gets Tryz.prog 25 nextHead a w (NextR B b w0 m) := by
  obtain ⟨ap, n, c, th, row, hM⟩ := h.ok
  obtain ⟨prog, status, todo, thn, call, over⟩ := m
  have hfin : ∀ (orc : List Bool) (obs : List (Env → Prop)),
      (run Tab Tryz.f25.ntmps 60 nextHead { tl := [(0, .e (.c (.p 0 0))), (4, .e (.c (.p 1 0)))], bs := [⟨66, mcells prog status ap n c (thnC th) call over⟩, ⟨39, zc⟩], orc := orc }).2.ob = obs →
      (run Tab Tryz.f25.ntmps 60 nextHead { tl := [(0, .e (.c (.p 0 0))), (4, .e (.c (.p 1 0)))], bs := [⟨66, mcells prog status ap n c (thnC th) call over⟩, ⟨39, zc⟩], orc := orc }).2.bs = [⟨66, mcells prog status ap n c (thnC th) call over⟩, ⟨39, call.cs⟩] →
      isFin (run Tab Tryz.f25.ntmps 60 nextHead { tl := [(0, .e (.c (.p 0 0))), (4, .e (.c (.p 1 0)))], bs := [⟨66, mcells prog status ap n c (thnC th) call over⟩, ⟨39, zc⟩], orc := orc }).1 = true →
      resXs Tab (run Tab Tryz.f25.ntmps 60 nextHead { tl := [(0, .e (.c (.p 0 0))), (4, .e (.c (.p 1 0)))], bs := [⟨66, mcells prog status ap n c (thnC th) call over⟩, ⟨39, zc⟩], orc := orc }).2 Tryz.f25.results.toList = some [.a call.cs] →
      AllP obs (env2 b kr w) → Gets Tryz.prog 25 nextHead a w (NextR B b w0 ⟨prog, status, todo, thn, call, over⟩) := by
    intro orc obs e1 e2 e3 e4 e5
    refine gets_run tab_ok 60 (h.crel hM orc []) (holds_of e1 e5) (fun a1 w1 hc1 => ?_)
    have hr := hc1.mem.bs e2
    obtain ⟨h1, h2, _⟩ := after2 (m' := ⟨prog, status, todo, thn, call, over⟩) (th' := th) (row' := row) (ex := []) hM h.evo h.new h.base h.blk hr rfl (by simp) hM.len hM.todo (fun w2 hk => thn_keep hM.thn hk)
    exact gets_fin tab_ok hc1 Tryz.func25 e3 e4 ⟨rfl, ⟨_, _, _, _, _, h1⟩, h2⟩
  have hth := hM.thn
  cases over with
  | false =>
    cases thn with
    | none => simp at hh
    | some t =>
      cases th with
      | none => exact hth.elim
      | some x => exact hfin [] [] (by kernel_rfl) (by kernel_rfl) (by kernel_rfl) (by kernel_rfl) trivial
  | true =>
    cases thn with
    | none =>
      cases th with
      | none => exact hfin [] [] (by kernel_rfl) (by kernel_rfl) (by kernel_rfl) (by kernel_rfl) trivial
      | some x => exact hth.elim
    | some t =>
      cases th with
      | none => exact hth.elim
      | some x => exact hfin [] [] (by kernel_rfl) (by kernel_rfl) (by kernel_rfl) (by kernel_rfl) trivial

end Go.Proofs.YtoihipolfdhhnaaGreatDoor

namespace Go.Proofs.YtoihipolfdhhnaaGreatDoor

/-- What the work of n steps needs; at its end there is a call. -/
def okTurn : Nat → M → Prop
  | 0, m => m.thn.isSome = true ∨ m.over = true
  | n + 1, m => match m.thn, m.over with
    | none, false => match m.todo.getLast? with
      | none => True
      | some k => okK k { m with todo := m.todo.dropLast } ∧ okTurn n (runK k { m with todo := m.todo.dropLast })
    | _, _ => True

theorem turn_halt {n : Nat} {m : M} (h : m.thn.isSome = true ∨ m.over = true) : turn n m = m := by
  cases n with
  | zero => rfl
  | succ n =>
    unfold turn
    split
    · rename_i h1 h2; rw [h1, h2] at h; simp at h
    · rfl

theorem MAt.notown {B : Bd} {w : World} {b : Nat} {m : M} {a : Option Addr} {n c : Nat} {th : Option (FuncId × Array Value)} {row : List (FuncId × Array Value)} (h : MAt B w b m a n c th row) {k : Nat} {x : Array Value} {T : TypeId}
    (hk : w.heap[k]? = some (.cells x T (0, 0))) (h1 : T ≠ 66) (h2 : T ≠ 84) : ¬ Own w b k := by
  intro ho
  rcases (h.own k).1 ho with rfl | rfl
  · rw [h.cells] at hk; simp only [Option.some.injEq, Obj.cells.injEq] at hk; exact h1 hk.2.1.symm
  · obtain ⟨_, h3⟩ := h.owns
    rcases h3 with ⟨h3, _⟩ | ⟨g, cap, cur, h3, h4, h5, _⟩
    · cases h3
    · simp only [Value.slice.injEq, Option.some.injEq, Addr.mk.injEq] at h3
      obtain ⟨⟨rfl, _⟩, _, _⟩ := h3
      rw [hk] at h5; simp only [Option.some.injEq, Obj.cells.injEq] at h5; exact h2 h5.2.1

theorem head_does {B : Bd} {b kr : Nat} {w0 w w1 : World} {m1 m2 : M} {a1 : Act} {σ : St} {k : List Item} {c : CallX} {R : Ending → World → Prop} (d : Nat) (hc : CRel (env2 b kr w) Tryz.f25.ntmps σ a1 w1) (hx : callX k σ = some c) (he : enters Tryz.prog c.fn = true) (hd : dstX k = some d)
    (hd0 : d ≠ 0) (hd4 : d ≠ 4) (h0 : lk 0 σ.tl = some (.e (.c (.p 0 0)))) (h4 : lk 4 σ.tl = some (.e (.c (.p 1 0)))) (hb1 : σ.bs[1]? = some ⟨39, zc⟩) (hm1 : MOk B w1 b m1) (hE : Evo w0 b w1) (hnew : w0.heap.size ≤ kr) (hbase : B ≤ kr)
    (hcall : Calls Tryz.prog c.fn (c.real (env2 b kr w).ρ) w1 (Does B b w1 m2)) (h : ∀ a2 w2, Head B b kr w0 m2 w2 a2 → Gets Tryz.prog 25 (popX k) a2 w2 R) : Gets Tryz.prog 25 k a1 w1 R := by
  refine gets_call hc hx he hcall (fun e w2 ⟨e1, e2, e3⟩ => ⟨_, e1, ?_⟩)
  rw [hd]
  have hk1 : w1.heap[kr]? = some (.cells (plainR zc) 39 (0, 0)) := by
    have := hc.mem.cells 1 _ hb1
    rw [map_plain _ rfl] at this
    exact this
  refine h _ w2 ⟨by rw [Act.put_size]; exact hc.size, by rw [Act.put_defers']; exact hc.defers, ?_, ?_, e2, ?_, hE.trans e3, hnew, hbase⟩
  · show (a1.tmps.setIfInBounds d _)[0]? = _
    rw [Array.getElem?_setIfInBounds_ne hd0, hc.tl 0 _ h0]; rfl
  · show (a1.tmps.setIfInBounds d _)[4]? = _
    rw [Array.getElem?_setIfInBounds_ne hd4, hc.tl 4 _ h4]; rfl
  · obtain ⟨_, _, _, _, _, hM⟩ := hm1
    rw [e3.block kr (lt_of_block hk1) (hM.notown hk1 (by decide) (by decide))]
    exact hk1

/-- The machine has a call or is over: from here to the end. -/
theorem head_fin {B : Bd} {b kr : Nat} {w0 : World} {m : M} {w : World} {a : Act} {k : List Item} (h : Head B b kr w0 m w a) {ap : Option Addr} {n c : Nat} {th : Option (FuncId × Array Value)} {row : List (FuncId × Array Value)} (hM : MAt B w b m ap n c th row)
    (e1 : (run Tab Tryz.f25.ntmps 60 k { tl := [(0, .e (.c (.p 0 0))), (4, .e (.c (.p 1 0)))], bs := [⟨66, mcells m.prog m.status ap n c (thnC th) m.call m.over⟩, ⟨39, zc⟩] }).2.ob = [])
    (e2 : (run Tab Tryz.f25.ntmps 60 k { tl := [(0, .e (.c (.p 0 0))), (4, .e (.c (.p 1 0)))], bs := [⟨66, mcells m.prog m.status ap n c (thnC th) m.call m.over⟩, ⟨39, zc⟩] }).2.bs = [⟨66, mcells m.prog m.status ap n c (thnC th) m.call m.over⟩, ⟨39, m.call.cs⟩])
    (e3 : isFin (run Tab Tryz.f25.ntmps 60 k { tl := [(0, .e (.c (.p 0 0))), (4, .e (.c (.p 1 0)))], bs := [⟨66, mcells m.prog m.status ap n c (thnC th) m.call m.over⟩, ⟨39, zc⟩] }).1 = true)
    (e4 : resXs Tab (run Tab Tryz.f25.ntmps 60 k { tl := [(0, .e (.c (.p 0 0))), (4, .e (.c (.p 1 0)))], bs := [⟨66, mcells m.prog m.status ap n c (thnC th) m.call m.over⟩, ⟨39, zc⟩] }).2 Tryz.f25.results.toList = some [.a m.call.cs]) :
    Gets Tryz.prog 25 k a w (NextR B b w0 m) := by
  refine gets_run tab_ok 60 (h.crel hM [] []) (holds_of e1 trivial) (fun a1 w1 hc1 => ?_)
  have hr := hc1.mem.bs e2
  obtain ⟨h1, h2, _⟩ := after2 (m' := m) (th' := th) (row' := row) (ex := []) hM h.evo h.new h.base h.blk hr rfl (by simp) hM.len hM.todo (fun w2 hk => thn_keep hM.thn hk)
  exact gets_fin tab_ok hc1 Tryz.func25 e3 e4 ⟨rfl, ⟨_, _, _, _, _, h1⟩, h2⟩

theorem stepV_get (l : List (FuncId × Array Value)) (x : FuncId × Array Value) (j : Nat) (hj : j < 2) : ((l ++ [x]).flatMap stepV)[l.length * 2 + j]? = (stepV x)[j]? := by
  have hlen : ∀ l : List (FuncId × Array Value), (l.flatMap stepV).length = l.length * 2 := by
    intro l
    induction l with
    | nil => rfl
    | cons y l ih => simp only [List.flatMap_cons, List.length_append, ih, List.length_cons, stepV, List.length_nil]; omega
  rw [List.flatMap_append, List.getElem?_append_right (by rw [hlen]; omega), hlen]
  simp

theorem wrap_small {n : Int} (h0 : 0 ≤ n) (h1 : n ≤ 9223372036854775807) : IntKind.i64.wrap n = n := by
  simp only [IntKind.wrap, IntKind.bits, IntKind.signed]
  simp
  omega

theorem head_step {B : Bd} {b kr : Nat} {w0 : World} {m : M} {w : World} {a : Act} (h : Head B b kr w0 m w a) (hth : m.thn = none) (hov : m.over = false) (todo : List Fn) (k : Fn) (htd : m.todo = todo ++ [k]) (hok : okK k { m with todo := todo }) {R : Ending → World → Prop}
    (hnext : ∀ a2 w2, Head B b kr w0 (runK k { m with todo := todo }) w2 a2 → Gets Tryz.prog 25 nextHead a2 w2 R) : Gets Tryz.prog 25 nextHead a w R := by
  obtain ⟨ap, n, c, th, row, hM⟩ := h.ok
  obtain ⟨prog, status, todo0, thn, call, over⟩ := m
  simp only at hth hov htd
  subst hth hov htd
  have hthn := hM.thn
  cases th with
  | some x => exact hthn.elim
  | none =>
  obtain ⟨row', ⟨f, fc⟩, rfl, hrow', hk⟩ := All2.snoc hM.todo
  have hn := hM.len
  simp only [List.length_append, List.length_cons, List.length_nil, Nat.zero_add] at hn
  obtain ⟨ho1, ho2⟩ := hM.owns
  rcases ho2 with ⟨_, h4⟩ | ⟨g, cap, cur, h3, h4, h5, h6, h7, h8, h9⟩
  · omega
  simp only [Value.slice.injEq] at h3
  obtain ⟨rfl, _, rfl⟩ := h3
  have hmax : c ≤ 9223372036854775807 := Nat.le_trans h7 (by decide)
  have hL : IntKind.i64.wrap ((n : Int) - 1) = (row'.length : Int) := by rw [wrap_small (by omega) (by omega)]; omega
  have hgb : g ≠ b := by
    rintro rfl
    have h10 := hM.cells
    rw [h5] at h10
    simp only [Option.some.injEq, Obj.cells.injEq] at h10
    exact absurd h10.2.1 (by decide)
  have hgk : g ≠ kr := by
    rintro rfl
    have h10 := h.blk
    rw [h5] at h10
    simp only [Option.some.injEq, Obj.cells.injEq] at h10
    exact absurd h10.2.1 (by decide)
  have hcell : ∀ j x, ([.fv f fc, .bool false] : List C)[j]? = some x → (env2 b kr w).ro (((⟨g, 0, none⟩ : Addr).add ((IntKind.i64.wrap ((n : Int) - 1)).toNat * 2)).add j) = some (x.real (env2 b kr w).ρ) := by
    intro j x hj
    have hj2 : j < 2 := (List.getElem?_eq_some_iff.1 hj).1
    rw [hL]
    have ha : ((⟨g, 0, none⟩ : Addr).add ((row'.length : Int).toNat * 2)).add j = ⟨g, row'.length * 2 + j, none⟩ := by
      rw [addr_add, addr_add]; simp
    rw [ha]
    refine mro_of hgb hgk ?_
    have hg := stepV_get row' (f, fc) j hj2
    rw [← h9, List.getElem?_take_of_lt (by omega)] at hg
    have hcv : cur[row'.length * 2 + j]? = (stepV (f, fc))[j]? := by rw [← Array.getElem?_toList]; exact hg
    have hx : (stepV (f, fc))[j]? = some (x.real (env2 b kr w).ρ) := by
      match j, hj with
      | 0, hj => cases hj; rfl
      | 1, hj => cases hj; rfl
      | j + 2, hj => simp at hj
    simp [World.cell?, h5, hcv, hx]
  have o1 : decide (IntKind.i64.wrap ((n : Int) - 1) < 0) = false := by rw [hL]; simp
  have o2 : 0 ≤ IntKind.i64.wrap ((n : Int) - 1) ∧ IntKind.i64.wrap ((n : Int) - 1) < (n : Int) := by rw [hL]; omega
  have o3 : 0 ≤ IntKind.i64.wrap ((n : Int) - 1) ∧ IntKind.i64.wrap ((n : Int) - 1) ≤ (c : Int) := by rw [hL]; omega
  refine gets_run tab_ok 130 (h.crel hM [false, true] [.e (.a [.fv f fc, .bool false])]) (holds_of (obs := [fun _ => decide (IntKind.i64.wrap ((n : Int) - 1) < 0) = false, fun _ => 0 ≤ IntKind.i64.wrap ((n : Int) - 1) ∧ IntKind.i64.wrap ((n : Int) - 1) < (n : Int),
    fun ε => ∀ j x, ([.fv f fc, .bool false] : List C)[j]? = some x → ε.ro (((⟨g, 0, none⟩ : Addr).add ((IntKind.i64.wrap ((n : Int) - 1)).toNat * 2)).add j) = some (x.real ε.ρ), fun _ => (0 ≤ IntKind.i64.wrap ((n : Int) - 1) ∧ IntKind.i64.wrap ((n : Int) - 1) ≤ (c : Int)) ∧ True, fun _ => ((0 : Int) == 0) = true]) (by kernel_rfl)
    ⟨o1, o2, hcell, ⟨o3, trivial⟩, rfl, trivial⟩) (fun a1 w1 hc1 => ?_)
  have hbs : (run Tab Tryz.f25.ntmps 130 nextHead { tl := [(0, .e (.c (.p 0 0))), (4, .e (.c (.p 1 0)))], bs := [⟨66, mcells prog status (some ⟨g, 0, none⟩) n c (thnC none) call false⟩, ⟨39, zc⟩], orc := [false, true], ext := [.e (.a [.fv f fc, .bool false])] }).2.bs =
      [⟨66, mcells prog status (if c = 0 then some ⟨g, 0, none⟩ else (some ⟨g, 0, none⟩ : Option Addr).map (·.add (0 * 2))) ((IntKind.i64.wrap ((n : Int) - 1)).toNat - 0) (c - 0) (thnC none) call false⟩, ⟨39, zc⟩, ⟨84, [.fv f fc, .bool false]⟩] := by kernel_rfl
  have ha : (if c = 0 then some ⟨g, 0, none⟩ else (some ⟨g, 0, none⟩ : Option Addr).map (·.add (0 * 2))) = some ⟨g, 0, none⟩ := by
    split
    · rfl
    · simp [addr_add]
  have hr := hc1.mem.bs hbs
  rw [ha, hL, Nat.sub_zero, Nat.sub_zero, Int.toNat_natCast] at hr
  obtain ⟨h1, h2, hkp⟩ := after2 (m' := ⟨prog, status, todo, none, call, false⟩) (th' := none) (row' := row') (ex := [(f, fc)]) hM h.evo h.new h.base h.blk hr rfl rfl rfl hrow' (fun _ _ => trivial)
  have hKc := K_calls (B := B) (w := w1) (b := b) (m := ⟨prog, status, todo, none, call, false⟩) ⟨_, _, _, _, _, h1⟩ k f fc (hk.keep hkp) hok
  have hnext' : ∀ a2 w2, Head B b kr w0 (runK k ⟨prog, status, todo, none, call, false⟩) w2 a2 → Gets Tryz.prog 25 nextHead a2 w2 R := hnext
  clear hnext hok
  generalize runK k ⟨prog, status, todo, none, call, false⟩ = m2 at hKc hnext'
  refine head_does (m1 := ⟨prog, status, todo, none, call, false⟩) (m2 := m2) (c := ⟨f, [.c (.p 0 0)], [], fc⟩) 79 hc1 (by kernel_rfl) hk.enters (by kernel_rfl) (by decide) (by decide) (by kernel_rfl) (by kernel_rfl) (by kernel_rfl) ⟨_, _, _, _, _, h1⟩ h2 h.new h.base ?_ (fun a2 w2 h3 => ?_)
  · rw [callX_fv]
    exact hKc
  · obtain ⟨ap2, n2, c2, th2, row2, hM2⟩ := h3.ok
    refine gets_run tab_ok 20 (h3.crel hM2 [] []) (holds_of (obs := []) (by kernel_rfl) trivial) (fun a3 w3 hc3 => ?_)
    have hr3 := hc3.mem.bs (bs' := [⟨66, mcells m2.prog m2.status ap2 n2 c2 (thnC th2) m2.call m2.over⟩, ⟨39, zc⟩]) (by kernel_rfl)
    obtain ⟨g1, g2, _⟩ := after2 (m' := m2) (th' := th2) (row' := row2) (ex := []) hM2 h3.evo h3.new h3.base h3.blk hr3 rfl (by simp) hM2.len hM2.todo (fun w2 hk => thn_keep hM2.thn hk)
    refine gets_loop (k' := nextHead) (by kernel_rfl) (hnext' a3 w3 ⟨hc3.size, hc3.defers, hc3.tl 0 (.e (.c (.p 0 0))) (by kernel_rfl), hc3.tl 4 (.e (.c (.p 1 0))) (by kernel_rfl), ⟨_, _, _, _, _, g1⟩, ?_, g2, h.new, h.base⟩)
    have := hr3.cells 1 _ rfl
    rw [map_plain _ rfl] at this
    exact this

theorem head_empty {B : Bd} {b kr : Nat} {w0 : World} {m : M} {w : World} {a : Act} (h : Head B b kr w0 m w a) (hth : m.thn = none) (hov : m.over = false) (htd : m.todo = []) : Gets Tryz.prog 25 nextHead a w (NextR B b w0 (m.exit 0)) := by
  obtain ⟨ap, n, c, th, row, hM⟩ := h.ok
  obtain ⟨prog, status, todo0, thn, call, over⟩ := m
  simp only at hth hov htd
  subst hth hov htd
  have hthn := hM.thn
  cases th with
  | some x => exact hthn.elim
  | none =>
  have hrow : row = [] := by
    have := hM.todo.length
    simpa using this.symm
  subst hrow
  have hn : n = 0 := hM.len
  subst hn
  refine gets_run tab_ok 130 (h.crel hM [true] []) (holds_of (obs := [fun _ => decide (IntKind.i64.wrap (((0 : Nat) : Int) - 1) < 0) = true]) (by kernel_rfl) ⟨by show decide (IntKind.i64.wrap (((0 : Nat) : Int) - 1) < 0) = true; decide, trivial⟩) (fun a1 w1 hc1 => ?_)
  have hr := hc1.mem.bs (bs' := [⟨66, mcells prog status ap 0 c (thnC none) call false⟩, ⟨39, zc⟩]) (by kernel_rfl)
  obtain ⟨h1, h2, hkp⟩ := after2 (m' := ⟨prog, status, [], none, call, false⟩) (th' := none) (row' := []) (ex := []) hM h.evo h.new h.base h.blk hr rfl rfl rfl .nil (fun _ _ => trivial)
  refine head_does (m1 := ⟨prog, status, [], none, call, false⟩) (m2 := M.exit ⟨prog, status, [], none, call, false⟩ 0) (c := ⟨24, [.c (.p 0 0), .c (.int .i64 0)], [], #[]⟩) 50 hc1 (by kernel_rfl) (by kernel_rfl) (by kernel_rfl) (by decide) (by decide) (by kernel_rfl) (by kernel_rfl) (by kernel_rfl) ⟨_, _, _, _, _, h1⟩ h2 h.new h.base
    (exit_calls ⟨_, _, _, _, _, h1⟩ 0) (fun a2 w2 h3 => ?_)
  obtain ⟨ap2, n2, c2, th2, row2, hM2⟩ := h3.ok
  exact head_fin h3 hM2 (by kernel_rfl) (by kernel_rfl) (by kernel_rfl) (by kernel_rfl)

theorem head_loop {B : Bd} {b kr : Nat} {w0 : World} : ∀ (N : Nat) (m : M) (w : World) (a : Act), Head B b kr w0 m w a → okTurn N m → Gets Tryz.prog 25 nextHead a w (NextR B b w0 (turn N m)) := by
  intro N
  induction N with
  | zero => intro m w a h hok; exact head_halt h hok
  | succ N ih =>
    intro m w a h hok
    by_cases hh : m.thn.isSome = true ∨ m.over = true
    · rw [turn_halt hh]; exact head_halt h hh
    · have hth : m.thn = none := by cases hx : m.thn <;> simp_all
      have hov : m.over = false := by cases hx : m.over <;> simp_all
      obtain ⟨prog, status, todo, thn, call, over⟩ := m
      simp only at hth hov
      subst hth hov
      unfold okTurn at hok
      unfold turn
      simp only at hok ⊢
      cases hl : todo.getLast? with
      | none =>
        simp only [hl] at hok ⊢
        exact head_empty h rfl rfl (List.getLast?_eq_none_iff.1 hl)
      | some k =>
        simp only [hl] at hok ⊢
        have htd : todo = todo.dropLast ++ [k] := by
          obtain ⟨ys, hys⟩ := List.getLast?_eq_some_iff.1 hl
          rw [hys]; simp
        exact head_step h rfl rfl _ k htd hok.1 (fun a2 w2 h2 => ih _ w2 a2 h2 hok.2)

end Go.Proofs.YtoihipolfdhhnaaGreatDoor

namespace Go.Proofs.YtoihipolfdhhnaaGreatDoor

/-- What Next needs: of what follows, and of the steps. -/
def okNext (N : Nat) (m : M) (r : Res) : Prop :=
  m.over = true ∨ (match m.thn with
    | some t => okR t r { m with thn := none } ∧ okTurn N (runR t r { m with thn := none })
    | none => okTurn N m)

theorem next_calls {B : Bd} {w : World} {b : Nat} {m : M} (hm : MOk B w b m) (r : Res) (a : Option Addr) (n cp : Nat) (hr : StrsAt B w a n cp r.names) (N : Nat) (hok : okNext N m r) :
    Calls Tryz.prog 25 #[bp b, resV r a n cp] w (NextR B b w (next N m r)) := by
  have hm0 := hm
  obtain ⟨ap, nn, c, th, row, hM⟩ := hm
  obtain ⟨prog, status, todo, thn, call, over⟩ := m
  have hbl := lt_of_block hM.cells
  have hB := hM.base
  refine calls_exec [.e (.c (.p 0 0)), rsX r a n cp] [b] [⟨66, mcells prog status ap nn c (thnC th) call over⟩] noRo Tryz.func25 rfl rfl rfl (hM.rel noRo (fun _ _ h => by cases h)) ?_
  intro a0 hc
  have hthn := hM.thn
  cases over with
  | true =>
    have hfin : ∀ (th : Option (FuncId × Array Value)), (run Tab Tryz.f25.ntmps 60 (code Tryz.f25) { tl := tlOf 0 [.e (.c (.p 0 0)), rsX r a n cp], bs := [⟨66, mcells prog status ap nn c (thnC th) call true⟩] }).2.ob = [] := fun th => by cases th <;> kernel_rfl
    have hbs : (run Tab Tryz.f25.ntmps 60 (code Tryz.f25) { tl := tlOf 0 [.e (.c (.p 0 0)), rsX r a n cp], bs := [⟨66, mcells prog status ap nn c (thnC th) call true⟩] }).2.bs = [⟨66, mcells prog status ap nn c (thnC th) call true⟩, ⟨35, r.cs a n cp⟩, ⟨39, call.cs⟩] := by cases th <;> kernel_rfl
    refine gets_run tab_ok 60 hc (holds_of (hfin th) trivial) (fun a1 w1 hc1 => ?_)
    have hr1 := hc1.mem.bs hbs
    obtain ⟨h1, h2⟩ := hM.after (m' := ⟨prog, status, todo, thn, call, true⟩) (th' := th) hr1 rfl rfl (thn_keep hM.thn ((evo_of_rel (m' := ⟨prog, status, todo, thn, call, true⟩) hM hr1 rfl).keep hm0))
    refine gets_fin tab_ok (l := [.a call.cs]) hc1 Tryz.func25 (by cases th <;> kernel_rfl) (by cases th <;> kernel_rfl) ⟨rfl, ?_, h2⟩
    exact h1
  | false =>
  cases thn with
  | none =>
    cases th with
    | some x => exact hthn.elim
    | none =>
    have hok' : okTurn N ⟨prog, status, todo, none, call, false⟩ := by
      rcases hok with h | h
      · cases h
      · exact h
    refine gets_run tab_ok 60 hc (holds_of (obs := []) (by kernel_rfl) trivial) (fun a1 w1 hc1 => ?_)
    have hr1 := hc1.mem.bs (bs' := [⟨66, mcells prog status ap nn c (thnC none) call false⟩, ⟨35, r.cs a n cp⟩, ⟨39, zc⟩]) (by kernel_rfl)
    obtain ⟨h1, h2⟩ := hM.after (m' := ⟨prog, status, todo, none, call, false⟩) (th' := none) hr1 rfl rfl trivial
    refine gets_loop (k' := nextHead) (by kernel_rfl) (head_loop (kr := w.heap.size + 1) N ⟨prog, status, todo, none, call, false⟩ w1 a1 ⟨hc1.size, hc1.defers, hc1.tl 0 (.e (.c (.p 0 0))) (by kernel_rfl), hc1.tl 4 (.e (.c (.p 2 0))) (by kernel_rfl), h1, ?_, h2, by omega, by omega⟩ hok')
    have := hr1.cells 2 _ rfl
    rw [map_plain _ rfl] at this
    exact this
  | some t =>
    cases th with
    | none => exact hthn.elim
    | some x =>
    obtain ⟨f, fc⟩ := x
    have hk : RepR B w t f fc := hthn
    have hok' : okR t r ⟨prog, status, todo, none, call, false⟩ ∧ okTurn N (runR t r ⟨prog, status, todo, none, call, false⟩) := by
      rcases hok with h | h
      · cases h
      · exact h
    refine gets_run tab_ok 60 hc (holds_of (obs := []) (by kernel_rfl) trivial) (fun a1 w1 hc1 => ?_)
    have hr1 := hc1.mem.bs (bs' := [⟨66, mcells prog status ap nn c (thnC none) call false⟩, ⟨35, r.cs a n cp⟩, ⟨39, zc⟩]) (by kernel_rfl)
    obtain ⟨h1, h2⟩ := hM.after (m' := ⟨prog, status, todo, none, call, false⟩) (th' := none) hr1 rfl rfl trivial
    have hk1 := h2.keep hm0
    have hRc := R_calls r a n cp t h1 f fc (hk.keep hk1) (hr.keep hk1) hok'.1
    refine gets_call (c := ⟨f, [.c (.p 0 0), .a (r.cs a n cp)], [], fc⟩) hc1 (by kernel_rfl) hk.enters (S := Does B b w1 (runR t r ⟨prog, status, todo, none, call, false⟩)) (by rw [callX_fv]; exact hRc) (fun e w2 ⟨e1, e2, e3⟩ => ⟨_, e1, ?_⟩)
    have hdst : dstX (run Tab Tryz.f25.ntmps 60 (code Tryz.f25) { tl := tlOf 0 [.e (.c (.p 0 0)), rsX r a n cp], bs := [⟨66, mcells prog status ap nn c (thnC (some (f, fc))) call false⟩] }).1 = some 28 := by kernel_rfl
    have hnx : next N ⟨prog, status, todo, some t, call, false⟩ r = turn N (runR t r ⟨prog, status, todo, none, call, false⟩) := rfl
    rw [hnx]
    replace hok' := hok'.2
    generalize runR t r ⟨prog, status, todo, none, call, false⟩ = m2 at e2 hok'
    have hkr1 : w1.heap[w.heap.size + 1]? = some (.cells (plainR zc) 39 (0, 0)) := by
      have := hr1.cells 2 _ rfl
      rw [map_plain _ rfl] at this
      exact this
    have hkr2 : w2.heap[w.heap.size + 1]? = some (.cells (plainR zc) 39 (0, 0)) := by
      obtain ⟨_, _, _, _, _, hM1⟩ := h1
      rw [e3.block _ (lt_of_block hkr1) (hM1.notown hkr1 (by decide) (by decide))]
      exact hkr1
    have hH : Head B b (w.heap.size + 1) w m2 w2 (a1.put (some 28) (.tuple #[])) := by
      refine ⟨by rw [Act.put_size]; exact hc1.size, by rw [Act.put_defers']; exact hc1.defers, ?_, ?_, e2, hkr2, h2.trans e3, by omega, by omega⟩
      · show (a1.tmps.setIfInBounds 28 _)[0]? = _
        rw [Array.getElem?_setIfInBounds_ne (by decide), hc1.tl 0 (.e (.c (.p 0 0))) (by kernel_rfl)]; rfl
      · show (a1.tmps.setIfInBounds 28 _)[4]? = _
        rw [Array.getElem?_setIfInBounds_ne (by decide), hc1.tl 4 (.e (.c (.p 2 0))) (by kernel_rfl)]; rfl
    rw [hdst]
    obtain ⟨ap2, n2, c2, th2, row2, hM2⟩ := e2
    refine gets_run tab_ok 20 (hH.crel hM2 [] []) (holds_of (obs := []) (by kernel_rfl) trivial) (fun a3 w3 hc3 => ?_)
    have hr3 := hc3.mem.bs (bs' := [⟨66, mcells m2.prog m2.status ap2 n2 c2 (thnC th2) m2.call m2.over⟩, ⟨39, zc⟩]) (by kernel_rfl)
    obtain ⟨g1, g2, _⟩ := after2 (m' := m2) (th' := th2) (row' := row2) (ex := []) hM2 hH.evo hH.new hH.base hH.blk hr3 rfl (by simp) hM2.len hM2.todo (fun w2 hk => thn_keep hM2.thn hk)
    refine gets_loop (k' := nextHead) (by kernel_rfl) (head_loop (kr := w.heap.size + 1) N m2 w3 a3 ⟨hc3.size, hc3.defers, hc3.tl 0 (.e (.c (.p 0 0))) (by kernel_rfl), hc3.tl 4 (.e (.c (.p 1 0))) (by kernel_rfl), ⟨_, _, _, _, _, g1⟩, ?_, g2, by omega, by omega⟩ hok')
    have := hr3.cells 1 _ rfl
    rw [map_plain _ rfl] at this
    exact this

end Go.Proofs.YtoihipolfdhhnaaGreatDoor

namespace Go.Proofs.YtoihipolfdhhnaaGreatDoor

/-- A utility: the pointer to its machine. -/
def UOk (B : Bd) (w : World) (k b : Nat) (m : M) : Prop := B ≤ k ∧ Box B w k 69 (bp b) ∧ MOk B w b m

/-- One call's block is written: the machine stays. -/
theorem MOk.side {B : Bd} {w w' : World} {b kr : Nat} {m : M} (hm : MOk B w b m) (hBk : B ≤ kr) {x : Array Value} (hkc : w.heap[kr]? = some (.cells x 39 (0, 0))) (ho : w'.os = w.os) (ht : w'.tape = w.tape) (hu : w'.output = w.output) (hsz : w.heap.size ≤ w'.heap.size)
    (hblk : ∀ k, k < w.heap.size → k ≠ kr → w'.heap[k]? = w.heap[k]?) : MOk B w' b m := by
  obtain ⟨a, n, c, th, row, h⟩ := hm
  have hkeep : Keep B w w' := ⟨ho, ht, hu, hsz, fun k hk hs => hblk k hk (fun e => by
    subst e
    rcases hs with hs | ⟨c', T, fr, h1, h2, h3, h4, _⟩
    · omega
    · rw [hkc] at h1; simp only [Option.some.injEq, Obj.cells.injEq] at h1; exact h4 h1.2.1.symm)⟩
  have hbk : b ≠ kr := by
    rintro rfl
    rw [h.cells] at hkc
    simp only [Option.some.injEq, Obj.cells.injEq] at hkc
    exact absurd hkc.2.1 (by decide)
  refine ⟨a, n, c, th, row, h.base, by rw [hblk b (lt_of_block h.cells) hbk]; exact h.cells, ?_, h.todo.mono (fun k x hx => hx.keep hkeep), h.len, thn_keep h.thn hkeep, h.glob.keep hkeep⟩
  obtain ⟨h1, h2⟩ := h.owns
  refine ⟨h1, ?_⟩
  rcases h2 with h2 | ⟨g, cap, cur, h3, h4, h5, h6⟩
  · exact .inl h2
  · refine .inr ⟨g, cap, cur, h3, h4, ?_, h6⟩
    rw [hblk g (lt_of_block h5) (fun e => by
      subst e
      rw [hkc] at h5
      simp only [Option.some.injEq, Obj.cells.injEq] at h5
      exact absurd h5.2.1 (by decide))]
    exact h5

/-- What Util.Next comes to. -/
def UNextR (B : Bd) (k b : Nat) (w : World) (m' : M) (e : Ending) (w' : World) : Prop :=
  e = .returned (.agg (plainR m'.call.cs)) ∧ UOk B w' k b m' ∧ Evo w b w'

theorem unext_calls {B : Bd} {w : World} {k b : Nat} {m : M} (hm : UOk B w k b m) (r : Res) (a : Option Addr) (n cp : Nat) (hr : StrsAt B w a n cp r.names) (N : Nat) (hok : okNext N m r) :
    Calls Tryz.prog 14 #[bp k, resV r a n cp] w (UNextR B k b w (next N m r)) := by
  obtain ⟨hBk, hbox, hm⟩ := hm
  refine enter (B := B) tab_ok [.e (.c (.rp ⟨k, 0, none⟩)), rsX r a n cp] [] [] 20 Tryz.func14 rfl rfl rfl (obs := []) (by kernel_rfl) trivial (fun a1 w1 hc1 => ?_)
  replace hc1 := hc1.pick [(0, .e (.c (.rp ⟨k, 0, none⟩))), (3, .e (.c (.p 0 0))), (4, .e (.c (.p 1 0)))] [⟨35, r.cs a n cp⟩, ⟨39, zc⟩] (by kernel_rfl) (by kernel_rfl)
  have hmem : Rel (env0 B w) [⟨35, r.cs a n cp⟩, ⟨39, zc⟩] { w1 with drawn := w1.drawn + 1 } := hc1.mem.drew _
  have hn1 := (Over.env w _).rel hmem
  obtain ⟨hm1, he1⟩ := hm.fresh hn1
  have hsee : Sees (env0 B w) [⟨35, r.cs a n cp⟩] { w1 with drawn := w1.drawn + 1 } := Sees.first (bs' := [⟨39, zc⟩]) hmem.sees
  refine gets_draw (S := Sees (env0 B w) [⟨35, r.cs a n cp⟩]) (by kernel_rfl) ?_
  refine dgets_take (fuel := 2) (l' := #[true, true, true, true, true, false, false]) tab_ok (by kernel_rfl) hsee [0, 1, 2, 3, 4] _
    { tl := [(0, .e (.c (.rp ⟨k, 0, none⟩))), (3, .e (.c (.p 0 0))), (4, .e (.c (.p 1 0)))], bs := [⟨35, r.cs a n cp⟩], ext := [.e (.c (.rp ⟨b, 0, none⟩))] }
    { tl := [(9, .e (.a (r.cs a n cp))), (8, .e (.c (.rp ⟨b, 0, none⟩))), (7, .e (.c (.rp ⟨k, 0, none⟩))), (6, .e (.c (.rp ⟨k, 0, none⟩))), (5, .e (.c (.rp ⟨k, 0, none⟩))), (0, .e (.c (.rp ⟨k, 0, none⟩))), (3, .e (.c (.p 0 0))), (4, .e (.c (.p 1 0)))], bs := [⟨35, r.cs a n cp⟩], ob := [fun ε => ε.ro ⟨k, 0, none⟩ = some (bp b)] } _
    (by kernel_rfl) rfl hc1.tl hc1.size (holds_of rfl ⟨Box.sro hbox, trivial⟩) (fun a2 h2 h3 h4 => ?_)
  refine dgets_call (i := 5) (c := ⟨25, [.c (.rp ⟨b, 0, none⟩), .a (r.cs a n cp)], [], #[]⟩) h2 (by kernel_rfl) (by kernel_rfl) (by kernel_rfl)
    (next_calls hm1 r a n cp (hr.keep (hn1.keep B)) N hok) (fun e w2 ⟨e1, e2, e3⟩ => ⟨_, e1, ?_, ?_⟩)
  · refine ⟨fun i nb hi => ?_, fun ad v hv => sro_keep ((hn1.keep B).trans (e3.keep hm1)) hv⟩
    have hty : nb.ty = 35 := by
      match i, hi with
      | 0, hi => cases hi; rfl
      | i + 1, hi => simp at hi
    exact (e3.keep hm1).cells (hsee.cells i nb hi) (by rw [hty]; decide) (by rw [hty]; decide) (by rw [hty]; decide) (hm.notx (Nat.le_add_right _ _))
  have hkr1 : ({ w1 with drawn := w1.drawn + 1 } : World).heap[w.heap.size + 1]? = some (.cells (plainR zc) 39 (0, 0)) := by
    have := hmem.cells 1 _ rfl
    rw [map_plain _ rfl] at this
    exact this
  have hkr2 : w2.heap[w.heap.size + 1]? = some (.cells (plainR zc) 39 (0, 0)) := by
    obtain ⟨_, _, _, _, _, hM1⟩ := hm1
    rw [e3.block _ (lt_of_block hkr1) (hM1.notown hkr1 (by decide) (by decide))]
    exact hkr1
  generalize next N m r = m' at e2
  have hc2 : CRel (env w2 [w.heap.size + 1] noRo) Tryz.f14.ntmps { tl := [(10, .e (.a m'.call.cs)), (4, .e (.c (.p 0 0)))], bs := [⟨39, zc⟩] } (a2.put (some 10) (.agg (plainR m'.call.cs))) w2 := by
    refine ⟨fun d v hd => ?_, by rw [Act.put_size]; exact h3, by rw [Act.put_defers', h4]; exact hc1.defers, rel1 hkr2 rfl⟩
    simp only [lk] at hd
    split at hd
    · rename_i e; cases hd; subst e
      show (a2.tmps.setIfInBounds 10 _)[10]? = _
      rw [Array.getElem?_setIfInBounds_self_of_lt (by rw [h3]; decide)]
      rfl
    · split at hd
      · rename_i e; cases hd; subst e
        show (a2.tmps.setIfInBounds 10 _)[4]? = _
        rw [Array.getElem?_setIfInBounds_ne (by decide), h2 4 (.e (.c (.p 1 0))) (by kernel_rfl)]; rfl
      · cases hd
  refine dgets_op (i := 6) (r := none) (σ1 := { tl := [(10, .e (.a m'.call.cs)), (4, .e (.c (.p 0 0)))], bs := [⟨39, m'.call.cs⟩] }) (σ2 := { tl := [(10, .e (.a m'.call.cs)), (4, .e (.c (.p 0 0)))], bs := [⟨39, m'.call.cs⟩] })
    tab_ok hc2 (by kernel_rfl) rfl (by kernel_rfl) (by kernel_rfl) (by kernel_rfl) (fun p hp => by cases hp) (fun a3 w3 hc3 => ?_)
  have hsz3 : w2.heap.size ≤ w3.heap.size := by rw [hc3.mem.size]; exact Nat.le_add_right _ _
  have hblk3 : ∀ j, j < w2.heap.size → j ≠ w.heap.size + 1 → w3.heap[j]? = w2.heap[j]? := fun j hj hne => hc3.mem.keep j hj (fun i hi e => by
    have hi1 : i < 1 := hi
    have : i = 0 := by omega
    subst this
    exact hne e.symm)
  have hBw := hm.le
  have hm3 : MOk B w3 b m' := e2.side (by omega) hkr2 hc3.mem.os hc3.mem.tape hc3.mem.output hsz3 hblk3
  have he2 := he1.trans e3
  have he3 : Evo w b w3 := by
    refine ⟨hc3.mem.os.trans he2.os, hc3.mem.tape.trans he2.tape, hc3.mem.output.trans he2.output, Nat.le_trans he2.size hsz3, fun j hj ho => ?_, fun j ho => he2.fresh j ?_⟩
    · rw [hblk3 j (Nat.lt_of_lt_of_le hj he2.size) (by omega)]
      exact he2.block j hj ho
    · rcases ho with ho | ⟨n', c', ho⟩
      · exact .inl ho
      · refine .inr ⟨n', c', ?_⟩
        obtain ⟨_, _, _, _, _, hM2⟩ := e2
        have hne : b ≠ w.heap.size + 1 := by
          intro e
          have hh := hM2.cells
          rw [e, hkr2] at hh
          simp only [Option.some.injEq, Obj.cells.injEq] at hh
          exact absurd hh.2.1 (by decide)
        rw [← ho]
        exact (World.cell?_of_block (hblk3 b (lt_of_block hM2.cells) hne)).symm
  have hkp : Keep B w w3 := he3.keep hm
  refine ⟨⟨fun i nb hi => ?_, fun ad v hv => sro_keep hkp hv⟩, ?_⟩
  · match i, hi with
    | 0, hi =>
      cases hi
      have h10 := (e3.keep hm1).cells (hsee.cells 0 _ rfl) (by show (35 : Nat) ≠ 66; decide) (by show (35 : Nat) ≠ 84; decide) (by show (35 : Nat) ≠ 39; decide) (hm.notx (Nat.le_refl _))
      rw [hblk3 _ (lt_of_block h10) (by show w.heap.size + (0 - 0) ≠ w.heap.size + 1; omega)]
      exact h10
    | i + 1, hi => simp at hi
  · refine dgets_done 0 (by kernel_rfl) ?_
    exact gets_fin tab_ok (l := [.a m'.call.cs]) hc3 Tryz.func14 (by kernel_rfl) (by kernel_rfl) ⟨rfl, ⟨hBk, hbox.keep hkp, hm3⟩, he3⟩

end Go.Proofs.YtoihipolfdhhnaaGreatDoor

namespace Go.Proofs.YtoihipolfdhhnaaGreatDoor

/-- The program of a name. -/
def progOf (s : ByteArray) : Option Dp :=
  if (s.toList == [116, 114, 117, 101]) = true then some .tru else
  if (s.toList == [102, 97, 108, 115, 101]) = true then some .fls else
  if (s.toList == [105, 100]) = true then some .id else
  if (s.toList == [119, 104, 111]) = true then some .who else
  if (s.toList == [99, 97, 116]) = true then some .cat else
  if (s.toList == [109, 107, 100, 105, 114]) = true then some .mkdir else
  if (s.toList == [114, 109, 100, 105, 114]) = true then some .rmdir else
  if (s.toList == [114, 109]) = true then some .rm else
  if (s.toList == [108, 110]) = true then some .ln else
  if (s.toList == [109, 118]) = true then some .mv else
  if (s.toList == [99, 112]) = true then some .cp else
  if (s.toList == [99, 104, 109, 111, 100]) = true then some .chmod else
  if (s.toList == [99, 104, 111, 119, 110]) = true then some .chown else
  if (s.toList == [108, 115]) = true then some .ls else
  none

/-- A program as a value. -/
def DV (B : Bd) (w : World) : Option Dp → Value → Prop
  | none, v => v = .nilFunc
  | some d, v => ∃ f c, v = .func (.func f) #[] c ∧ RepD B w d f c

def GivesD (B : Bd) (s : ByteArray) (w : World) (e : Ending) (w' : World) : Prop := ∃ v, e = .returned v ∧ New w w' ∧ DV B w' (progOf s) v

theorem simple_calls {B : Bd} (w : World) (hx : XsOk B w) (f : FuncId) (c : Array Value) : Calls Tryz.prog 43 #[.func (.func f) #[] c] w (Gives (.func (.func 83) #[] #[bp w.heap.size]) (fun w' => Box B w' w.heap.size 79 (.func (.func f) #[] c)) w) :=
  gives_end (B := B) [.e (.c (.fv f c))] [] [] 40 [⟨79, [.fv f c]⟩] (obs := []) Tryz.func43 rfl rfl rfl (by kernel_rfl) (by kernel_rfl) (by kernel_rfl) (l := [.c (.f 83 [.n 0 0])]) (by kernel_rfl) trivial rfl (fun w1 hr1 => box_of hx hr1 (i := 0) rfl rfl rfl)

theorem places_calls {B : Bd} (w : World) (hx : XsOk B w) (f : FuncId) (c : Array Value) : Calls Tryz.prog 47 #[.func (.func f) #[] c] w (Gives (.func (.func 91) #[] #[bp w.heap.size]) (fun w' => Box B w' w.heap.size 81 (.func (.func f) #[] c)) w) :=
  gives_end (B := B) [.e (.c (.fv f c))] [] [] 40 [⟨81, [.fv f c]⟩] (obs := []) Tryz.func47 rfl rfl rfl (by kernel_rfl) (by kernel_rfl) (by kernel_rfl) (l := [.c (.f 91 [.n 0 0])]) (by kernel_rfl) trivial rfl (fun w1 hr1 => box_of hx hr1 (i := 0) rfl rfl rfl)

theorem renames_calls {B : Bd} (w : World) (hx : XsOk B w) (n : Int) : Calls Tryz.prog 48 #[.int .i64 n] w (Gives (.func (.func 96) #[] #[bp w.heap.size]) (fun w' => IntBox B w' w.heap.size n) w) :=
  gives_end (B := B) [.e (.c (.int .i64 n))] [] [] 40 [⟨3, [.int .i64 n]⟩] (obs := []) Tryz.func48 rfl rfl rfl (by kernel_rfl) (by kernel_rfl) (by kernel_rfl) (l := [.c (.f 96 [.n 0 0])]) (by kernel_rfl) trivial rfl (fun w1 hr1 => box_of hx hr1 (i := 0) rfl rfl rfl)

theorem programs_calls {B : Bd} (w : World) (hX : XsOk B w) (s : ByteArray) : Calls Tryz.prog 19 #[.string s] w (GivesD B s w) := by
  have hx : ∀ l : List UInt8, (ByteArray.mk l.toArray).toList = l := fun l => by rw [ByteArray.toList_eq]
  by_cases h0 : (s.toList == [116, 114, 117, 101]) = true
  · have o0 : (s.toList == (⟨#[116, 114, 117, 101]⟩ : ByteArray).toList) = true := by rw [hx [116, 114, 117, 101]]; exact h0
    have hp : progOf s = some .tru := by simp only [progOf, if_pos h0]
    refine Calls.mono (gives_end (B := B) [.e (.c (.str s))] [true] [] 200 [] (obs := [fun _ => (s.toList == (⟨#[116, 114, 117, 101]⟩ : ByteArray).toList) = true]) (Q := fun _ => True) Tryz.func19 rfl rfl rfl (by kernel_rfl) (by kernel_rfl) (by kernel_rfl) (l := [.c (.f 38 [])]) (by kernel_rfl) ⟨o0, trivial⟩ rfl (fun _ _ => trivial)) (fun e w' ⟨e1, e2, _⟩ => ⟨_, e1, e2, ?_⟩)
    rw [hp]
    exact ⟨38, #[], rfl, rfl, rfl⟩
  have o0 : (s.toList == (⟨#[116, 114, 117, 101]⟩ : ByteArray).toList) = false := by rw [hx [116, 114, 117, 101]]; simpa using h0
  by_cases h1 : (s.toList == [102, 97, 108, 115, 101]) = true
  · have o1 : (s.toList == (⟨#[102, 97, 108, 115, 101]⟩ : ByteArray).toList) = true := by rw [hx [102, 97, 108, 115, 101]]; exact h1
    have hp : progOf s = some .fls := by simp only [progOf, if_neg h0, if_pos h1]
    refine Calls.mono (gives_end (B := B) [.e (.c (.str s))] [false, true] [] 200 [] (obs := [fun _ => (s.toList == (⟨#[116, 114, 117, 101]⟩ : ByteArray).toList) = false, fun _ => (s.toList == (⟨#[102, 97, 108, 115, 101]⟩ : ByteArray).toList) = true]) (Q := fun _ => True) Tryz.func19 rfl rfl rfl (by kernel_rfl) (by kernel_rfl) (by kernel_rfl) (l := [.c (.f 39 [])]) (by kernel_rfl) ⟨o0, o1, trivial⟩ rfl (fun _ _ => trivial)) (fun e w' ⟨e1, e2, _⟩ => ⟨_, e1, e2, ?_⟩)
    rw [hp]
    exact ⟨39, #[], rfl, rfl, rfl⟩
  have o1 : (s.toList == (⟨#[102, 97, 108, 115, 101]⟩ : ByteArray).toList) = false := by rw [hx [102, 97, 108, 115, 101]]; simpa using h1
  by_cases h2 : (s.toList == [105, 100]) = true
  · have o2 : (s.toList == (⟨#[105, 100]⟩ : ByteArray).toList) = true := by rw [hx [105, 100]]; exact h2
    have hp : progOf s = some .id := by simp only [progOf, if_neg h0, if_neg h1, if_pos h2]
    refine Calls.mono (gives_end (B := B) [.e (.c (.str s))] [false, false, true] [] 200 [] (obs := [fun _ => (s.toList == (⟨#[116, 114, 117, 101]⟩ : ByteArray).toList) = false, fun _ => (s.toList == (⟨#[102, 97, 108, 115, 101]⟩ : ByteArray).toList) = false, fun _ => (s.toList == (⟨#[105, 100]⟩ : ByteArray).toList) = true]) (Q := fun _ => True) Tryz.func19 rfl rfl rfl (by kernel_rfl) (by kernel_rfl) (by kernel_rfl) (l := [.c (.f 40 [])]) (by kernel_rfl) ⟨o0, o1, o2, trivial⟩ rfl (fun _ _ => trivial)) (fun e w' ⟨e1, e2, _⟩ => ⟨_, e1, e2, ?_⟩)
    rw [hp]
    exact ⟨40, #[], rfl, rfl, rfl⟩
  have o2 : (s.toList == (⟨#[105, 100]⟩ : ByteArray).toList) = false := by rw [hx [105, 100]]; simpa using h2
  by_cases h3 : (s.toList == [119, 104, 111]) = true
  · have o3 : (s.toList == (⟨#[119, 104, 111]⟩ : ByteArray).toList) = true := by rw [hx [119, 104, 111]]; exact h3
    have hp : progOf s = some .who := by simp only [progOf, if_neg h0, if_neg h1, if_neg h2, if_pos h3]
    refine Calls.mono (gives_end (B := B) [.e (.c (.str s))] [false, false, false, true] [] 200 [] (obs := [fun _ => (s.toList == (⟨#[116, 114, 117, 101]⟩ : ByteArray).toList) = false, fun _ => (s.toList == (⟨#[102, 97, 108, 115, 101]⟩ : ByteArray).toList) = false, fun _ => (s.toList == (⟨#[105, 100]⟩ : ByteArray).toList) = false, fun _ => (s.toList == (⟨#[119, 104, 111]⟩ : ByteArray).toList) = true]) (Q := fun _ => True) Tryz.func19 rfl rfl rfl (by kernel_rfl) (by kernel_rfl) (by kernel_rfl) (l := [.c (.f 41 [])]) (by kernel_rfl) ⟨o0, o1, o2, o3, trivial⟩ rfl (fun _ _ => trivial)) (fun e w' ⟨e1, e2, _⟩ => ⟨_, e1, e2, ?_⟩)
    rw [hp]
    exact ⟨41, #[], rfl, rfl, rfl⟩
  have o3 : (s.toList == (⟨#[119, 104, 111]⟩ : ByteArray).toList) = false := by rw [hx [119, 104, 111]]; simpa using h3
  by_cases h4 : (s.toList == [99, 97, 116]) = true
  · have o4 : (s.toList == (⟨#[99, 97, 116]⟩ : ByteArray).toList) = true := by rw [hx [99, 97, 116]]; exact h4
    have hp : progOf s = some .cat := by simp only [progOf, if_neg h0, if_neg h1, if_neg h2, if_neg h3, if_pos h4]
    refine Calls.mono (gives_end (B := B) [.e (.c (.str s))] [false, false, false, false, true] [] 200 [] (obs := [fun _ => (s.toList == (⟨#[116, 114, 117, 101]⟩ : ByteArray).toList) = false, fun _ => (s.toList == (⟨#[102, 97, 108, 115, 101]⟩ : ByteArray).toList) = false, fun _ => (s.toList == (⟨#[105, 100]⟩ : ByteArray).toList) = false, fun _ => (s.toList == (⟨#[119, 104, 111]⟩ : ByteArray).toList) = false, fun _ => (s.toList == (⟨#[99, 97, 116]⟩ : ByteArray).toList) = true]) (Q := fun _ => True) Tryz.func19 rfl rfl rfl (by kernel_rfl) (by kernel_rfl) (by kernel_rfl) (l := [.c (.f 42 [])]) (by kernel_rfl) ⟨o0, o1, o2, o3, o4, trivial⟩ rfl (fun _ _ => trivial)) (fun e w' ⟨e1, e2, _⟩ => ⟨_, e1, e2, ?_⟩)
    rw [hp]
    exact ⟨42, #[], rfl, rfl, rfl⟩
  have o4 : (s.toList == (⟨#[99, 97, 116]⟩ : ByteArray).toList) = false := by rw [hx [99, 97, 116]]; simpa using h4
  by_cases h5 : (s.toList == [109, 107, 100, 105, 114]) = true
  · have o5 : (s.toList == (⟨#[109, 107, 100, 105, 114]⟩ : ByteArray).toList) = true := by rw [hx [109, 107, 100, 105, 114]]; exact h5
    have hp : progOf s = some .mkdir := by simp only [progOf, if_neg h0, if_neg h1, if_neg h2, if_neg h3, if_neg h4, if_pos h5]
    refine enter (B := B) tab_ok [.e (.c (.str s))] [false, false, false, false, false, true] [] 200 Tryz.func19 rfl rfl rfl (obs := [fun _ => (s.toList == (⟨#[116, 114, 117, 101]⟩ : ByteArray).toList) = false, fun _ => (s.toList == (⟨#[102, 97, 108, 115, 101]⟩ : ByteArray).toList) = false, fun _ => (s.toList == (⟨#[105, 100]⟩ : ByteArray).toList) = false, fun _ => (s.toList == (⟨#[119, 104, 111]⟩ : ByteArray).toList) = false, fun _ => (s.toList == (⟨#[99, 97, 116]⟩ : ByteArray).toList) = false, fun _ => (s.toList == (⟨#[109, 107, 100, 105, 114]⟩ : ByteArray).toList) = true]) (by kernel_rfl) ⟨o0, o1, o2, o3, o4, o5, trivial⟩ (fun a1 w1 hc1 => ?_)
    have hn1 := (Over.env w _).rel hc1.mem
    refine gets_pure (c := ⟨43, [.c (.f 44 [])], [], #[]⟩) 16 (.e (.c (.fv 83 #[bp w1.heap.size]))) [] [] hc1 (by kernel_rfl) (by kernel_rfl) (by kernel_rfl) (by kernel_rfl) (simple_calls (B := B) w1 (hX.keep (hn1.keep B)) 44 #[]) (by kernel_rfl) (by kernel_rfl) (fun a2 w2 hn2 hq2 hc2 => ?_)
    have hr2 := hc2.mem.bs (bs' := []) (by kernel_rfl)
    refine gets_run tab_ok 50 hc2 (holds_of (obs := []) (by kernel_rfl) trivial) (fun a3 w3 hc3 => ?_)
    have hn3 := hr2.same (hc3.mem.bs (bs' := []) (by kernel_rfl))
    refine gets_fin tab_ok (l := [.c (.fv 83 #[bp w1.heap.size])]) hc3 Tryz.func19 (by kernel_rfl) (by kernel_rfl) ⟨_, rfl, (hn1.trans hn2).trans hn3, ?_⟩
    rw [hp]
    exact ⟨83, _, rfl, rfl, _, rfl, Box.keep hq2 (hn3.keep B)⟩
  have o5 : (s.toList == (⟨#[109, 107, 100, 105, 114]⟩ : ByteArray).toList) = false := by rw [hx [109, 107, 100, 105, 114]]; simpa using h5
  by_cases h6 : (s.toList == [114, 109, 100, 105, 114]) = true
  · have o6 : (s.toList == (⟨#[114, 109, 100, 105, 114]⟩ : ByteArray).toList) = true := by rw [hx [114, 109, 100, 105, 114]]; exact h6
    have hp : progOf s = some .rmdir := by simp only [progOf, if_neg h0, if_neg h1, if_neg h2, if_neg h3, if_neg h4, if_neg h5, if_pos h6]
    refine enter (B := B) tab_ok [.e (.c (.str s))] [false, false, false, false, false, false, true] [] 200 Tryz.func19 rfl rfl rfl (obs := [fun _ => (s.toList == (⟨#[116, 114, 117, 101]⟩ : ByteArray).toList) = false, fun _ => (s.toList == (⟨#[102, 97, 108, 115, 101]⟩ : ByteArray).toList) = false, fun _ => (s.toList == (⟨#[105, 100]⟩ : ByteArray).toList) = false, fun _ => (s.toList == (⟨#[119, 104, 111]⟩ : ByteArray).toList) = false, fun _ => (s.toList == (⟨#[99, 97, 116]⟩ : ByteArray).toList) = false, fun _ => (s.toList == (⟨#[109, 107, 100, 105, 114]⟩ : ByteArray).toList) = false, fun _ => (s.toList == (⟨#[114, 109, 100, 105, 114]⟩ : ByteArray).toList) = true]) (by kernel_rfl) ⟨o0, o1, o2, o3, o4, o5, o6, trivial⟩ (fun a1 w1 hc1 => ?_)
    have hn1 := (Over.env w _).rel hc1.mem
    refine gets_pure (c := ⟨43, [.c (.f 45 [])], [], #[]⟩) 19 (.e (.c (.fv 83 #[bp w1.heap.size]))) [] [] hc1 (by kernel_rfl) (by kernel_rfl) (by kernel_rfl) (by kernel_rfl) (simple_calls (B := B) w1 (hX.keep (hn1.keep B)) 45 #[]) (by kernel_rfl) (by kernel_rfl) (fun a2 w2 hn2 hq2 hc2 => ?_)
    have hr2 := hc2.mem.bs (bs' := []) (by kernel_rfl)
    refine gets_run tab_ok 50 hc2 (holds_of (obs := []) (by kernel_rfl) trivial) (fun a3 w3 hc3 => ?_)
    have hn3 := hr2.same (hc3.mem.bs (bs' := []) (by kernel_rfl))
    refine gets_fin tab_ok (l := [.c (.fv 83 #[bp w1.heap.size])]) hc3 Tryz.func19 (by kernel_rfl) (by kernel_rfl) ⟨_, rfl, (hn1.trans hn2).trans hn3, ?_⟩
    rw [hp]
    exact ⟨83, _, rfl, rfl, _, rfl, Box.keep hq2 (hn3.keep B)⟩
  have o6 : (s.toList == (⟨#[114, 109, 100, 105, 114]⟩ : ByteArray).toList) = false := by rw [hx [114, 109, 100, 105, 114]]; simpa using h6
  by_cases h7 : (s.toList == [114, 109]) = true
  · have o7 : (s.toList == (⟨#[114, 109]⟩ : ByteArray).toList) = true := by rw [hx [114, 109]]; exact h7
    have hp : progOf s = some .rm := by simp only [progOf, if_neg h0, if_neg h1, if_neg h2, if_neg h3, if_neg h4, if_neg h5, if_neg h6, if_pos h7]
    refine Calls.mono (gives_end (B := B) [.e (.c (.str s))] [false, false, false, false, false, false, false, true] [] 200 [] (obs := [fun _ => (s.toList == (⟨#[116, 114, 117, 101]⟩ : ByteArray).toList) = false, fun _ => (s.toList == (⟨#[102, 97, 108, 115, 101]⟩ : ByteArray).toList) = false, fun _ => (s.toList == (⟨#[105, 100]⟩ : ByteArray).toList) = false, fun _ => (s.toList == (⟨#[119, 104, 111]⟩ : ByteArray).toList) = false, fun _ => (s.toList == (⟨#[99, 97, 116]⟩ : ByteArray).toList) = false, fun _ => (s.toList == (⟨#[109, 107, 100, 105, 114]⟩ : ByteArray).toList) = false, fun _ => (s.toList == (⟨#[114, 109, 100, 105, 114]⟩ : ByteArray).toList) = false, fun _ => (s.toList == (⟨#[114, 109]⟩ : ByteArray).toList) = true]) (Q := fun _ => True) Tryz.func19 rfl rfl rfl (by kernel_rfl) (by kernel_rfl) (by kernel_rfl) (l := [.c (.f 46 [])]) (by kernel_rfl) ⟨o0, o1, o2, o3, o4, o5, o6, o7, trivial⟩ rfl (fun _ _ => trivial)) (fun e w' ⟨e1, e2, _⟩ => ⟨_, e1, e2, ?_⟩)
    rw [hp]
    exact ⟨46, #[], rfl, rfl, rfl⟩
  have o7 : (s.toList == (⟨#[114, 109]⟩ : ByteArray).toList) = false := by rw [hx [114, 109]]; simpa using h7
  by_cases h8 : (s.toList == [108, 110]) = true
  · have o8 : (s.toList == (⟨#[108, 110]⟩ : ByteArray).toList) = true := by rw [hx [108, 110]]; exact h8
    have hp : progOf s = some .ln := by simp only [progOf, if_neg h0, if_neg h1, if_neg h2, if_neg h3, if_neg h4, if_neg h5, if_neg h6, if_neg h7, if_pos h8]
    refine enter (B := B) tab_ok [.e (.c (.str s))] [false, false, false, false, false, false, false, false, true] [] 200 Tryz.func19 rfl rfl rfl (obs := [fun _ => (s.toList == (⟨#[116, 114, 117, 101]⟩ : ByteArray).toList) = false, fun _ => (s.toList == (⟨#[102, 97, 108, 115, 101]⟩ : ByteArray).toList) = false, fun _ => (s.toList == (⟨#[105, 100]⟩ : ByteArray).toList) = false, fun _ => (s.toList == (⟨#[119, 104, 111]⟩ : ByteArray).toList) = false, fun _ => (s.toList == (⟨#[99, 97, 116]⟩ : ByteArray).toList) = false, fun _ => (s.toList == (⟨#[109, 107, 100, 105, 114]⟩ : ByteArray).toList) = false, fun _ => (s.toList == (⟨#[114, 109, 100, 105, 114]⟩ : ByteArray).toList) = false, fun _ => (s.toList == (⟨#[114, 109]⟩ : ByteArray).toList) = false, fun _ => (s.toList == (⟨#[108, 110]⟩ : ByteArray).toList) = true]) (by kernel_rfl) ⟨o0, o1, o2, o3, o4, o5, o6, o7, o8, trivial⟩ (fun a1 w1 hc1 => ?_)
    have hn1 := (Over.env w _).rel hc1.mem
    refine gets_pure (c := ⟨48, [.c (.int .i64 12)], [], #[]⟩) 24 (.e (.c (.fv 96 #[bp w1.heap.size]))) [] [] hc1 (by kernel_rfl) (by kernel_rfl) (by kernel_rfl) (by kernel_rfl) (renames_calls (B := B) w1 (hX.keep (hn1.keep B)) 12) (by kernel_rfl) (by kernel_rfl) (fun a2 w2 hn2 hq2 hc2 => ?_)
    have hr2 := hc2.mem.bs (bs' := []) (by kernel_rfl)
    have hov := (Over.env w (sro B w)).next hc1.mem hn2 (sro B w)
    refine gets_pure (c := ⟨47, [.c (.fv 96 #[bp w1.heap.size])], [], #[]⟩) 25 (.e (.c (.fv 91 #[bp w2.heap.size]))) [] [] hc2 (by kernel_rfl) (by kernel_rfl) (by kernel_rfl) (by kernel_rfl) (places_calls (B := B) w2 (hX.keep ((hn1.trans hn2).keep B)) 96 _) (by kernel_rfl) (by kernel_rfl) (fun a3 w3 hn3 hq3 hc3 => ?_)
    have hr3 := hc3.mem.bs (bs' := []) (by kernel_rfl)
    refine gets_run tab_ok 50 hc3 (holds_of (obs := []) (by kernel_rfl) trivial) (fun a4 w4 hc4 => ?_)
    have hn4 := hr3.same (hc4.mem.bs (bs' := []) (by kernel_rfl))
    refine gets_fin tab_ok (l := [.c (.fv 91 #[bp w2.heap.size])]) hc4 Tryz.func19 (by kernel_rfl) (by kernel_rfl) ⟨_, rfl, ((hn1.trans hn2).trans hn3).trans hn4, ?_⟩
    rw [hp]
    exact ⟨91, _, rfl, rfl, _, 96, _, rfl, Box.keep hq3 (hn4.keep B), rfl, _, rfl, Box.keep hq2 ((hn3.trans hn4).keep B)⟩
  have o8 : (s.toList == (⟨#[108, 110]⟩ : ByteArray).toList) = false := by rw [hx [108, 110]]; simpa using h8
  by_cases h9 : (s.toList == [109, 118]) = true
  · have o9 : (s.toList == (⟨#[109, 118]⟩ : ByteArray).toList) = true := by rw [hx [109, 118]]; exact h9
    have hp : progOf s = some .mv := by simp only [progOf, if_neg h0, if_neg h1, if_neg h2, if_neg h3, if_neg h4, if_neg h5, if_neg h6, if_neg h7, if_neg h8, if_pos h9]
    refine enter (B := B) tab_ok [.e (.c (.str s))] [false, false, false, false, false, false, false, false, false, true] [] 200 Tryz.func19 rfl rfl rfl (obs := [fun _ => (s.toList == (⟨#[116, 114, 117, 101]⟩ : ByteArray).toList) = false, fun _ => (s.toList == (⟨#[102, 97, 108, 115, 101]⟩ : ByteArray).toList) = false, fun _ => (s.toList == (⟨#[105, 100]⟩ : ByteArray).toList) = false, fun _ => (s.toList == (⟨#[119, 104, 111]⟩ : ByteArray).toList) = false, fun _ => (s.toList == (⟨#[99, 97, 116]⟩ : ByteArray).toList) = false, fun _ => (s.toList == (⟨#[109, 107, 100, 105, 114]⟩ : ByteArray).toList) = false, fun _ => (s.toList == (⟨#[114, 109, 100, 105, 114]⟩ : ByteArray).toList) = false, fun _ => (s.toList == (⟨#[114, 109]⟩ : ByteArray).toList) = false, fun _ => (s.toList == (⟨#[108, 110]⟩ : ByteArray).toList) = false, fun _ => (s.toList == (⟨#[109, 118]⟩ : ByteArray).toList) = true]) (by kernel_rfl) ⟨o0, o1, o2, o3, o4, o5, o6, o7, o8, o9, trivial⟩ (fun a1 w1 hc1 => ?_)
    have hn1 := (Over.env w _).rel hc1.mem
    refine gets_pure (c := ⟨48, [.c (.int .i64 13)], [], #[]⟩) 28 (.e (.c (.fv 96 #[bp w1.heap.size]))) [] [] hc1 (by kernel_rfl) (by kernel_rfl) (by kernel_rfl) (by kernel_rfl) (renames_calls (B := B) w1 (hX.keep (hn1.keep B)) 13) (by kernel_rfl) (by kernel_rfl) (fun a2 w2 hn2 hq2 hc2 => ?_)
    have hr2 := hc2.mem.bs (bs' := []) (by kernel_rfl)
    have hov := (Over.env w (sro B w)).next hc1.mem hn2 (sro B w)
    refine gets_pure (c := ⟨47, [.c (.fv 96 #[bp w1.heap.size])], [], #[]⟩) 29 (.e (.c (.fv 91 #[bp w2.heap.size]))) [] [] hc2 (by kernel_rfl) (by kernel_rfl) (by kernel_rfl) (by kernel_rfl) (places_calls (B := B) w2 (hX.keep ((hn1.trans hn2).keep B)) 96 _) (by kernel_rfl) (by kernel_rfl) (fun a3 w3 hn3 hq3 hc3 => ?_)
    have hr3 := hc3.mem.bs (bs' := []) (by kernel_rfl)
    refine gets_run tab_ok 50 hc3 (holds_of (obs := []) (by kernel_rfl) trivial) (fun a4 w4 hc4 => ?_)
    have hn4 := hr3.same (hc4.mem.bs (bs' := []) (by kernel_rfl))
    refine gets_fin tab_ok (l := [.c (.fv 91 #[bp w2.heap.size])]) hc4 Tryz.func19 (by kernel_rfl) (by kernel_rfl) ⟨_, rfl, ((hn1.trans hn2).trans hn3).trans hn4, ?_⟩
    rw [hp]
    exact ⟨91, _, rfl, rfl, _, 96, _, rfl, Box.keep hq3 (hn4.keep B), rfl, _, rfl, Box.keep hq2 ((hn3.trans hn4).keep B)⟩
  have o9 : (s.toList == (⟨#[109, 118]⟩ : ByteArray).toList) = false := by rw [hx [109, 118]]; simpa using h9
  by_cases h10 : (s.toList == [99, 112]) = true
  · have o10 : (s.toList == (⟨#[99, 112]⟩ : ByteArray).toList) = true := by rw [hx [99, 112]]; exact h10
    have hp : progOf s = some .cp := by simp only [progOf, if_neg h0, if_neg h1, if_neg h2, if_neg h3, if_neg h4, if_neg h5, if_neg h6, if_neg h7, if_neg h8, if_neg h9, if_pos h10]
    refine enter (B := B) tab_ok [.e (.c (.str s))] [false, false, false, false, false, false, false, false, false, false, true] [] 200 Tryz.func19 rfl rfl rfl (obs := [fun _ => (s.toList == (⟨#[116, 114, 117, 101]⟩ : ByteArray).toList) = false, fun _ => (s.toList == (⟨#[102, 97, 108, 115, 101]⟩ : ByteArray).toList) = false, fun _ => (s.toList == (⟨#[105, 100]⟩ : ByteArray).toList) = false, fun _ => (s.toList == (⟨#[119, 104, 111]⟩ : ByteArray).toList) = false, fun _ => (s.toList == (⟨#[99, 97, 116]⟩ : ByteArray).toList) = false, fun _ => (s.toList == (⟨#[109, 107, 100, 105, 114]⟩ : ByteArray).toList) = false, fun _ => (s.toList == (⟨#[114, 109, 100, 105, 114]⟩ : ByteArray).toList) = false, fun _ => (s.toList == (⟨#[114, 109]⟩ : ByteArray).toList) = false, fun _ => (s.toList == (⟨#[108, 110]⟩ : ByteArray).toList) = false, fun _ => (s.toList == (⟨#[109, 118]⟩ : ByteArray).toList) = false, fun _ => (s.toList == (⟨#[99, 112]⟩ : ByteArray).toList) = true]) (by kernel_rfl) ⟨o0, o1, o2, o3, o4, o5, o6, o7, o8, o9, o10, trivial⟩ (fun a1 w1 hc1 => ?_)
    have hn1 := (Over.env w _).rel hc1.mem
    refine gets_pure (c := ⟨47, [.c (.f 49 [])], [], #[]⟩) 32 (.e (.c (.fv 91 #[bp w1.heap.size]))) [] [] hc1 (by kernel_rfl) (by kernel_rfl) (by kernel_rfl) (by kernel_rfl) (places_calls (B := B) w1 (hX.keep (hn1.keep B)) 49 #[]) (by kernel_rfl) (by kernel_rfl) (fun a2 w2 hn2 hq2 hc2 => ?_)
    have hr2 := hc2.mem.bs (bs' := []) (by kernel_rfl)
    refine gets_run tab_ok 50 hc2 (holds_of (obs := []) (by kernel_rfl) trivial) (fun a3 w3 hc3 => ?_)
    have hn3 := hr2.same (hc3.mem.bs (bs' := []) (by kernel_rfl))
    refine gets_fin tab_ok (l := [.c (.fv 91 #[bp w1.heap.size])]) hc3 Tryz.func19 (by kernel_rfl) (by kernel_rfl) ⟨_, rfl, (hn1.trans hn2).trans hn3, ?_⟩
    rw [hp]
    exact ⟨91, _, rfl, rfl, _, 49, #[], rfl, Box.keep hq2 (hn3.keep B), rfl, rfl⟩
  have o10 : (s.toList == (⟨#[99, 112]⟩ : ByteArray).toList) = false := by rw [hx [99, 112]]; simpa using h10
  by_cases h11 : (s.toList == [99, 104, 109, 111, 100]) = true
  · have o11 : (s.toList == (⟨#[99, 104, 109, 111, 100]⟩ : ByteArray).toList) = true := by rw [hx [99, 104, 109, 111, 100]]; exact h11
    have hp : progOf s = some .chmod := by simp only [progOf, if_neg h0, if_neg h1, if_neg h2, if_neg h3, if_neg h4, if_neg h5, if_neg h6, if_neg h7, if_neg h8, if_neg h9, if_neg h10, if_pos h11]
    refine Calls.mono (gives_end (B := B) [.e (.c (.str s))] [false, false, false, false, false, false, false, false, false, false, false, true] [] 200 [] (obs := [fun _ => (s.toList == (⟨#[116, 114, 117, 101]⟩ : ByteArray).toList) = false, fun _ => (s.toList == (⟨#[102, 97, 108, 115, 101]⟩ : ByteArray).toList) = false, fun _ => (s.toList == (⟨#[105, 100]⟩ : ByteArray).toList) = false, fun _ => (s.toList == (⟨#[119, 104, 111]⟩ : ByteArray).toList) = false, fun _ => (s.toList == (⟨#[99, 97, 116]⟩ : ByteArray).toList) = false, fun _ => (s.toList == (⟨#[109, 107, 100, 105, 114]⟩ : ByteArray).toList) = false, fun _ => (s.toList == (⟨#[114, 109, 100, 105, 114]⟩ : ByteArray).toList) = false, fun _ => (s.toList == (⟨#[114, 109]⟩ : ByteArray).toList) = false, fun _ => (s.toList == (⟨#[108, 110]⟩ : ByteArray).toList) = false, fun _ => (s.toList == (⟨#[109, 118]⟩ : ByteArray).toList) = false, fun _ => (s.toList == (⟨#[99, 112]⟩ : ByteArray).toList) = false, fun _ => (s.toList == (⟨#[99, 104, 109, 111, 100]⟩ : ByteArray).toList) = true]) (Q := fun _ => True) Tryz.func19 rfl rfl rfl (by kernel_rfl) (by kernel_rfl) (by kernel_rfl) (l := [.c (.f 50 [])]) (by kernel_rfl) ⟨o0, o1, o2, o3, o4, o5, o6, o7, o8, o9, o10, o11, trivial⟩ rfl (fun _ _ => trivial)) (fun e w' ⟨e1, e2, _⟩ => ⟨_, e1, e2, ?_⟩)
    rw [hp]
    exact ⟨50, #[], rfl, rfl, rfl⟩
  have o11 : (s.toList == (⟨#[99, 104, 109, 111, 100]⟩ : ByteArray).toList) = false := by rw [hx [99, 104, 109, 111, 100]]; simpa using h11
  by_cases h12 : (s.toList == [99, 104, 111, 119, 110]) = true
  · have o12 : (s.toList == (⟨#[99, 104, 111, 119, 110]⟩ : ByteArray).toList) = true := by rw [hx [99, 104, 111, 119, 110]]; exact h12
    have hp : progOf s = some .chown := by simp only [progOf, if_neg h0, if_neg h1, if_neg h2, if_neg h3, if_neg h4, if_neg h5, if_neg h6, if_neg h7, if_neg h8, if_neg h9, if_neg h10, if_neg h11, if_pos h12]
    refine Calls.mono (gives_end (B := B) [.e (.c (.str s))] [false, false, false, false, false, false, false, false, false, false, false, false, true] [] 200 [] (obs := [fun _ => (s.toList == (⟨#[116, 114, 117, 101]⟩ : ByteArray).toList) = false, fun _ => (s.toList == (⟨#[102, 97, 108, 115, 101]⟩ : ByteArray).toList) = false, fun _ => (s.toList == (⟨#[105, 100]⟩ : ByteArray).toList) = false, fun _ => (s.toList == (⟨#[119, 104, 111]⟩ : ByteArray).toList) = false, fun _ => (s.toList == (⟨#[99, 97, 116]⟩ : ByteArray).toList) = false, fun _ => (s.toList == (⟨#[109, 107, 100, 105, 114]⟩ : ByteArray).toList) = false, fun _ => (s.toList == (⟨#[114, 109, 100, 105, 114]⟩ : ByteArray).toList) = false, fun _ => (s.toList == (⟨#[114, 109]⟩ : ByteArray).toList) = false, fun _ => (s.toList == (⟨#[108, 110]⟩ : ByteArray).toList) = false, fun _ => (s.toList == (⟨#[109, 118]⟩ : ByteArray).toList) = false, fun _ => (s.toList == (⟨#[99, 112]⟩ : ByteArray).toList) = false, fun _ => (s.toList == (⟨#[99, 104, 109, 111, 100]⟩ : ByteArray).toList) = false, fun _ => (s.toList == (⟨#[99, 104, 111, 119, 110]⟩ : ByteArray).toList) = true]) (Q := fun _ => True) Tryz.func19 rfl rfl rfl (by kernel_rfl) (by kernel_rfl) (by kernel_rfl) (l := [.c (.f 51 [])]) (by kernel_rfl) ⟨o0, o1, o2, o3, o4, o5, o6, o7, o8, o9, o10, o11, o12, trivial⟩ rfl (fun _ _ => trivial)) (fun e w' ⟨e1, e2, _⟩ => ⟨_, e1, e2, ?_⟩)
    rw [hp]
    exact ⟨51, #[], rfl, rfl, rfl⟩
  have o12 : (s.toList == (⟨#[99, 104, 111, 119, 110]⟩ : ByteArray).toList) = false := by rw [hx [99, 104, 111, 119, 110]]; simpa using h12
  by_cases h13 : (s.toList == [108, 115]) = true
  · have o13 : (s.toList == (⟨#[108, 115]⟩ : ByteArray).toList) = true := by rw [hx [108, 115]]; exact h13
    have hp : progOf s = some .ls := by simp only [progOf, if_neg h0, if_neg h1, if_neg h2, if_neg h3, if_neg h4, if_neg h5, if_neg h6, if_neg h7, if_neg h8, if_neg h9, if_neg h10, if_neg h11, if_neg h12, if_pos h13]
    refine Calls.mono (gives_end (B := B) [.e (.c (.str s))] [false, false, false, false, false, false, false, false, false, false, false, false, false, true] [] 200 [] (obs := [fun _ => (s.toList == (⟨#[116, 114, 117, 101]⟩ : ByteArray).toList) = false, fun _ => (s.toList == (⟨#[102, 97, 108, 115, 101]⟩ : ByteArray).toList) = false, fun _ => (s.toList == (⟨#[105, 100]⟩ : ByteArray).toList) = false, fun _ => (s.toList == (⟨#[119, 104, 111]⟩ : ByteArray).toList) = false, fun _ => (s.toList == (⟨#[99, 97, 116]⟩ : ByteArray).toList) = false, fun _ => (s.toList == (⟨#[109, 107, 100, 105, 114]⟩ : ByteArray).toList) = false, fun _ => (s.toList == (⟨#[114, 109, 100, 105, 114]⟩ : ByteArray).toList) = false, fun _ => (s.toList == (⟨#[114, 109]⟩ : ByteArray).toList) = false, fun _ => (s.toList == (⟨#[108, 110]⟩ : ByteArray).toList) = false, fun _ => (s.toList == (⟨#[109, 118]⟩ : ByteArray).toList) = false, fun _ => (s.toList == (⟨#[99, 112]⟩ : ByteArray).toList) = false, fun _ => (s.toList == (⟨#[99, 104, 109, 111, 100]⟩ : ByteArray).toList) = false, fun _ => (s.toList == (⟨#[99, 104, 111, 119, 110]⟩ : ByteArray).toList) = false, fun _ => (s.toList == (⟨#[108, 115]⟩ : ByteArray).toList) = true]) (Q := fun _ => True) Tryz.func19 rfl rfl rfl (by kernel_rfl) (by kernel_rfl) (by kernel_rfl) (l := [.c (.f 52 [])]) (by kernel_rfl) ⟨o0, o1, o2, o3, o4, o5, o6, o7, o8, o9, o10, o11, o12, o13, trivial⟩ rfl (fun _ _ => trivial)) (fun e w' ⟨e1, e2, _⟩ => ⟨_, e1, e2, ?_⟩)
    rw [hp]
    exact ⟨52, #[], rfl, rfl, rfl⟩
  have o13 : (s.toList == (⟨#[108, 115]⟩ : ByteArray).toList) = false := by rw [hx [108, 115]]; simpa using h13
  have hp : progOf s = none := by simp only [progOf, if_neg h0, if_neg h1, if_neg h2, if_neg h3, if_neg h4, if_neg h5, if_neg h6, if_neg h7, if_neg h8, if_neg h9, if_neg h10, if_neg h11, if_neg h12, if_neg h13]
  refine Calls.mono (gives_end (B := B) [.e (.c (.str s))] [false, false, false, false, false, false, false, false, false, false, false, false, false, false] [] 200 [] (obs := [fun _ => (s.toList == (⟨#[116, 114, 117, 101]⟩ : ByteArray).toList) = false, fun _ => (s.toList == (⟨#[102, 97, 108, 115, 101]⟩ : ByteArray).toList) = false, fun _ => (s.toList == (⟨#[105, 100]⟩ : ByteArray).toList) = false, fun _ => (s.toList == (⟨#[119, 104, 111]⟩ : ByteArray).toList) = false, fun _ => (s.toList == (⟨#[99, 97, 116]⟩ : ByteArray).toList) = false, fun _ => (s.toList == (⟨#[109, 107, 100, 105, 114]⟩ : ByteArray).toList) = false, fun _ => (s.toList == (⟨#[114, 109, 100, 105, 114]⟩ : ByteArray).toList) = false, fun _ => (s.toList == (⟨#[114, 109]⟩ : ByteArray).toList) = false, fun _ => (s.toList == (⟨#[108, 110]⟩ : ByteArray).toList) = false, fun _ => (s.toList == (⟨#[109, 118]⟩ : ByteArray).toList) = false, fun _ => (s.toList == (⟨#[99, 112]⟩ : ByteArray).toList) = false, fun _ => (s.toList == (⟨#[99, 104, 109, 111, 100]⟩ : ByteArray).toList) = false, fun _ => (s.toList == (⟨#[99, 104, 111, 119, 110]⟩ : ByteArray).toList) = false, fun _ => (s.toList == (⟨#[108, 115]⟩ : ByteArray).toList) = false]) (Q := fun _ => True) Tryz.func19 rfl rfl rfl (by kernel_rfl) (by kernel_rfl) (by kernel_rfl) (l := [.c .nilf]) (by kernel_rfl) ⟨o0, o1, o2, o3, o4, o5, o6, o7, o8, o9, o10, o11, o12, o13, trivial⟩ rfl (fun _ _ => trivial)) (fun e w' ⟨e1, e2, _⟩ => ⟨_, e1, e2, ?_⟩)
  rw [hp]
  exact rfl

end Go.Proofs.YtoihipolfdhhnaaGreatDoor

namespace Go.Proofs.YtoihipolfdhhnaaGreatDoor

def m0 (prog : ByteArray) : M := ⟨prog, 0, [], none, {}, false⟩

theorem Evo.new {w w1 w2 : World} {b : Nat} (h : New w w1) (he : Evo w1 b w2) (hr : ∀ k, Own w1 b k → w.heap.size ≤ k) : New w w2 :=
  ⟨he.os.trans h.os, he.tape.trans h.tape, he.output.trans h.output, Nat.le_trans h.size he.size, fun k hk => by
    rw [he.block k (Nat.lt_of_lt_of_le hk h.size) (fun ho => by have := hr k ho; omega)]
    exact h.block k hk⟩

/-- What is owned stays so where only new blocks come. -/
theorem hfr {B : Bd} {b : Nat} {w w' : World} {m : M} (hm : MOk B w b m) (hn : New w w') (j : Nat) (ho : Own w' b j) : Own w b j := by
  obtain ⟨_, _, _, _, _, hM⟩ := hm
  rcases ho with ho | ⟨n, c, ho⟩
  · exact .inl ho
  · refine .inr ⟨n, c, ?_⟩
    rw [← ho]
    exact (World.cell?_of_block (hn.block b (lt_of_block hM.cells))).symm

/-- What a maker of a machine comes to. -/
def MadeM (B : Bd) (w : World) (m : M) (e : Ending) (w' : World) : Prop := ∃ b, e = .returned (bp b) ∧ MOk B w' b m ∧ New w w' ∧ ∀ j, Own w' b j → w.heap.size ≤ j

theorem steps_new_calls {B : Bd} {w : World} (hg : GlobOk B w) (prog : ByteArray) (k : Fn) (f : FuncId) (c : Array Value) (hk : RepF B w k f c) :
    Calls Tryz.prog 20 #[.agg (plainR [.str prog, .int .i64 0]), .func (.func f) #[] c] w (MadeM B w ((m0 prog).push k)) := by
  refine enter (B := B) tab_ok [.e (.a [.str prog, .int .i64 0]), .e (.c (.fv f c))] [] [] 40 Tryz.func20 rfl rfl rfl (obs := []) (by kernel_rfl) trivial (fun a1 w1 hc1 => ?_)
  have hr1 := hc1.mem.bs (bs' := [⟨60, [.str prog, .int .i64 0]⟩, ⟨66, mcells prog 0 none 0 0 .nilf {} false⟩]) (by kernel_rfl)
  have hn1 := (Over.env w _).rel hc1.mem
  have hM : MAt B w1 (w.heap.size + 1) (m0 prog) none 0 0 none [] := by
    refine ⟨by have := hg.le; omega, ?_, ⟨rfl, .inl ⟨rfl, rfl⟩⟩, .nil, rfl, trivial, hg.keep (hn1.keep B)⟩
    have := hr1.cells 1 _ rfl
    rw [map_plain _ rfl] at this
    exact this
  have hm1 : MOk B w1 (w.heap.size + 1) (m0 prog) := ⟨_, _, _, _, _, hM⟩
  refine gets_does (c := ⟨22, [.c (.p 1 0), .c (.fv f c)], [], #[]⟩) 11 [(5, .e (.c (.rp ⟨w.heap.size + 1, 0, none⟩)))] [] [] hc1 (by kernel_rfl) (by kernel_rfl) (by kernel_rfl) rfl (push_calls hm1 (Nat.zero_le _) hm1.le k f c (hk.keep (hn1.keep B))) (fun ρ' => ⟨rfl, trivial⟩) (fun a2 w2 hm2 he2 hc2 => ?_)
  have hn2 : New w w2 := Evo.new hn1 he2 (fun j ho => by
    rcases (hM.own j).1 ho with rfl | h
    · omega
    · cases h)
  have hown : ∀ j, Own w2 (w.heap.size + 1) j → w.heap.size ≤ j := fun j ho => by
    rcases he2.fresh j ho with h | h
    · rcases (hM.own j).1 h with rfl | h
      · omega
      · cases h
    · have := hn1.size; omega
  refine gets_run tab_ok 20 hc2 (holds_of (obs := []) (by kernel_rfl) trivial) (fun a3 w3 hc3 => ?_)
  have hn3 := hc2.mem.same (hc3.mem.bs (bs' := []) (by kernel_rfl))
  obtain ⟨hm3, _⟩ := hm2.fresh hn3
  exact gets_fin tab_ok (l := [.c (.rp ⟨w.heap.size + 1, 0, none⟩)]) hc3 Tryz.func20 (by kernel_rfl) (by kernel_rfl) ⟨_, rfl, hm3, hn2.trans hn3, fun j ho => hown j (hfr hm2 hn3 j ho)⟩

theorem info9 : (Tryz.prog.info? 9).map (fun i => (i.zero.map fun z => z.cells, i.size, i.bytes)) = some (some #[.string ⟨#[]⟩], 1, 16) := by kernel_rfl

/-- An operation of a drawn region whose run is known, where it alone may come up. -/
theorem dgets_opR {P : Program} {f : FuncId} {ops : Array Oper} {k : List Item} {a : Act} {w w' : World} {R : Ending → World → Prop} {S : World → Prop} {fuel : Nat} {listed : Array Bool} {i : Nat} {o : Oper} {v : Value}
    (hr : Region.ready .any ops listed = [i]) (ho : ops[i]? = some o) (hw : o.guard = none) (hrun : (execOp a.eval o).run P w = .ok (.value v) w')
    (h : S w' ∧ wpAnyH P .any ops (Behind P f k R) S fuel (listed.setIfInBounds i true) (a.put o.dst v) w') : wpAnyH P .any ops (Behind P f k R) S (fuel + 1) listed a w := by
  refine wpAnyH_all hr (by simp) (fun j hj => ?_)
  simp only [List.mem_singleton] at hj
  subst hj
  have hw' : Region.wanted o (yielded ops a.tmps) = true := by unfold Region.wanted; rw [hw]
  unfold wpOp
  simp only [ho, hw', if_true]
  refine .inl ?_
  unfold Oper.wp
  rw [hrun]
  exact h

/-- All texts of a slice, as cells. -/
theorem StrsAt.news {B : Bd} {w : World} {a : Addr} {n c : Nat} {l : List ByteArray} (h : StrsAt B w (some a) n c l) : ∀ j u, (l.map Value.string)[j]? = some u → w.cell? (a.add j) = some u := by
  intro j u hj
  rw [List.getElem?_map] at hj
  cases hl : l[j]? with
  | none => rw [hl] at hj; cases hj
  | some s =>
    rw [hl] at hj
    simp only [Option.map_some, Option.some.injEq] at hj
    obtain ⟨ad, h1, h2, _⟩ := h.at_ j s hl
    cases h1
    rw [h2, hj]

theorem StrsAt.of_row {B : Bd} {B' : Nat} {w : World} {v : Value} {n : Nat} {l : List ByteArray} (h : w.ownsRow B' 9 1 v n (l.map Value.string)) (hx : ∀ k, B' ≤ k → k ∉ B.x) : ∃ a c, v = .slice a n c ∧ StrsAt B w a n c l := by
  obtain ⟨h1, h2⟩ := h
  simp only [List.length_map, Nat.mul_one] at h1
  rcases h2 with ⟨rfl, rfl⟩ | ⟨g, cap, cur, rfl, hge, h5, h6, h7, h8, h9⟩
  · exact ⟨none, 0, rfl, h1.symm, Nat.le_refl _, fun j s hj => by rw [List.length_eq_zero_iff.1 h1] at hj; simp at hj⟩
  · refine ⟨_, cap, rfl, h1.symm, h6, fun j s hj => ⟨_, rfl, ?_, .inr ⟨_, _, _, h5, by decide, by decide, by decide, hx _ hge⟩⟩⟩
    rw [addr_add]
    have hjl : j < l.length := (List.getElem?_eq_some_iff.1 hj).1
    have : (cur.toList.take (n * 1))[j]? = some (.string s) := by rw [h9, List.getElem?_map, hj]; rfl
    rw [List.getElem?_take_of_lt (by omega), Array.getElem?_toList] at this
    simp [World.cell?, h5, this]

/-- What New comes to. -/
def MadeU (B : Bd) (s : ByteArray) (l : List ByteArray) (w : World) (e : Ending) (w' : World) : Prop :=
  New w w' ∧ match progOf s with
    | none => e = .returned (.pointer none)
    | some d => ∃ k b, e = .returned (bp k) ∧ w.heap.size ≤ k ∧ UOk B w' k b ((m0 s).push (.start d (l.drop 1))) ∧ ∀ j, Own w' b j → w.heap.size ≤ j

/-- New's end: from the words on. -/
theorem new_end {B : Bd} {w w1 : World} {a1 : Act} {k : List Item} (hg : GlobOk B w) (s : ByteArray) (l : List ByteArray) (d : Dp) (hp : progOf s = some d) (hn : New w w1) (kd kw : Nat) (df : FuncId) (dc : Array Value)
    (hd : Box B w1 kd 55 (.func (.func df) #[] dc)) (hrd : RepD B w1 d df dc) (hws : StrsBox B w1 kw (l.drop 1))
    (hc : CRel (env0 B w1) Tryz.f12.ntmps { tl := [(0, .e (.c (.str s))), (5, .e (.c (.rp ⟨kd, 0, none⟩))), (6, .e (.c (.rp ⟨kw, 0, none⟩)))], bs := [] } a1 w1)
    (hk : (run Tab Tryz.f12.ntmps 40 k { tl := [(0, .e (.c (.str s))), (5, .e (.c (.rp ⟨kd, 0, none⟩))), (6, .e (.c (.rp ⟨kw, 0, none⟩)))], bs := [] }).2.ob = [])
    (hbs : (run Tab Tryz.f12.ntmps 40 k { tl := [(0, .e (.c (.str s))), (5, .e (.c (.rp ⟨kd, 0, none⟩))), (6, .e (.c (.rp ⟨kw, 0, none⟩)))], bs := [] }).2.bs = [])
    (hx : callX (run Tab Tryz.f12.ntmps 40 k { tl := [(0, .e (.c (.str s))), (5, .e (.c (.rp ⟨kd, 0, none⟩))), (6, .e (.c (.rp ⟨kw, 0, none⟩)))], bs := [] }).1 (run Tab Tryz.f12.ntmps 40 k { tl := [(0, .e (.c (.str s))), (5, .e (.c (.rp ⟨kd, 0, none⟩))), (6, .e (.c (.rp ⟨kw, 0, none⟩)))], bs := [] }).2 = some ⟨20, [.a [.str s, .int .i64 0], .c (.f 21 [.r ⟨kd, 0, none⟩, .r ⟨kw, 0, none⟩])], [], #[]⟩)
    (hdst : dstX (run Tab Tryz.f12.ntmps 40 k { tl := [(0, .e (.c (.str s))), (5, .e (.c (.rp ⟨kd, 0, none⟩))), (6, .e (.c (.rp ⟨kw, 0, none⟩)))], bs := [] }).1 = some 21)
    (hend : ∀ b, (run Tab Tryz.f12.ntmps 40 (popX (run Tab Tryz.f12.ntmps 40 k { tl := [(0, .e (.c (.str s))), (5, .e (.c (.rp ⟨kd, 0, none⟩))), (6, .e (.c (.rp ⟨kw, 0, none⟩)))], bs := [] }).1) { tl := [(21, .e (.c (.rp ⟨b, 0, none⟩)))], bs := [] }).2.ob = [] ∧
      (run Tab Tryz.f12.ntmps 40 (popX (run Tab Tryz.f12.ntmps 40 k { tl := [(0, .e (.c (.str s))), (5, .e (.c (.rp ⟨kd, 0, none⟩))), (6, .e (.c (.rp ⟨kw, 0, none⟩)))], bs := [] }).1) { tl := [(21, .e (.c (.rp ⟨b, 0, none⟩)))], bs := [] }).2.bs = [⟨69, [.rp ⟨b, 0, none⟩]⟩] ∧
      isFin (run Tab Tryz.f12.ntmps 40 (popX (run Tab Tryz.f12.ntmps 40 k { tl := [(0, .e (.c (.str s))), (5, .e (.c (.rp ⟨kd, 0, none⟩))), (6, .e (.c (.rp ⟨kw, 0, none⟩)))], bs := [] }).1) { tl := [(21, .e (.c (.rp ⟨b, 0, none⟩)))], bs := [] }).1 = true ∧
      resXs Tab (run Tab Tryz.f12.ntmps 40 (popX (run Tab Tryz.f12.ntmps 40 k { tl := [(0, .e (.c (.str s))), (5, .e (.c (.rp ⟨kd, 0, none⟩))), (6, .e (.c (.rp ⟨kw, 0, none⟩)))], bs := [] }).1) { tl := [(21, .e (.c (.rp ⟨b, 0, none⟩)))], bs := [] }).2 Tryz.f12.results.toList = some [.c (.p 0 0)]) :
    Gets Tryz.prog 12 k a1 w1 (MadeU B s l w) := by
  refine gets_run tab_ok 40 hc (holds_of hk trivial) (fun a2 w2 hc2 => ?_)
  have hn2 := hc.mem.same (hc2.mem.bs hbs)
  have hk2 := hn2.keep B
  refine gets_call hc2 hx (by kernel_rfl) (steps_new_calls (B := B) (hg.keep ((hn.trans hn2).keep B)) s (.start d (l.drop 1)) 21 #[bp kd, bp kw] ⟨rfl, kd, kw, df, dc, rfl, hd.keep hk2, hrd.keep hk2, hws.keep hk2⟩) (fun e w3 ⟨b, e1, e2, e3, e4⟩ => ⟨_, e1, ?_⟩)
  rw [hdst]
  have hc3 : CRel (env0 B w3) Tryz.f12.ntmps { tl := [(21, .e (.c (.rp ⟨b, 0, none⟩)))], bs := [] } (a2.put (some 21) (bp b)) w3 := by
    refine ⟨fun d v hd => ?_, by rw [Act.put_size]; exact hc2.size, by rw [Act.put_defers']; exact hc2.defers, rel_nil w3 _ (fun _ _ h => (sro_le h).2)⟩
    simp only [lk] at hd
    split at hd
    · rename_i e; cases hd; subst e
      show (a2.tmps.setIfInBounds 21 _)[21]? = _
      rw [Array.getElem?_setIfInBounds_self_of_lt (by rw [hc2.size]; decide)]
      rfl
    · cases hd
  obtain ⟨g1, g2, g3, g4⟩ := hend b
  refine gets_run tab_ok 40 hc3 (holds_of g1 trivial) (fun a4 w4 hc4 => ?_)
  have hr4 := hc4.mem.bs g2
  have hn4 := (Over.env w3 _).rel hc4.mem
  have hm3xs := e2.xs
  obtain ⟨hm4, _⟩ := e2.fresh hn4
  refine gets_fin tab_ok (l := [.c (.p 0 0)]) hc4 Tryz.func12 g3 g4 ⟨((hn.trans hn2).trans e3).trans hn4, ?_⟩
  rw [hp]
  have hsz : B ≤ w3.heap.size := by have := hg.le; have := hn.size; have := hn2.size; have := e3.size; omega
  have hsz2 : w.heap.size ≤ w2.heap.size := (hn.trans hn2).size
  exact ⟨w3.heap.size, b, rfl, by have := e3.size; omega, ⟨hsz, box_of hm3xs hr4 (i := 0) rfl rfl rfl, hm4⟩, fun j ho => Nat.le_trans hsz2 (e4 j (hfr e2 hn4 j ho))⟩

end Go.Proofs.YtoihipolfdhhnaaGreatDoor

namespace Go.Proofs.YtoihipolfdhhnaaGreatDoor

theorem sees_none (w w' : World) : Sees (env w [] noRo) [] w' := ⟨fun i b h => by simp at h, fun a v h => by cases h⟩

theorem new_calls {B : Bd} {w : World} (hg : GlobOk B w) (s : ByteArray) (l : List ByteArray) (a : Option Addr) (n cp : Nat) (hl : StrsAt B w a n cp l) (hlen : l.length ≤ 1000000) : Calls Tryz.prog 12 #[.string s, .slice a n cp] w (MadeU B s l w) := by
  refine enter (B := B) tab_ok [.e (.c (.str s)), .e (.c (.sl a n cp))] [] [] 40 Tryz.func12 rfl rfl rfl (obs := []) (by kernel_rfl) trivial (fun a1 w1 hc1 => ?_)
  have hn1 := (Over.env w _).rel hc1.mem
  cases hp : progOf s with
  | none =>
    have hpc : Calls Tryz.prog 19 #[.string s] w1 (fun e w' => e = .returned .nilFunc ∧ New w1 w' ∧ True) := by
      refine Calls.mono (programs_calls (B := B) w1 (hg.keep (hn1.keep B)).xs s) (fun e w' ⟨v, e1, e2, e3⟩ => ?_)
      rw [hp] at e3
      have e3' : v = .nilFunc := e3
      subst e3'
      exact ⟨e1, e2, trivial⟩
    refine gets_pure (Q := fun _ => True) (c := ⟨19, [.c (.str s)], [], #[]⟩) 8 (.e (.c .nilf)) [] [] hc1 (by kernel_rfl) (by kernel_rfl) (by kernel_rfl) (by kernel_rfl) hpc (by kernel_rfl) (by kernel_rfl) (fun a2 w2 hn2 _ hc2 => ?_)
    have hov := (Over.env w (sro B w)).next hc1.mem hn2 (sro B w)
    refine gets_run tab_ok 60 hc2 (holds_of (obs := []) (by kernel_rfl) trivial) (fun a3 w3 hc3 => ?_)
    refine gets_fin tab_ok (l := [.c .nilp]) hc3 Tryz.func12 (by kernel_rfl) (by kernel_rfl) ⟨hov.rel hc3.mem, ?_⟩
    rw [hp]
    rfl
  | some d =>
    refine gets_call (c := ⟨19, [.c (.str s)], [], #[]⟩) hc1 (by kernel_rfl) (by kernel_rfl) (programs_calls (B := B) w1 (hg.keep (hn1.keep B)).xs s) (fun e w2 ⟨v, e1, hn2, e3⟩ => ⟨v, e1, ?_⟩)
    rw [hp] at e3
    obtain ⟨df, dc, rfl, hrd⟩ := e3
    have hn12 := hn1.trans hn2
    have hdst : dstX (run Tab Tryz.f12.ntmps 40 (code Tryz.f12) (ini [.e (.c (.str s)), .e (.c (.sl a n cp))] [] [])).1 = some 8 := by kernel_rfl
    rw [hdst]
    have hc2 : ∀ orc, CRel (env0 B w2) Tryz.f12.ntmps { tl := [(8, .e (.c (.fv df dc))), (0, .e (.c (.str s))), (1, .e (.c (.sl a n cp)))], bs := [], orc := orc } (a1.put (some 8) (.func (.func df) #[] dc)) w2 := by
      intro orc
      refine ⟨fun d v hd => ?_, by rw [Act.put_size]; exact hc1.size, by rw [Act.put_defers']; exact hc1.defers, rel_nil w2 _ (fun _ _ h => (sro_le h).2)⟩
      simp only [lk] at hd
      split at hd
      · rename_i e; cases hd; subst e
        show (a1.tmps.setIfInBounds 8 _)[8]? = _
        rw [Array.getElem?_setIfInBounds_self_of_lt (by rw [hc1.size]; decide)]
        rfl
      · split at hd
        · rename_i e; cases hd; subst e
          show (a1.tmps.setIfInBounds 8 _)[0]? = _
          rw [Array.getElem?_setIfInBounds_ne (by decide), hc1.tl 0 (.e (.c (.str s))) (by kernel_rfl)]; rfl
        · split at hd
          · rename_i e; cases hd; subst e
            show (a1.tmps.setIfInBounds 8 _)[1]? = _
            rw [Array.getElem?_setIfInBounds_ne (by decide), hc1.tl 1 (.e (.c (.sl a n cp))) (by kernel_rfl)]; rfl
          · cases hd
    by_cases hn : n > 1
    · refine gets_run tab_ok 60 (hc2 [true]) (holds_of (obs := [fun _ => decide ((n : Int) > 1) = true]) (by kernel_rfl) ⟨by simp; omega, trivial⟩) (fun a3 w3 hc3 => ?_)
      have hr3 := hc3.mem.bs (bs' := [⟨55, [.fv df dc]⟩, ⟨22, [.sl none 0 0]⟩]) (by kernel_rfl)
      have hn3 := (Over.env w2 _).rel hc3.mem
      -- the names forgotten; the region that appends
      have hkw : w3.heap[w2.heap.size + 1]? = some (.cells (plainR [.sl none 0 0]) 22 (0, 0)) := hr3.cells 1 _ rfl
      have hkd : Box B w3 w2.heap.size 55 (.func (.func df) #[] dc) := box_of (hg.keep ((hn1.trans hn2).keep B)).xs hr3 (i := 0) rfl rfl rfl
      have hc4 := hc3.anew B [(0, .e (.c (.str s))), (5, .e (.c (.rp ⟨w2.heap.size, 0, none⟩))), (6, .e (.c (.rp ⟨w2.heap.size + 1, 0, none⟩))), (1, .e (.c (.sl a n cp)))] [] [] ⟨by rfl, by rfl, by rfl, by rfl, trivial⟩
      clear hc3
      have hl3 := hl.keep ((hn12.trans hn3).keep B)
      have hll := hl.len
      have hlc := hl.cap
      refine gets_draw (S := Sees (env w3 [] noRo) []) (by kernel_rfl) ?_
      refine dgets_take (ε := env w3 [] noRo) (fuel := 3) (l' := #[false, true, true, false, false]) tab_ok (by kernel_rfl) (sees_none _ _) [1, 2] _
        { tl := [(0, .e (.c (.str s))), (5, .e (.c (.rp ⟨w2.heap.size, 0, none⟩))), (6, .e (.c (.rp ⟨w2.heap.size + 1, 0, none⟩))), (1, .e (.c (.sl a n cp)))], bs := [] }
        { tl := [(16, .e (.c (.sl (if cp = 1 then a else a.map (·.add (1 * 1))) (n - 1) (cp - 1)))), (15, .e (.c (.sl a n cp))), (0, .e (.c (.str s))), (5, .e (.c (.rp ⟨w2.heap.size, 0, none⟩))), (6, .e (.c (.rp ⟨w2.heap.size + 1, 0, none⟩))), (1, .e (.c (.sl a n cp)))], bs := [], ob := [fun _ => True ∧ (0 : Int) ≤ 1 ∧ (1 : Int) ≤ (n : Int)] } _
        (by kernel_rfl) rfl hc4.tl hc4.size (holds_of rfl ⟨⟨trivial, by omega, by omega⟩, trivial⟩) (fun a4 h4 h5 h6 => ?_)
      have hc5 : CRel (env { w3 with drawn := w3.drawn + 1 } [w2.heap.size + 1] noRo) Tryz.f12.ntmps { tl := [(16, .e (.c (.sl (if cp = 1 then a else a.map (·.add (1 * 1))) (n - 1) (cp - 1)))), (0, .e (.c (.str s))), (5, .e (.c (.rp ⟨w2.heap.size, 0, none⟩))), (6, .e (.c (.p 0 0)))], bs := [⟨22, [.sl none 0 0]⟩] } a4 { w3 with drawn := w3.drawn + 1 } := by
        refine ⟨fun d v hd => ?_, h5, h6.trans hc4.defers, rel1 hkw rfl⟩
        simp only [lk] at hd
        split at hd
        · rename_i e; cases hd; subst e; exact h4 16 _ (by rfl)
        · split at hd
          · rename_i e; cases hd; subst e; exact h4 0 _ (by rfl)
          · split at hd
            · rename_i e; cases hd; subst e; exact h4 5 _ (by rfl)
            · split at hd
              · rename_i e; cases hd; subst e; exact h4 6 (.e (.c (.rp ⟨w2.heap.size + 1, 0, none⟩))) (by rfl)
              · cases hd
      refine dgets_op (i := 0) (r := some (.e (.c (.sl none 0 0)))) (σ1 := { tl := [(16, .e (.c (.sl (if cp = 1 then a else a.map (·.add (1 * 1))) (n - 1) (cp - 1)))), (0, .e (.c (.str s))), (5, .e (.c (.rp ⟨w2.heap.size, 0, none⟩))), (6, .e (.c (.p 0 0)))], bs := [⟨22, [.sl none 0 0]⟩] })
        (σ2 := { tl := [(14, .e (.c (.sl none 0 0))), (16, .e (.c (.sl (if cp = 1 then a else a.map (·.add (1 * 1))) (n - 1) (cp - 1)))), (0, .e (.c (.str s))), (5, .e (.c (.rp ⟨w2.heap.size, 0, none⟩))), (6, .e (.c (.p 0 0)))], bs := [⟨22, [.sl none 0 0]⟩] })
        tab_ok hc5 (by kernel_rfl) rfl (by kernel_rfl) (by kernel_rfl) (by kernel_rfl) (fun p hp => by cases hp) (fun a6 w6 hc6 => ⟨sees_none _ _, ?_⟩)
      have hn6 : New w3 w6 := by
        have := hc5.mem.same hc6.mem
        exact ⟨this.os, this.tape, this.output, this.size, this.block⟩
      -- the append
      cases l with
      | nil => simp at hll; omega
      | cons s0 ws =>
      simp only [List.length_cons] at hll hlen
      have hws : StrsAt B w6 (if cp = 1 then a else a.map (·.add 1)) (n - 1) (cp - 1) ws := (hl3.keep (hn6.keep B)).tail
      obtain ⟨ad, had⟩ : ∃ ad, (if cp = 1 then a else a.map (·.add 1)) = some ad := by
        cases ws with
        | nil => simp at hll; omega
        | cons s1 ws' => obtain ⟨ad, h, _⟩ := hws.at_ 0 s1 rfl; exact ⟨ad, h⟩
      rw [had] at hws
      have hadd : (if cp = 1 then a else a.map (·.add (1 * 1))) = some ad := had
      obtain ⟨i9, hi9, hz9⟩ : ∃ i, Tryz.prog.info? 9 = some i ∧ i.zero.map (fun z => z.cells) = some #[.string ⟨#[]⟩] ∧ i.size = 1 ∧ i.bytes = 16 := by
        have := info9
        cases hi : Tryz.prog.info? 9 with
        | none => rw [hi] at this; cases this
        | some i => rw [hi] at this; simp only [Option.map_some, Option.some.injEq, Prod.mk.injEq] at this; exact ⟨i, rfl, this.1, this.2⟩
      obtain ⟨hz, hs9, hb9⟩ := hz9
      obtain ⟨z, hz1, hz2⟩ : ∃ z, i9.zero = some z ∧ z.cells = #[.string ⟨#[]⟩] := by
        cases h : i9.zero with
        | none => rw [h] at hz; cases hz
        | some z => rw [h] at hz; simp only [Option.map_some, Option.some.injEq] at hz; exact ⟨z, rfl, hz⟩
      have hl63 : (0 : Nat) + (n - 1) ≤ maxLen := Nat.le_trans (by omega : 0 + (n - 1) ≤ 1000000) (by decide)
      obtain ⟨v', w7, hrun, hown, hgrow, _, _⟩ := run_append_own_at (P := Tryz.prog) w6 w6.heap.size 22 22 9 i9 z 1 16 Tryz.underlying22 hi9 hz1 hs9 hb9 (by rw [hz2]; rfl) (by decide)
        (.slice none 0 0) 0 [] ⟨rfl, .inl ⟨rfl, rfl⟩⟩ ad (n - 1) (cp - 1) (ws.map Value.string) (by simp; omega) hws.news
        (fun u hu => by obtain ⟨x, _, rfl⟩ := List.mem_map.1 hu; rfl) hl63 (by omega) (Nat.le_refl _)
      have hblk7 : ∀ j, j < w6.heap.size → w7.heap[j]? = w6.heap[j]? := fun j hj => hgrow.block j hj (by simp [Value.ownBlock])
      have hn7 : New w6 w7 := ⟨hgrow.os, hgrow.tape, hgrow.output, hgrow.size, hblk7⟩
      rw [List.nil_append, Nat.zero_add] at hown
      obtain ⟨a', c', rfl, hws'⟩ := StrsAt.of_row (B := B) hown (fun k hk => (hg.keep (((hn1.trans hn2).trans (hn3.trans hn6)).keep B)).notx hk)
      have hev14 : a6.eval (.tmp 14) = .slice none 0 0 := ev_ok (σ := { tl := _, bs := [] }) (v := .e (.c (.sl none 0 0))) hc6.tl rfl
      have hev16 : a6.eval (.tmp 16) = .slice (some ad) (n - 1) (cp - 1) := by
        rw [← hadd]
        exact ev_ok (σ := { tl := _, bs := [] }) (v := .e (.c (.sl (if cp = 1 then a else a.map (·.add (1 * 1))) (n - 1) (cp - 1)))) hc6.tl rfl
      have hkw6 : w6.heap[w2.heap.size + 1]? = some (.cells (plainR [.sl none 0 0]) 22 (0, 0)) := by rw [hn6.block _ (lt_of_block hkw)]; exact hkw
      have hkw7 : w7.heap[w2.heap.size + 1]? = some (.cells (plainR [.sl none 0 0]) 22 (0, 0)) := by rw [hblk7 _ (lt_of_block hkw6)]; exact hkw6
      refine dgets_opR (i := 3) (w' := w7) (v := .slice a' (n - 1) c') (by kernel_rfl) rfl rfl ?_ ⟨sees_none _ _, ?_⟩
      · simp [execOp, resolve, invoke, builtin, hev14, hev16, hrun]
      have hc7 : CRel (env w7 [w2.heap.size + 1] noRo) Tryz.f12.ntmps { tl := [(17, .e (.c (.sl a' (n - 1) c'))), (0, .e (.c (.str s))), (5, .e (.c (.rp ⟨w2.heap.size, 0, none⟩))), (6, .e (.c (.p 0 0)))], bs := [⟨22, [.sl none 0 0]⟩] } (a6.put (some 17) (.slice a' (n - 1) c')) w7 := by
        refine ⟨fun d v hd => ?_, by rw [Act.put_size]; exact hc6.size, by rw [Act.put_defers']; exact hc6.defers, rel1 hkw7 rfl⟩
        simp only [lk] at hd
        split at hd
        · rename_i e; cases hd; subst e
          show (a6.tmps.setIfInBounds 17 _)[17]? = _
          rw [Array.getElem?_setIfInBounds_self_of_lt (by rw [hc6.size]; decide)]
          rfl
        · split at hd
          · rename_i e; cases hd; subst e
            show (a6.tmps.setIfInBounds 17 _)[0]? = _
            rw [Array.getElem?_setIfInBounds_ne (by decide)]; exact hc6.tl 0 _ (by rfl)
          · split at hd
            · rename_i e; cases hd; subst e
              show (a6.tmps.setIfInBounds 17 _)[5]? = _
              rw [Array.getElem?_setIfInBounds_ne (by decide)]; exact hc6.tl 5 _ (by rfl)
            · split at hd
              · rename_i e; cases hd; subst e
                show (a6.tmps.setIfInBounds 17 _)[6]? = _
                rw [Array.getElem?_setIfInBounds_ne (by decide)]; exact hc6.tl 6 (.e (.c (.p 0 0))) (by rfl)
              · cases hd
      refine dgets_op (i := 4) (r := none) (σ1 := { tl := [(17, .e (.c (.sl a' (n - 1) c'))), (0, .e (.c (.str s))), (5, .e (.c (.rp ⟨w2.heap.size, 0, none⟩))), (6, .e (.c (.p 0 0)))], bs := [⟨22, [.sl a' (n - 1) c']⟩] })
        (σ2 := { tl := [(17, .e (.c (.sl a' (n - 1) c'))), (0, .e (.c (.str s))), (5, .e (.c (.rp ⟨w2.heap.size, 0, none⟩))), (6, .e (.c (.p 0 0)))], bs := [⟨22, [.sl a' (n - 1) c']⟩] })
        tab_ok hc7 (by kernel_rfl) rfl (by kernel_rfl) (by kernel_rfl) (by kernel_rfl) (fun p hp => by cases hp) (fun a8 w8 hc8 => ⟨sees_none _ _, ?_⟩)
      refine dgets_done 0 (by kernel_rfl) ?_
      have hsz8 : w7.heap.size ≤ w8.heap.size := by rw [hc8.mem.size]; exact Nat.le_add_right _ _
      have hblk8 : ∀ j, j < w7.heap.size → j ≠ w2.heap.size + 1 → w8.heap[j]? = w7.heap[j]? := fun j hj hne => hc8.mem.keep j hj (fun i hi e => by
        have hi1 : i < 1 := hi
        have : i = 0 := by omega
        subst this
        exact hne e.symm)
      have hn27 : New w2 w7 := (hn3.trans hn6).trans hn7
      have hn28 : New w2 w8 := ⟨hc8.mem.os.trans hn27.os, hc8.mem.tape.trans hn27.tape, hc8.mem.output.trans hn27.output, Nat.le_trans hn27.size hsz8, fun j hj => by
        rw [hblk8 j (Nat.lt_of_lt_of_le hj hn27.size) (by omega)]; exact hn27.block j hj⟩
      have hkd8 : Box B w8 w2.heap.size 55 (.func (.func df) #[] dc) := by
        have h7 : Box B w7 w2.heap.size 55 (.func (.func df) #[] dc) := hkd.keep ((hn6.trans hn7).keep B)
        exact ⟨by rw [hblk8 _ (lt_of_block h7.1) (by omega)]; exact h7.1, h7.2⟩
      have hkw8 : Box B w8 (w2.heap.size + 1) 22 (.slice a' (n - 1) c') := ⟨hc8.mem.cells 0 _ rfl, (hg.keep ((hn1.trans hn2).keep B)).notx (Nat.le_add_right _ _)⟩
      have hws8 : StrsAt B w8 a' (n - 1) c' ws := by
        refine ⟨hws'.len, hws'.cap, fun j x hj => ?_⟩
        obtain ⟨ad', g1, g2, g3⟩ := hws'.at_ j x hj
        have hlt := World.block_lt_of_cell? w7 _ g2
        rw [addr_add_block] at hlt
        have hne : ad'.block ≠ w2.heap.size + 1 := by
          intro e
          have hb := hown.2
          rcases hb with ⟨hb1, hb2⟩ | ⟨g, cap, cur, hb1, _, hb3, _⟩
          · simp only [Value.slice.injEq] at hb1
            rw [hb1.1] at g1; cases g1
          · simp only [Value.slice.injEq] at hb1
            rw [hb1.1] at g1
            simp only [Option.some.injEq] at g1
            rw [← g1] at e
            simp only at e
            subst e
            rw [hkw7] at hb3
            simp only [Option.some.injEq, Obj.cells.injEq] at hb3
            exact absurd hb3.2.1 (by decide)
        have hbe := hblk8 ad'.block hlt hne
        refine ⟨ad', g1, ?_, ?_⟩
        · have e : w8.cell? (ad'.add j) = w7.cell? (ad'.add j) := World.cell?_of_block (by rw [addr_add_block]; exact hbe)
          rw [e]; exact g2
        · rcases g3 with g3 | ⟨cx, T, fr, g4, g5⟩
          · exact .inl g3
          · exact .inr ⟨cx, T, fr, by rw [hbe]; exact g4, g5⟩
      have hc9 := hc8.anew B [(0, .e (.c (.str s))), (5, .e (.c (.rp ⟨w2.heap.size, 0, none⟩))), (6, .e (.c (.rp ⟨w2.heap.size + 1, 0, none⟩)))] [] [] ⟨by rfl, by rfl, by rfl, trivial⟩
      exact new_end hg s (s0 :: ws) d hp (hn12.trans hn28) w2.heap.size (w2.heap.size + 1) df dc hkd8 (hrd.keep (hn28.keep B)) ⟨a', n - 1, c', hkw8, hws8⟩ hc9 (by kernel_rfl) (by kernel_rfl) (by kernel_rfl) (by kernel_rfl) (fun b => ⟨by kernel_rfl, by kernel_rfl, by kernel_rfl, by kernel_rfl⟩)
    · refine gets_run tab_ok 25 (hc2 [false]) (holds_of (obs := [fun _ => decide ((n : Int) > 1) = false]) (by kernel_rfl) ⟨by simp; omega, trivial⟩) (fun a3 w3 hc3 => ?_)
      have hr3 := hc3.mem.bs (bs' := [⟨55, [.fv df dc]⟩, ⟨22, [.sl none 0 0]⟩]) (by kernel_rfl)
      have hn3 := (Over.env w2 _).rel hc3.mem
      have hdrop : l.drop 1 = [] := List.drop_eq_nil_of_le (by have := hl.len; omega)
      have hc4 := hc3.anew B [(0, .e (.c (.str s))), (5, .e (.c (.rp ⟨w2.heap.size, 0, none⟩))), (6, .e (.c (.rp ⟨w2.heap.size + 1, 0, none⟩)))] [] [] ⟨by rfl, by rfl, by rfl, trivial⟩
      refine new_end hg s l d hp (hn12.trans hn3) w2.heap.size (w2.heap.size + 1) df dc (box_of (hg.keep ((hn1.trans hn2).keep B)).xs hr3 (i := 0) rfl rfl rfl) (hrd.keep (hn3.keep B)) ⟨none, 0, 0, box_of (hg.keep ((hn1.trans hn2).keep B)).xs hr3 (i := 1) rfl rfl rfl, by rw [hdrop]; exact ⟨rfl, Nat.le_refl _, fun j s h => by simp at h⟩⟩ hc4 (by kernel_rfl) (by kernel_rfl) (by kernel_rfl) (by kernel_rfl) (fun b => ⟨by kernel_rfl, by kernel_rfl, by kernel_rfl, by kernel_rfl⟩)

end Go.Proofs.YtoihipolfdhhnaaGreatDoor

namespace Go.Proofs.YtoihipolfdhhnaaGreatDoor

/-- Two machines share nothing. -/
def Sep (w : World) (b b2 : Nat) : Prop := ∀ k, Own w b k → ¬ Own w b2 k

theorem Own.lt {B : Bd} {b : Nat} {w : World} {m : M} (hm : MOk B w b m) {k : Nat} (h : Own w b k) : k < w.heap.size := by
  obtain ⟨_, _, _, _, _, hM⟩ := hm
  rcases (hM.own k).1 h with rfl | rfl
  · exact lt_of_block hM.cells
  · obtain ⟨_, h2⟩ := hM.owns
    rcases h2 with ⟨h3, _⟩ | ⟨g, cap, cur, h3, _, h5, _⟩
    · cases h3
    · simp only [Value.slice.injEq, Option.some.injEq, Addr.mk.injEq] at h3
      obtain ⟨⟨rfl, _⟩, _, _⟩ := h3
      exact lt_of_block h5

/-- One machine's work leaves the other. -/
theorem Evo.other {B : Bd} {b b2 : Nat} {w w' : World} {m m2 : M} (h : Evo w b w') (hm : MOk B w b m) (hm2 : MOk B w b2 m2) (hs : Sep w b b2) : MOk B w' b2 m2 ∧ Sep w' b b2 := by
  have hkeep := h.keep hm
  have hm20 := hm2
  obtain ⟨a, n, c, th, row, hM⟩ := hm2
  have hb2 : w'.heap[b2]? = w.heap[b2]? := h.block b2 (lt_of_block hM.cells) (fun ho => hs b2 ho (.inl rfl))
  have hcell : w'.cell? ⟨b2, 3, none⟩ = w.cell? ⟨b2, 3, none⟩ := World.cell?_of_block hb2
  refine ⟨⟨a, n, c, th, row, hM.base, by rw [hb2]; exact hM.cells, ?_, hM.todo.mono (fun k x hx => hx.keep hkeep), hM.len, thn_keep hM.thn hkeep, hM.glob.keep hkeep⟩, fun k ho ho2 => ?_⟩
  · obtain ⟨h1, h2⟩ := hM.owns
    refine ⟨h1, ?_⟩
    rcases h2 with h2 | ⟨g, cap, cur, h3, h4, h5, h6⟩
    · exact .inl h2
    · refine .inr ⟨g, cap, cur, h3, h4, ?_, h6⟩
      simp only [Value.slice.injEq] at h3
      rw [h.block g (lt_of_block h5) (fun ho => hs g ho ((hM.own g).2 (.inr h3.1)))]
      exact h5
  · have ho2' : Own w b2 k := by
      rcases ho2 with ho2 | ⟨n', c', ho2⟩
      · exact .inl ho2
      · exact .inr ⟨n', c', by rw [← hcell]; exact ho2⟩
    rcases h.fresh k ho with h1 | h1
    · exact hs k h1 ho2'
    · have := ho2'.lt hm20; omega

/-- A call of New. -/
theorem gets_new {B : Bd} {ε : Env} {nt : Nat} {f : FuncId} {k : List Item} {σ : St} {a : Act} {w : World} {R : Ending → World → Prop} (d : Nat) (orc : List Bool) (s : ByteArray) (l : List ByteArray) (sl : E) (ad : Option Addr) (n cp : Nat) (pd : Dp)
    (hc : CRel ε nt σ a w) (hg : GlobOk B w) (hx : callX k σ = some ⟨12, [.c (.str s), sl], [], #[]⟩) (hsl : sl.real ε.ρ = .slice ad n cp) (hl : StrsAt B w ad n cp l) (hlen : l.length ≤ 1000000) (hp : progOf s = some pd) (hd : dstX k = some d) (hdn : Nat.blt d nt = true)
    (hb : (σ.tl.all fun x => x.2.below σ.bs.length) = true) (hb' : (σ.bs.all fun b => b.cs.all (C.below σ.bs.length)) = true)
    (h : ∀ a' w' ku b, New w w' → w.heap.size ≤ ku → UOk B w' ku b ((m0 s).push (.start pd (l.drop 1))) → (∀ j, Own w' b j → w.heap.size ≤ j) → CRel (ε.next σ.bs.length w' noRo) nt { tl := (d, .e (.c (.rp ⟨ku, 0, none⟩))) :: σ.tl, bs := σ.bs, orc := orc } a' w' → Gets Tryz.prog f (popX k) a' w' R) :
    Gets Tryz.prog f k a w R := by
  refine gets_call hc hx (by kernel_rfl) (S := MadeU B s l w) (by
    have := new_calls (B := B) (w := w) hg s l ad n cp hl hlen
    have e : CallX.real ε.ρ ⟨12, [.c (.str s), sl], [], #[]⟩ = #[.string s, .slice ad n cp] := by simp only [CallX.real, List.map_cons, List.map_nil, hsl]; rfl
    rw [e]; exact this) (fun e w' ⟨h1, h2⟩ => ?_)
  rw [hp] at h2
  obtain ⟨ku, b, e1, e2, e3, e4⟩ := h2
  refine ⟨_, e1, ?_⟩
  rw [hd]
  refine h _ w' ku b h1 e2 e3 e4 ?_
  have hlt : ∀ i b, σ.bs[i]? = some b → ε.ρ i < w.heap.size := fun i b hi => lt_of_block (hc.mem.cells i b hi)
  have := CRel.next (ε := ε) (nt := nt) (tl := (d, .e (.c (.rp ⟨ku, 0, none⟩))) :: σ.tl) (bs' := σ.bs) (a := a.put (some d) (bp ku)) (w' := w') σ.bs.length noRo (hc.tl.lay hc.size d hdn _ rfl) (by rw [Act.put_size]; exact hc.size) (by rw [Act.put_defers']; exact hc.defers) rfl hc.mem.inj
    (fun i b hi => by rw [h1.block _ (hlt i b hi)]; exact hc.mem.cells i b hi) (fun _ _ h => by cases h) (by simp only [List.all_cons, hb]; rfl) hb'
  exact ⟨this.tl, this.size, this.defers, this.mem⟩

/-- A call of New for which there is no program. -/
theorem gets_new_none {B : Bd} {ε : Env} {nt : Nat} {f : FuncId} {k : List Item} {σ : St} {a : Act} {w : World} {R : Ending → World → Prop} (d : Nat) (orc : List Bool) (s : ByteArray) (l : List ByteArray) (sl : E) (ad : Option Addr) (n cp : Nat)
    (hc : CRel ε nt σ a w) (hg : GlobOk B w) (hx : callX k σ = some ⟨12, [.c (.str s), sl], [], #[]⟩) (hsl : sl.real ε.ρ = .slice ad n cp) (hl : StrsAt B w ad n cp l) (hlen : l.length ≤ 1000000) (hp : progOf s = none) (hd : dstX k = some d) (hdn : Nat.blt d nt = true)
    (hb : (σ.tl.all fun x => x.2.below σ.bs.length) = true) (hb' : (σ.bs.all fun b => b.cs.all (C.below σ.bs.length)) = true)
    (h : ∀ a' w', New w w' → CRel (ε.next σ.bs.length w' noRo) nt { tl := (d, .e (.c .nilp)) :: σ.tl, bs := σ.bs, orc := orc } a' w' → Gets Tryz.prog f (popX k) a' w' R) :
    Gets Tryz.prog f k a w R := by
  refine gets_call hc hx (by kernel_rfl) (S := MadeU B s l w) (by
    have := new_calls (B := B) (w := w) hg s l ad n cp hl hlen
    have e : CallX.real ε.ρ ⟨12, [.c (.str s), sl], [], #[]⟩ = #[.string s, .slice ad n cp] := by simp only [CallX.real, List.map_cons, List.map_nil, hsl]; rfl
    rw [e]; exact this) (fun e w' ⟨h1, h2⟩ => ?_)
  rw [hp] at h2
  refine ⟨_, h2, ?_⟩
  rw [hd]
  refine h _ w' h1 ?_
  have hlt : ∀ i b, σ.bs[i]? = some b → ε.ρ i < w.heap.size := fun i b hi => lt_of_block (hc.mem.cells i b hi)
  have := CRel.next (ε := ε) (nt := nt) (tl := (d, .e (.c .nilp)) :: σ.tl) (bs' := σ.bs) (a := a.put (some d) (.pointer none)) (w' := w') σ.bs.length noRo (hc.tl.lay hc.size d hdn _ rfl) (by rw [Act.put_size]; exact hc.size) (by rw [Act.put_defers']; exact hc.defers) rfl hc.mem.inj
    (fun i b hi => by rw [h1.block _ (hlt i b hi)]; exact hc.mem.cells i b hi) (fun _ _ h => by cases h) (by simp only [List.all_cons, hb]; rfl) hb'
  exact ⟨this.tl, this.size, this.defers, this.mem⟩

/-- A call of Next. -/
theorem gets_next {B : Bd} {ε : Env} {nt : Nat} {f : FuncId} {k : List Item} {σ : St} {a : Act} {w : World} {R : Ending → World → Prop} {m m' : M} (N d : Nat) (orc : List Bool) (r : Res) (ku b : Nat) {ad : Option Addr} {n cp : Nat} {rs : List C}
    (hc : CRel ε nt σ a w) (hu : UOk B w ku b m) (hm' : next N m r = m') (hok : okNext N m r) (hx : callX k σ = some ⟨14, [.c (.rp ⟨ku, 0, none⟩), .a rs], [], #[]⟩) (hrs : (E.a rs).real ε.ρ = resV r ad n cp) (hnm : StrsAt B w ad n cp r.names) (hd : dstX k = some d) (hdn : Nat.blt d nt = true)
    (hts : (σ.bs.all fun b => b.ty != 66 && b.ty != 84) = true)
    (hb : (σ.tl.all fun x => x.2.below σ.bs.length) = true) (hb' : (σ.bs.all fun b => b.cs.all (C.below σ.bs.length)) = true)
    (h : ∀ a' w', Evo w b w' → UOk B w' ku b m' → CRel (ε.next σ.bs.length w' noRo) nt { tl := (d, .e (.a m'.call.cs)) :: σ.tl, bs := σ.bs, orc := orc } a' w' → Gets Tryz.prog f (popX k) a' w' R) :
    Gets Tryz.prog f k a w R := by
  refine gets_call hc hx (by kernel_rfl) (S := UNextR B ku b w m') (by
    have := unext_calls hu r ad n cp hnm N hok
    rw [hm'] at this
    have e : CallX.real ε.ρ ⟨14, [.c (.rp ⟨ku, 0, none⟩), .a rs], [], #[]⟩ = #[bp ku, resV r ad n cp] := by simp only [CallX.real, List.map_cons, List.map_nil, hrs]; rfl
    rw [e]; exact this) (fun e w' ⟨e1, e2, e3⟩ => ⟨_, e1, ?_⟩)
  rw [hd]
  refine h _ w' e3 e2 ?_
  have hno : ∀ i nb, σ.bs[i]? = some nb → w'.heap[ε.ρ i]? = w.heap[ε.ρ i]? := by
    intro i nb hi
    have hcell := hc.mem.cells i nb hi
    have hty := List.all_eq_true.1 hts nb (List.mem_of_getElem? hi)
    simp only [Bool.and_eq_true, bne_iff_ne] at hty
    obtain ⟨_, _, _, _, _, _, _, hM⟩ := hu
    exact e3.block _ (lt_of_block hcell) (hM.notown hcell hty.1 hty.2)
  have := CRel.next (ε := ε) (nt := nt) (tl := (d, .e (.a m'.call.cs)) :: σ.tl) (bs' := σ.bs) (a := a.put (some d) (.agg (plainR m'.call.cs))) (w' := w') σ.bs.length noRo (hc.tl.lay hc.size d hdn _ rfl) (by rw [Act.put_size]; exact hc.size) (by rw [Act.put_defers']; exact hc.defers) rfl hc.mem.inj
    (fun i nb hi => by rw [hno i nb hi]; exact hc.mem.cells i nb hi) (fun _ _ h => by cases h) (by simp only [List.all_cons, hb]; rfl) hb'
  exact ⟨this.tl, this.size, this.defers, this.mem⟩

end Go.Proofs.YtoihipolfdhhnaaGreatDoor

namespace Go.Proofs.YtoihipolfdhhnaaGreatDoor

/-- A utility that was made in the statement's own time. -/
structure LU (B : Bd) (w0 w : World) (ku b : Nat) (m : M) : Prop where
  u : UOk B w ku b m
  own : ∀ j, Own w b j → w0.heap.size ≤ j

theorem LU.fresh {B : Bd} {w0 w w' : World} {ku b : Nat} {m : M} (h : LU B w0 w ku b m) (hn : New w w') : LU B w0 w' ku b m :=
  ⟨⟨h.u.1, h.u.2.1.keep (hn.keep B), (h.u.2.2.fresh hn).1⟩, fun j ho => h.own j (hfr h.u.2.2 hn j ho)⟩

theorem Sep.fresh {B : Bd} {w w' : World} {b b2 : Nat} {m m2 : M} (h : Sep w b b2) (hm : MOk B w b m) (hm2 : MOk B w b2 m2) (hn : New w w') : Sep w' b b2 :=
  fun k h1 h2 => h k (hfr hm hn k h1) (hfr hm2 hn k h2)

theorem Rel.grow {ε : Env} {bs ex : List NB} {w w' : World} (h : Rel ε bs w) (h' : Rel ε (bs ++ ex) w') : New w w' := by
  refine ⟨h'.os.trans h.os.symm, h'.tape.trans h.tape.symm, h'.output.trans h.output.symm, by rw [h.size, h'.size, List.length_append]; omega, fun k hk => ?_⟩
  by_cases hn : ∃ i, i < bs.length ∧ ε.ρ i = k
  · obtain ⟨i, hi, rfl⟩ := hn
    rw [h.cells i _ (List.getElem?_eq_getElem hi), h'.cells i _ (by rw [List.getElem?_append_left hi]; exact List.getElem?_eq_getElem hi)]
  · have hlt : k < ε.wb.heap.size := by
      rcases Nat.lt_or_ge k ε.wb.heap.size with h1 | h1
      · exact h1
      · have := h.size
        have h0 := h.n0
        exact absurd ⟨ε.n0 + (k - ε.wb.heap.size), by omega, by rw [h.new _ (by omega)]; omega⟩ hn
    have hno : ∀ i, i < ε.n0 → ε.ρ i ≠ k := fun i hi e => hn ⟨i, Nat.lt_of_lt_of_le hi h.n0, e⟩
    rw [h.keep k hlt hno, h'.keep k hlt hno]

theorem Over.step {w w1 w2 : World} {ε : Env} {bs : List NB} (h : Over w ε) (hr : Rel ε bs w1) (hn : New w w2) (ro : Addr → Option Value) : Over w (ε.next bs.length w2 ro) := by
  refine ⟨hn, fun i hi => ?_⟩
  have hi' : i < bs.length := hi
  simp only [Env.next, if_pos hi']
  rcases Nat.lt_or_ge i ε.n0 with h1 | h1
  · exact h.names i h1
  · rw [hr.new i h1]; have := h.new.size; omega

theorem law_next {B : Bd} {w0 w1 : World} {ε : Env} {nt : Nat} {f : FuncId} {k : List Item} {σ : St} {a : Act} {R : Ending → World → Prop} {m m' : M} (n N d : Nat) (orc : List Bool) (r : Res) (ku b : Nat) (tl : List (Nat × SV)) (ex : List NB) {ad : Option Addr} {nn cp : Nat} {rs : List C}
    (hov : Over w0 ε) (hc : CRel ε nt σ a w1) (hu : LU B w0 w1 ku b m) {obs : List (Env → Prop)} (hob : (run Tab nt n k σ).2.ob = obs) (hobs : AllP obs ε) (hbs : (run Tab nt n k σ).2.bs = σ.bs ++ ex)
    (hpick : tl.map (fun x => lk x.1 (run Tab nt n k σ).2.tl) = tl.map (fun x => some x.2))
    (hx : callX (run Tab nt n k σ).1 (run Tab nt n k σ).2 = some ⟨14, [.c (.rp ⟨ku, 0, none⟩), .a rs], [], #[]⟩) (hrs : (E.a rs).real ε.ρ = resV r ad nn cp) (hnm : StrsAt B w1 ad nn cp r.names)
    (hd : dstX (run Tab nt n k σ).1 = some d) (hdn : Nat.blt d nt = true) (hts : ((σ.bs ++ ex).all fun b => b.ty != 66 && b.ty != 84) = true)
    (hb : (tl.all fun x => x.2.below (σ.bs ++ ex).length) = true) (hb' : ((σ.bs ++ ex).all fun b => b.cs.all (C.below (σ.bs ++ ex).length)) = true)
    (hm' : next N m r = m') (hok : okNext N m r)
    (h : ∀ ε' a' w', Over w0 ε' → LU B w0 w' ku b m' → (∀ ku2 b2 m2, LU B w0 w1 ku2 b2 m2 → Sep w1 b b2 → LU B w0 w' ku2 b2 m2 ∧ Sep w' b b2) → CRel ε' nt { tl := (d, .e (.a m'.call.cs)) :: tl, bs := σ.bs ++ ex, orc := orc } a' w' → Gets Tryz.prog f (popX (run Tab nt n k σ).1) a' w' R) :
    Gets Tryz.prog f k a w1 R := by
  refine gets_run tab_ok n hc (holds_of hob hobs) (fun a2 w2 hc2 => ?_)
  have hr2 := hc2.mem.bs hbs
  have hn2 := hc.mem.grow hr2
  have hu2 := hu.fresh hn2
  have hN2 := hov.rel hr2
  have hx' : callX (run Tab nt n k σ).1 (run Tab nt n k σ).2 = some ⟨14, [.c (.rp ⟨ku, 0, none⟩), .a rs], [], #[]⟩ := hx
  refine gets_call hc2 hx' (by kernel_rfl) (S := UNextR B ku b w2 m') (by
    have := unext_calls hu2.u r ad nn cp (hnm.keep (hn2.keep B)) N hok
    rw [hm'] at this
    have e : CallX.real ε.ρ ⟨14, [.c (.rp ⟨ku, 0, none⟩), .a rs], [], #[]⟩ = #[bp ku, resV r ad nn cp] := by simp only [CallX.real, List.map_cons, List.map_nil, hrs]; rfl
    rw [e]; exact this) (fun e w' ⟨e1, e2, e3⟩ => ⟨_, e1, ?_⟩)
  rw [hd]
  have hN3 : New w0 w' := Evo.new hN2 e3 hu2.own
  refine h (ε.next (σ.bs ++ ex).length w' noRo) _ w' (hov.step hr2 hN3 noRo) ⟨e2, fun j ho => ?_⟩ (fun ku2 b2 m2 hu3 hs => ?_) ?_
  · rcases e3.fresh j ho with h1 | h1
    · exact hu2.own j h1
    · have := hN2.size; omega
  · have hu3' := hu3.fresh hn2
    have hs' := hs.fresh hu.u.2.2 hu3.u.2.2 hn2
    obtain ⟨h1, h2⟩ := e3.other hu2.u.2.2 hu3'.u.2.2 hs'
    refine ⟨⟨⟨hu3.u.1, hu3'.u.2.1.keep (e3.keep hu2.u.2.2), h1⟩, fun j ho => ?_⟩, h2⟩
    obtain ⟨_, _, _, _, _, hM⟩ := hu3'.u.2.2
    have hb2 : w'.heap[b2]? = w2.heap[b2]? := e3.block b2 (lt_of_block hM.cells) (fun ho => hs' b2 ho (.inl rfl))
    have hcell : w'.cell? ⟨b2, 3, none⟩ = w2.cell? ⟨b2, 3, none⟩ := World.cell?_of_block hb2
    refine hu3'.own j ?_
    rcases ho with ho | ⟨n', c', ho⟩
    · exact .inl ho
    · exact .inr ⟨n', c', by rw [← hcell]; exact ho⟩
  · have hno : ∀ i nb, (σ.bs ++ ex)[i]? = some nb → w'.heap[ε.ρ i]? = w2.heap[ε.ρ i]? := by
      intro i nb hi
      have hcell := hr2.cells i nb hi
      have hty := List.all_eq_true.1 hts nb (List.mem_of_getElem? hi)
      simp only [Bool.and_eq_true, bne_iff_ne] at hty
      obtain ⟨_, _, _, _, _, hM⟩ := hu2.u.2.2
      exact e3.block _ (lt_of_block hcell) (hM.notown hcell hty.1 hty.2)
    have hc2' := hc2.pick tl (σ.bs ++ ex) hpick hbs
    have := CRel.next (ε := ε) (nt := nt) (tl := (d, .e (.a m'.call.cs)) :: tl) (bs' := σ.bs ++ ex) (a := a2.put (some d) (.agg (plainR m'.call.cs))) (w' := w') (σ.bs ++ ex).length noRo (hc2'.tl.lay hc2.size d hdn _ rfl) (by rw [Act.put_size]; exact hc2.size) (by rw [Act.put_defers']; exact hc2.defers) rfl hr2.inj
      (fun i nb hi => by rw [hno i nb hi]; exact hr2.cells i nb hi) (fun _ _ h => by cases h) (by simp only [List.all_cons, hb]; rfl) hb'
    exact ⟨this.tl, this.size, this.defers, this.mem⟩

end Go.Proofs.YtoihipolfdhhnaaGreatDoor

namespace Go.Proofs.YtoihipolfdhhnaaGreatDoor

abbrev sCat : ByteArray := ⟨#[99, 97, 116]⟩
abbrev sA : ByteArray := ⟨#[47, 97]⟩
abbrev sX : ByteArray := ⟨#[120]⟩
abbrev sFalse : ByteArray := ⟨#[102, 97, 108, 115, 101]⟩
abbrev sDog : ByteArray := ⟨#[100, 111, 103]⟩

def u0 : M := (m0 sCat).push (.start .cat [sA])
def u1 : M := ⟨sCat, 0, [.exit0, .each [sA] .cat], some (.tries sA .cat), { op := 2, path := sA, want := 4 }, false⟩
def u2 : M := ⟨sCat, 0, [.exit0, .each [sA] .cat], some (.pours 4 1 (.closes [4])), { op := 4, fd := 4, n := 256 }, false⟩
def u3 : M := ⟨sCat, 0, [.exit0, .each [sA] .cat], some (.say 1 sX (.pours 4 1 (.closes [4]))), { op := 5, fd := 1, text := sX }, false⟩
def u5 : M := ⟨sCat, 0, [.exit0, .each [sA] .cat], some (.closes [4]), { op := 3, fd := 4 }, false⟩
def u6 : M := ⟨sCat, 0, [], none, { op := 20, n := 0 }, true⟩
def v0 : M := (m0 sFalse).push (.start .fls [])
def v1 : M := ⟨sFalse, 1, [], none, { op := 20, n := 1 }, true⟩

theorem prog_cat : progOf sCat = some .cat := by simp [progOf]
theorem prog_false : progOf sFalse = some .fls := by simp [progOf]
theorem prog_dog : progOf sDog = none := by simp [progOf]

theorem n1 : next 10 u0 {} = u1 := by
  simp [next, u0, m0, M.push, turn, runK, runD, runEach, runE, M.tries, M.sys, u1]
theorem k1 : okNext 10 u0 {} := by
  simp [okNext, u0, m0, M.push, okTurn, okK, okD, okEach, okE, runK, runD, runEach, runE, M.tries, M.sys]
theorem n2 : next 10 u1 { n := 4 } = u2 := by
  simp [next, u1, u2, turn, runR, M.tried, M.pours, M.sys]
theorem k2 : okNext 10 u1 { n := 4 } := by
  simp [okNext, u1, okTurn, okR, runR, M.tried, M.pours, M.sys, ByteArray.size]
theorem n3 : next 10 u2 { text := sX } = u3 := by
  simp [next, u2, u3, turn, runR, M.poured, M.say, M.sys]
theorem k3 : okNext 10 u2 { text := sX } := by
  simp [okNext, u2, okTurn, okR, okK, runR, M.poured, M.say, M.sys]
theorem n4 : next 10 u3 { n := 1 } = u2 := by
  simp [next, u3, u2, turn, runR, runK, M.said, M.pours, M.sys, ByteArray.size]
theorem k4 : okNext 10 u3 { n := 1 } := by
  simp [okNext, u3, okTurn, okR, okK, runR, runK, M.said, M.pours, M.sys, ByteArray.size]
theorem n5 : next 10 u2 {} = u5 := by
  simp [next, u2, u5, turn, runR, runK, M.poured, M.closes, M.sys]
theorem k5 : okNext 10 u2 {} := by
  simp [okNext, u2, okTurn, okR, okK, runR, runK, M.poured, M.closes, M.sys]
theorem n6 : next 10 u5 {} = u6 := by
  simp [next, u5, u6, turn, runR, runK, runEach, M.closes, M.exit]; decide
theorem k6 : okNext 10 u5 {} := by
  simp [okNext, u5, okTurn, okR, okK, okEach, runR, runK, runEach, M.closes, M.exit]
theorem n7 : next 10 v0 {} = v1 := by
  simp [next, v0, v1, m0, M.push, turn, runK, runD, M.exit]; decide
theorem k7 : okNext 10 v0 {} := by
  simp [okNext, v0, m0, M.push, okTurn, okK, okD, runK, runD, M.exit]

end Go.Proofs.YtoihipolfdhhnaaGreatDoor

namespace Go.Proofs.YtoihipolfdhhnaaGreatDoor

theorem strsAt_new {B : Bd} {ε : Env} {bs : List NB} {w : World} (h : Rel ε bs w) (i : Nat) (l : List ByteArray) (hi : bs[i]? = some ⟨9, l.map .str⟩) (hx : ε.ρ i ∉ B.x) : StrsAt B w (some ⟨ε.ρ i, 0, none⟩) l.length l.length l := by
  have hc := h.cells i _ hi
  refine ⟨rfl, Nat.le_refl _, fun j s hj => ⟨_, rfl, ?_, .inr ⟨_, _, _, hc, by show (9 : Nat) ≠ 66; decide, by show (9 : Nat) ≠ 84; decide, by show (9 : Nat) ≠ 39; decide, hx⟩⟩⟩
  rw [addr_add]
  simp [World.cell?, hc, hj, C.real]

theorem strsAt_nil (B : Bd) (w : World) : StrsAt B w none 0 0 [] := ⟨rfl, Nat.le_refl _, fun j s h => by simp at h⟩

theorem shown_calls {B : Bd} (w : World) (hg : GlobOk B w) : Calls Tryz.prog 10 #[] w (Gives (.bool true) (fun _ => True) w) := by
  refine enter (B := B) tab_ok [] [] [] 20 Tryz.func10 rfl rfl rfl (obs := []) (by kernel_rfl) trivial (fun a1 w1 hc1 => ?_)
  replace hc1 := hc1.pickx [(10, .e (.c (.nsl 0 0 2 2)))] [⟨9, [.str sCat, .str sA]⟩] [] (by kernel_rfl) (by kernel_rfl)
  have hov1 := Over.env w (sro B w)
  have hN1 := hov1.rel hc1.mem
  -- the first New
  refine gets_new 11 [] sCat [sCat, sA] (.c (.nsl 0 0 2 2)) (some ⟨w.heap.size, 0, none⟩) 2 2 .cat hc1 (hg.keep (hN1.keep B)) (by kernel_rfl) rfl (strsAt_new (B := B) hc1.mem 0 [sCat, sA] rfl (hg.notx (Nat.le_add_right _ _))) (by decide) prog_cat (by kernel_rfl) (by kernel_rfl) (by kernel_rfl) (by kernel_rfl) (fun a2 w2 ku bu hn2 hku hu hown hc2 => ?_)
  have hN2 := hN1.trans hn2
  have hov2 := hov1.step hc1.mem hN2 noRo
  have hL2 : LU B w w2 ku bu u0 := ⟨hu, fun j ho => Nat.le_trans hN1.size (hown j ho)⟩
  generalize (env0 B w).next 1 w2 noRo = ε2 at hc2 hov2
  refine gets_run tab_ok 10 hc2 (holds_of (obs := []) (by kernel_rfl) trivial) (fun a3 w3 hc3 => ?_)
  have hn3 := hc2.mem.same (hc3.mem.bs (bs' := [⟨9, [.str sCat, .str sA]⟩]) (by kernel_rfl))
  have hL3 := hL2.fresh hn3
  replace hc3 := hc3.pickx [(1, .e (.c (.rp ⟨ku, 0, none⟩)))] [⟨9, [.str sCat, .str sA]⟩] [] (by kernel_rfl) (by kernel_rfl)
  -- the second New
  refine gets_new 12 [] sFalse [] (.c (.sl none 0 0)) none 0 0 .fls hc3 (hg.keep ((hN2.trans hn3).keep B)) (by kernel_rfl) rfl (strsAt_nil B w3) (by decide) prog_false (by kernel_rfl) (by kernel_rfl) (by kernel_rfl) (by kernel_rfl) (fun a4 w4 kv bv hn4 hkv hv hownv hc4 => ?_)
  have hN4 := (hN2.trans hn3).trans hn4
  have hov4 := hov2.step hc3.mem hN4 noRo
  have hL4 := hL3.fresh hn4
  have hV4 : LU B w w4 kv bv v0 := ⟨hv, fun j ho => Nat.le_trans (hN2.trans hn3).size (hownv j ho)⟩
  have hs4 : Sep w4 bu bv := fun j h1 h2 => by
    have h3 := (hfr hL3.u.2.2 hn4 j h1).lt hL3.u.2.2
    have h4 := hownv j h2
    omega
  generalize ε2.next 1 w4 noRo = ε4 at hc4 hov4
  refine gets_run tab_ok 30 hc4 (holds_of (obs := []) (by kernel_rfl) trivial) (fun a5 w5 hc5 => ?_)
  have hn5 := hc4.mem.same (hc5.mem.bs (bs' := [⟨9, [.str sCat, .str sA]⟩]) (by kernel_rfl))
  have hL5 := hL4.fresh hn5
  have hV5 := hV4.fresh hn5
  have hs5 := hs4.fresh hL4.u.2.2 hV4.u.2.2 hn5
  replace hc5 := hc5.pickx [(1, .e (.c (.rp ⟨ku, 0, none⟩))), (2, .e (.c (.rp ⟨kv, 0, none⟩))), (19, .e (.c (.bool false)))] [⟨9, [.str sCat, .str sA]⟩] [] (by kernel_rfl) (by kernel_rfl)
  -- the third New: no program
  refine gets_new_none 20 [] sDog [] (.c (.sl none 0 0)) none 0 0 hc5 (hg.keep ((hN4.trans hn5).keep B)) (by kernel_rfl) rfl (strsAt_nil B w5) (by decide) prog_dog (by kernel_rfl) (by kernel_rfl) (by kernel_rfl) (by kernel_rfl) (fun a6 w6 hn6 hc6 => ?_)
  have hN6 := (hN4.trans hn5).trans hn6
  have hov6 := hov4.step hc5.mem hN6 noRo
  have hL6 := hL5.fresh hn6
  have hV6 := hV5.fresh hn6
  have hs6 := hs5.fresh hL5.u.2.2 hV5.u.2.2 hn6
  generalize ε4.next 1 w6 noRo = ε6 at hc6 hov6
  -- the calls of Next
  refine law_next 40 10 25 [] {} ku bu [(1, .e (.c (.rp ⟨ku, 0, none⟩))), (2, .e (.c (.rp ⟨kv, 0, none⟩)))] [] (rs := ({} : Res).cs none 0 0) (ad := none) (nn := 0) (cp := 0) (obs := []) hov6 hc6 hL6 (by kernel_rfl) trivial (by kernel_rfl) (by kernel_rfl) (by kernel_rfl) rfl (strsAt_nil B w6) (by kernel_rfl) (by kernel_rfl) (by kernel_rfl) (by kernel_rfl) (by kernel_rfl) n1 k1
    (fun ε7 a7 w7 hov7 hL7 hoth7 hc7 => ?_)
  obtain ⟨hV7, hs7⟩ := hoth7 kv bv v0 hV6 hs6
  clear hoth7
  refine law_next 20 10 28 [] { n := 4 } ku bu [(1, .e (.c (.rp ⟨ku, 0, none⟩))), (2, .e (.c (.rp ⟨kv, 0, none⟩))), (3, .e (.c (.p 1 0)))] [⟨39, u1.call.cs⟩] (rs := ({ n := 4 } : Res).cs none 0 0) (ad := none) (nn := 0) (cp := 0) (obs := []) hov7 hc7 hL7 (by kernel_rfl) trivial (by kernel_rfl) (by kernel_rfl) (by kernel_rfl) rfl (strsAt_nil B w7) (by kernel_rfl) (by kernel_rfl) (by kernel_rfl) (by kernel_rfl) (by kernel_rfl) n2 k2
    (fun ε8 a8 w8 hov8 hL8 hoth8 hc8 => ?_)
  obtain ⟨hV8, hs8⟩ := hoth8 kv bv v0 hV7 hs7
  clear hoth8
  refine law_next 20 10 31 [] { text := sX } ku bu [(1, .e (.c (.rp ⟨ku, 0, none⟩))), (2, .e (.c (.rp ⟨kv, 0, none⟩))), (3, .e (.c (.p 1 0))), (4, .e (.c (.p 2 0)))] [⟨39, u2.call.cs⟩] (rs := ({ text := sX } : Res).cs none 0 0) (ad := none) (nn := 0) (cp := 0) (obs := []) hov8 hc8 hL8 (by kernel_rfl) trivial (by kernel_rfl) (by kernel_rfl) (by kernel_rfl) rfl (strsAt_nil B w8) (by kernel_rfl) (by kernel_rfl) (by kernel_rfl) (by kernel_rfl) (by kernel_rfl) n3 k3
    (fun ε9 a9 w9 hov9 hL9 hoth9 hc9 => ?_)
  obtain ⟨hV9, hs9⟩ := hoth9 kv bv v0 hV8 hs8
  clear hoth9
  refine law_next 20 10 34 [] { n := 1 } ku bu [(1, .e (.c (.rp ⟨ku, 0, none⟩))), (2, .e (.c (.rp ⟨kv, 0, none⟩))), (3, .e (.c (.p 1 0))), (4, .e (.c (.p 2 0))), (5, .e (.c (.p 3 0)))] [⟨39, u3.call.cs⟩] (rs := ({ n := 1 } : Res).cs none 0 0) (ad := none) (nn := 0) (cp := 0) (obs := []) hov9 hc9 hL9 (by kernel_rfl) trivial (by kernel_rfl) (by kernel_rfl) (by kernel_rfl) rfl (strsAt_nil B w9) (by kernel_rfl) (by kernel_rfl) (by kernel_rfl) (by kernel_rfl) (by kernel_rfl) n4 k4
    (fun ε10 a10 w10 hov10 hL10 hoth10 hc10 => ?_)
  obtain ⟨hV10, hs10⟩ := hoth10 kv bv v0 hV9 hs9
  clear hoth10
  refine law_next 20 10 37 [] {} ku bu [(1, .e (.c (.rp ⟨ku, 0, none⟩))), (2, .e (.c (.rp ⟨kv, 0, none⟩))), (3, .e (.c (.p 1 0))), (4, .e (.c (.p 2 0))), (5, .e (.c (.p 3 0))), (6, .e (.c (.p 4 0)))] [⟨39, u2.call.cs⟩] (rs := ({} : Res).cs none 0 0) (ad := none) (nn := 0) (cp := 0) (obs := []) hov10 hc10 hL10 (by kernel_rfl) trivial (by kernel_rfl) (by kernel_rfl) (by kernel_rfl) rfl (strsAt_nil B w10) (by kernel_rfl) (by kernel_rfl) (by kernel_rfl) (by kernel_rfl) (by kernel_rfl) n5 k5
    (fun ε11 a11 w11 hov11 hL11 hoth11 hc11 => ?_)
  obtain ⟨hV11, hs11⟩ := hoth11 kv bv v0 hV10 hs10
  clear hoth11
  refine law_next 20 10 40 [] {} ku bu [(1, .e (.c (.rp ⟨ku, 0, none⟩))), (2, .e (.c (.rp ⟨kv, 0, none⟩))), (3, .e (.c (.p 1 0))), (4, .e (.c (.p 2 0))), (5, .e (.c (.p 3 0))), (6, .e (.c (.p 4 0))), (7, .e (.c (.p 5 0)))] [⟨39, u5.call.cs⟩] (rs := ({} : Res).cs none 0 0) (ad := none) (nn := 0) (cp := 0) (obs := []) hov11 hc11 hL11 (by kernel_rfl) trivial (by kernel_rfl) (by kernel_rfl) (by kernel_rfl) rfl (strsAt_nil B w11) (by kernel_rfl) (by kernel_rfl) (by kernel_rfl) (by kernel_rfl) (by kernel_rfl) n6 k6
    (fun ε12 a12 w12 hov12 hL12 hoth12 hc12 => ?_)
  obtain ⟨hV12, hs12⟩ := hoth12 kv bv v0 hV11 hs11
  clear hoth12
  refine law_next 20 10 43 [true, true, true, true, true, true, true, true, true, true, true, true] {} kv bv [(1, .e (.c (.rp ⟨ku, 0, none⟩))), (2, .e (.c (.rp ⟨kv, 0, none⟩))), (3, .e (.c (.p 1 0))), (4, .e (.c (.p 2 0))), (5, .e (.c (.p 3 0))), (6, .e (.c (.p 4 0))), (7, .e (.c (.p 5 0))), (8, .e (.c (.p 6 0)))] [⟨39, u6.call.cs⟩] (rs := ({} : Res).cs none 0 0) (ad := none) (nn := 0) (cp := 0) (obs := []) hov12 hc12 hV12 (by kernel_rfl) trivial (by kernel_rfl) (by kernel_rfl) (by kernel_rfl) rfl (strsAt_nil B w12) (by kernel_rfl) (by kernel_rfl) (by kernel_rfl) (by kernel_rfl) (by kernel_rfl) n7 k7
    (fun ε13 a13 w13 hov13 _ _ hc13 => ?_)
  refine gets_run tab_ok 100 hc13 (holds_of (obs := [fun _ => ((2 : Int) == 2) = true, fun _ => (sA.toList == sA.toList) = true, fun _ => ((4 : Int) == 4) = true, fun _ => ((4 : Int) == 4) = true, fun _ => ((5 : Int) == 5) = true, fun _ => (sX.toList == sX.toList) = true, fun _ => ((4 : Int) == 4) = true, fun _ => ((3 : Int) == 3) = true, fun _ => ((20 : Int) == 20) = true, fun _ => ((0 : Int) == 0) = true, fun _ => ((20 : Int) == 20) = true, fun _ => ((1 : Int) == 1) = true]) (by kernel_rfl)
    ⟨rfl, by simp, rfl, rfl, rfl, by simp, rfl, rfl, rfl, rfl, rfl, rfl, trivial⟩) (fun a14 w14 hc14 => ?_)
  exact gets_fin tab_ok (l := [.c (.bool true)]) hc14 Tryz.func10 (by kernel_rfl) (by kernel_rfl) ⟨rfl, hov13.rel hc14.mem, trivial⟩

end Go.Proofs.YtoihipolfdhhnaaGreatDoor

namespace Go.Proofs.YtoihipolfdhhnaaGreatDoor

/-- An operation that touches no memory and whose value is known. -/
theorem gets_val {P : Program} {ε : Env} {nt : Nat} {f : FuncId} {k : List Item} {σ : St} {a : Act} {w : World} {R : Ending → World → Prop} {d : Nat} {op : Op} {ty : TypeId} (v : SV) (hc : CRel ε nt σ a w)
    (ho : opX k = some (some d, op, ty)) (hrun : ∀ pos after, (execOp a.eval ⟨some d, op, ty, pos, after, none⟩).run P w = .ok (.value (v.real ε.ρ)) w) (hd : Nat.blt d nt = true)
    (h : ∀ a', CRel ε nt { σ with tl := (d, v) :: σ.tl } a' w → Gets P f (popX k) a' w R) : Gets P f k a w R := by
  refine gets_opX ho hrun (h _ ⟨hc.tl.lay hc.size d hd v rfl, by rw [Act.put_size]; exact hc.size, by rw [Act.put_defers']; exact hc.defers, hc.mem⟩)

theorem run_byte {P : Program} {w : World} {a : Act} {src dst e : TypeId} {x : Operand} {g : Nat} {c : Nat} (hc : c < 256) (hx : a.eval x = .slice (some ⟨g, 0, none⟩) 1 1) (hs : P.underlying src = some (.slice e)) (he : P.underlying e = some (.int .u8)) (hd : P.underlying dst = some .string)
    (hcell : w.heap[g]? = some (.cells #[.int .u8 (c : Int)] e (0, 0))) (d : Option Nat) (ty : TypeId) : ∀ pos after,
    (execOp a.eval ⟨d, .convert src dst x, ty, pos, after, none⟩).run P w = .ok (.value (.string ⟨#[UInt8.ofNat c]⟩)) w := by
  intro pos after
  have hn : (UInt8.ofNat c).toNat = c := by simp; omega
  have := run_convert_bytes_back (P := P) w src dst e ⟨g, 0, none⟩ 1 [UInt8.ofNat c] hs he hd (fun j hj => by
    have : j = 0 := by simpa using hj
    subst this
    simp [World.cell?, hcell, hn, Addr.add])
  simp only [List.length_cons, List.length_nil, Nat.zero_add] at this
  simp [execOp, hx, this]

noncomputable def digHead : List Item := (loopX (run Tab Tryz.f17.ntmps 60 (match Tryz.f17.body with | some (.seq _ (.seq _ (.seq _ (.seq _ c)))) => [.code c] | _ => []) { tl := [(0, .e (.c (.int .i64 0))), (3, .e (.c (.int .u64 0)))], bs := [], orc := [false] }).1).getD []

/-- What Digits comes to. -/
abbrev DigR (w0 : World) (r : ByteArray) : Ending → World → Prop := Gives (.string r) (fun _ => True) w0

def sign (n : Int) : ByteArray := if n < 0 then ⟨#[45]⟩ else ⟨#[]⟩

theorem digs_step (u : Nat) (h : ¬ u ≤ 9) (s : ByteArray) : (⟨(Lib.decDigits (u / 10)).toArray⟩ : ByteArray) ++ (⟨#[UInt8.ofNat (48 + u % 10)]⟩ ++ s) = ⟨(Lib.decDigits u).toArray⟩ ++ s := by
  rw [Lib.decDigits.eq_def u, dif_neg (by omega), ← ByteArray.append_assoc]
  congr 1

theorem wrapu8 {c : Nat} (h : c < 256) : IntKind.u8.wrap (IntKind.u64.wrap (c : Int)) = (c : Int) := by
  simp only [IntKind.wrap, IntKind.bits, IntKind.signed]
  simp
  omega

theorem dig_exit (n : Int) (w0 : World) (u : Nat) (s : ByteArray) (w : World) (a : Act) (h9 : u ≤ 9) (hs : s.size ≤ 40) (hN : New w0 w) (hc : CRel (env0 ⟨0, []⟩ w) Tryz.f17.ntmps { tl := [(0, .e (.c (.int .i64 n))), (3, .e (.c (.int .u64 (u : Int)))), (4, .e (.c (.str s)))], bs := [] } a w) :
    Gets Tryz.prog 17 digHead a w (DigR w0 (sign n ++ (⟨(Lib.decDigits u).toArray⟩ ++ s))) := by
  have hcv : IntKind.u8.wrap (IntKind.u64.wrap (48 + (u : Int))) = ((48 + u : Nat) : Int) := by rw [← wrapu8 (c := 48 + u) (by omega)]; rfl
  refine gets_run tab_ok 60 (hc.feed [false] []) (holds_of (obs := [fun _ => decide ((↑u : Int) > (9 : Int)) = false]) (by kernel_rfl) ⟨(by simp; omega), trivial⟩) (fun a4 w4 hc4 => ?_)
  replace hc4 := hc4.pickx [(0, .e (.c (.int .i64 n))), (4, .e (.c (.str s))), (26, .e (.c (.nsl 0 0 1 1)))] [⟨5, [.int .u8 (IntKind.wrap IntKind.u8 (IntKind.wrap IntKind.u64 ((48 : Int) + (↑u : Int))))]⟩] [] (by kernel_rfl) (by kernel_rfl)
  refine gets_val (.e (.c (.str ⟨#[UInt8.ofNat (48 + u)]⟩))) hc4 (d := 27) (op := .convert 76 9 (.tmp 26)) (ty := 9) (by kernel_rfl) (run_byte (c := 48 + u) (by omega) (ev_ok (v := .e (.c (.nsl 0 0 1 1))) hc4.tl (x := .tmp 26) rfl) Tryz.underlying76 Tryz.underlying5 Tryz.underlying9 (by rw [← hcv]; exact hc4.mem.cells 0 _ rfl) _ _) (by kernel_rfl) (fun a5 hc5 => ?_)
  have hN5 := hN.trans ((Over.env w _).rel hc5.mem)
  have hlen : (⟨#[UInt8.ofNat (48 + u)]⟩ : ByteArray).size = 1 := rfl
  have hd : (⟨(Lib.decDigits u).toArray⟩ : ByteArray) = ⟨#[UInt8.ofNat (48 + u)]⟩ := by rw [Lib.decDigits.eq_def u, dif_pos (by omega)]
  rw [hd]
  have o1 : (((⟨#[UInt8.ofNat (48 + u)]⟩ : ByteArray).size + s.size : Nat) : Int) ≤ 9223372036854775807 := by rw [hlen]; omega
  have hov5 := Over.env w (sro ⟨0, []⟩ w)
  by_cases hn : n < 0
  · have o3 : (((⟨#[45]⟩ : ByteArray).size + (⟨#[UInt8.ofNat (48 + u)]⟩ ++ s : ByteArray).size : Nat) : Int) ≤ 9223372036854775807 := by
      have h1 : (⟨#[45]⟩ : ByteArray).size = 1 := rfl
      rw [ByteArray.size_append, h1, hlen]; omega
    refine gets_run tab_ok 60 (hc5.feed [true] []) (holds_of (obs := [fun _ => (↑(ByteArray.size { data := #[UInt8.ofNat ((48 : Nat) + u)] } + ByteArray.size s) : Int) ≤ (9223372036854775807 : Int), fun _ => decide (n < (0 : Int)) = true, fun _ => (↑(ByteArray.size { data := #[(45 : UInt8)] } + ByteArray.size ({ data := #[UInt8.ofNat ((48 : Nat) + u)] } ++ s)) : Int) ≤ (9223372036854775807 : Int)]) (by kernel_rfl) ⟨o1, (by simp; omega), o3, trivial⟩) (fun a7 w7 hc7 => ?_)
    replace hc7 := hc7.pickx [(2, .e (.c (.str ({ data := #[(45 : UInt8)] } ++ ({ data := #[UInt8.ofNat ((48 : Nat) + u)] } ++ s)))))] [⟨5, [.int .u8 (IntKind.wrap IntKind.u8 (IntKind.wrap IntKind.u64 ((48 : Int) + (↑u : Int))))]⟩] [] (by kernel_rfl) (by kernel_rfl)
    refine gets_fin tab_ok (l := [.c (.str (⟨#[45]⟩ ++ (⟨#[UInt8.ofNat (48 + u)]⟩ ++ s)))]) hc7 Tryz.func17 (by kernel_rfl) (by kernel_rfl) ⟨?_, hN.trans (hov5.rel hc7.mem), trivial⟩
    have hsg : sign n = ⟨#[45]⟩ := if_pos hn
    rw [hsg]; rfl
  · refine gets_run tab_ok 60 (hc5.feed [false] []) (holds_of (obs := [fun _ => (↑(ByteArray.size { data := #[UInt8.ofNat ((48 : Nat) + u)] } + ByteArray.size s) : Int) ≤ (9223372036854775807 : Int), fun _ => decide (n < (0 : Int)) = false]) (by kernel_rfl) ⟨o1, (by simp; omega), trivial⟩) (fun a7 w7 hc7 => ?_)
    replace hc7 := hc7.pickx [(2, .e (.c (.str ({ data := #[UInt8.ofNat ((48 : Nat) + u)] } ++ s))))] [⟨5, [.int .u8 (IntKind.wrap IntKind.u8 (IntKind.wrap IntKind.u64 ((48 : Int) + (↑u : Int))))]⟩] [] (by kernel_rfl) (by kernel_rfl)
    refine gets_fin tab_ok (l := [.c (.str (⟨#[UInt8.ofNat (48 + u)]⟩ ++ s))]) hc7 Tryz.func17 (by kernel_rfl) (by kernel_rfl) ⟨?_, hN.trans (hov5.rel hc7.mem), trivial⟩
    have hsg : sign n = ⟨#[]⟩ := if_neg hn
    have he : (⟨#[]⟩ : ByteArray) ++ (⟨#[UInt8.ofNat (48 + u)]⟩ ++ s) = ⟨#[UInt8.ofNat (48 + u)]⟩ ++ s := ByteArray.empty_append
    rw [hsg, he]; rfl

theorem quo10 {u : Nat} (hu : u < 18446744073709551616) : IntKind.u64.wrap ((u : Int).tdiv 10) = ((u / 10 : Nat) : Int) := by
  rw [Int.tdiv_eq_ediv_of_nonneg (by omega)]
  simp only [IntKind.wrap, IntKind.bits, IntKind.signed]
  simp
  omega

theorem rem10 (u : Nat) : (u : Int).tmod 10 = ((u % 10 : Nat) : Int) := by rw [Int.tmod_eq_emod_of_nonneg (by omega)]; omega

theorem dig_loop (n : Int) (w0 : World) : ∀ (k u : Nat) (s : ByteArray) (w : World) (a : Act), u < 10 ^ k → u < 18446744073709551616 → s.size + k ≤ 40 → New w0 w → CRel (env0 ⟨0, []⟩ w) Tryz.f17.ntmps { tl := [(0, .e (.c (.int .i64 n))), (3, .e (.c (.int .u64 (u : Int)))), (4, .e (.c (.str s)))], bs := [] } a w →
    Gets Tryz.prog 17 digHead a w (DigR w0 (sign n ++ (⟨(Lib.decDigits u).toArray⟩ ++ s))) := by
  intro k
  induction k with
  | zero => intro u s w a hu _ hs hN hc; exact dig_exit n w0 u s w a (by simp at hu; omega) (by omega) hN hc
  | succ k ih =>
    intro u s w a hu hu64 hs hN hc
    by_cases h9 : u ≤ 9
    · exact dig_exit n w0 u s w a h9 (by omega) hN hc
    · have hcv : IntKind.u8.wrap (IntKind.u64.wrap (48 + (u : Int).tmod 10)) = ((48 + u % 10 : Nat) : Int) := by rw [rem10, ← wrapu8 (c := 48 + u % 10) (by omega)]; rfl
      refine gets_run tab_ok 60 (hc.feed [true] []) (holds_of (obs := [fun _ => decide ((↑u : Int) > (9 : Int)) = true, fun _ => (10 : Int) ≠ (0 : Int)]) (by kernel_rfl) ⟨(by simp; omega), (by simp), trivial⟩) (fun a6 w6 hc6 => ?_)
      replace hc6 := hc6.pickx [(0, .e (.c (.int .i64 n))), (3, .e (.c (.int .u64 ((↑u : Int))))), (4, .e (.c (.str s))), (11, .e (.c (.int .u64 ((↑u : Int))))), (12, .e (.c (.bool true))), (13, .e (.c (.int .u64 ((↑u : Int))))), (14, .e (.c (.int .u64 (Int.tmod (↑u : Int) (10 : Int))))), (15, .e (.c (.int .u64 (IntKind.wrap IntKind.u64 ((48 : Int) + Int.tmod (↑u : Int) (10 : Int)))))), (16, .e (.c (.int .u8 (IntKind.wrap IntKind.u8 (IntKind.wrap IntKind.u64 ((48 : Int) + Int.tmod (↑u : Int) (10 : Int))))))), (17, .e (.c (.nsl 0 0 1 1)))] [⟨5, [.int .u8 (IntKind.wrap IntKind.u8 (IntKind.wrap IntKind.u64 ((48 : Int) + Int.tmod (↑u : Int) (10 : Int))))]⟩] [] (by kernel_rfl) (by kernel_rfl)
      refine gets_val (.e (.c (.str ⟨#[UInt8.ofNat (48 + u % 10)]⟩))) hc6 (d := 18) (op := .convert 76 9 (.tmp 17)) (ty := 9) (by kernel_rfl) (run_byte (c := 48 + u % 10) (by omega) (ev_ok (v := .e (.c (.nsl 0 0 1 1))) hc6.tl (x := .tmp 17) rfl) Tryz.underlying76 Tryz.underlying5 Tryz.underlying9 (by rw [← hcv]; exact hc6.mem.cells 0 _ rfl) _ _) (by kernel_rfl) (fun a7 hc7 => ?_)
      have hlen : (⟨#[UInt8.ofNat (48 + u % 10)]⟩ : ByteArray).size = 1 := rfl
      have o1 : (((⟨#[UInt8.ofNat (48 + u % 10)]⟩ : ByteArray).size + s.size : Nat) : Int) ≤ 9223372036854775807 := by rw [hlen]; omega
      refine gets_run tab_ok 10 hc7 (holds_of (obs := [fun _ => (↑(ByteArray.size { data := #[UInt8.ofNat ((48 : Nat) + u % (10 : Nat))] } + ByteArray.size s) : Int) ≤ (9223372036854775807 : Int), fun _ => (10 : Int) ≠ (0 : Int)]) (by kernel_rfl) ⟨o1, (by simp), trivial⟩) (fun a10 w10 hc10 => ?_)
      replace hc10 := hc10.pickx [(0, .e (.c (.int .i64 n))), (3, .e (.c (.int .u64 (IntKind.wrap IntKind.u64 (Int.tdiv (↑u : Int) (10 : Int)))))), (4, .e (.c (.str ({ data := #[UInt8.ofNat ((48 : Nat) + u % (10 : Nat))] } ++ s)))), (11, .e (.c (.int .u64 ((↑u : Int))))), (12, .e (.c (.bool true))), (13, .e (.c (.int .u64 ((↑u : Int))))), (14, .e (.c (.int .u64 (Int.tmod (↑u : Int) (10 : Int))))), (15, .e (.c (.int .u64 (IntKind.wrap IntKind.u64 ((48 : Int) + Int.tmod (↑u : Int) (10 : Int)))))), (16, .e (.c (.int .u8 (IntKind.wrap IntKind.u8 (IntKind.wrap IntKind.u64 ((48 : Int) + Int.tmod (↑u : Int) (10 : Int))))))), (17, .e (.c (.nsl 0 0 1 1))), (18, .e (.c (.str ({ data := #[UInt8.ofNat ((48 : Nat) + u % (10 : Nat))] })))), (19, .e (.c (.str s))), (20, .e (.c (.str ({ data := #[UInt8.ofNat ((48 : Nat) + u % (10 : Nat))] } ++ s)))), (21, .e (.c (.int .u64 ((↑u : Int))))), (22, .e (.c (.int .u64 (IntKind.wrap IntKind.u64 (Int.tdiv (↑u : Int) (10 : Int))))))] [⟨5, [.int .u8 (IntKind.wrap IntKind.u8 (IntKind.wrap IntKind.u64 ((48 : Int) + Int.tmod (↑u : Int) (10 : Int))))]⟩] [] (by kernel_rfl) (by kernel_rfl)
      have hN10 := hN.trans ((Over.env w _).rel hc10.mem)
      have hc11 := hc10.anew ⟨0, []⟩ [(0, .e (.c (.int .i64 n))), (3, .e (.c (.int .u64 ((u / 10 : Nat) : Int)))), (4, .e (.c (.str (⟨#[UInt8.ofNat (48 + u % 10)]⟩ ++ s))))] [] [] ⟨rfl, by show some (Value.int .u64 (IntKind.u64.wrap ((u : Int).tdiv 10))) = _; rw [quo10 hu64]; rfl, rfl, trivial⟩
      have := ih (u / 10) (⟨#[UInt8.ofNat (48 + u % 10)]⟩ ++ s) w10 a10 (by rw [Nat.pow_succ] at hu; omega) (by omega) (by rw [ByteArray.size_append, hlen]; omega) hN10 hc11
      rw [digs_step u h9 s] at this
      exact gets_loop (k' := digHead) (by kernel_rfl) this

theorem dec_eq (n : Int) : dec n = sign n ++ (⟨(Lib.decDigits n.natAbs).toArray⟩ ++ ⟨#[]⟩) := by
  have he : ∀ s : ByteArray, s ++ ⟨#[]⟩ = s := fun s => ByteArray.append_empty
  rw [he]
  unfold dec sign Lib.itoa
  by_cases hn : n < 0
  · rw [if_pos hn, if_pos hn]
    apply ByteArray.ext
    simp
  · rw [if_neg hn, if_neg hn]
    have : n.toNat = n.natAbs := by omega
    rw [this]
    exact ByteArray.empty_append.symm

/-- almonerref13.Digits. -/
theorem digits_calls (n : Int) (h0 : -9223372036854775808 ≤ n) (h1 : n ≤ 9223372036854775807) (w : World) : Calls Tryz.prog 17 #[.int .i64 n] w (Gives (.string (dec n)) (fun _ => True) w) := by
  refine enter (B := ⟨0, []⟩) tab_ok [.e (.c (.int .i64 n))] [] [] 2 Tryz.func17 rfl rfl rfl (obs := []) (by kernel_rfl) trivial (fun a1 w1 hc1 => ?_)
  have hp10 : (10 : Nat) ^ 20 = 100000000000000000000 := by decide
  by_cases hn : n < 0
  · refine gets_run tab_ok 60 (hc1.feed [true] []) (holds_of (obs := [fun _ => decide (n < (0 : Int)) = true]) (by kernel_rfl) ⟨(by simp; omega), trivial⟩) (fun a6 w6 hc6 => ?_)
    replace hc6 := hc6.pickx [(0, .e (.c (.int .i64 n))), (2, .e (.c (.str ⟨#[]⟩))), (3, .e (.c (.int .u64 (IntKind.wrap IntKind.u64 (-IntKind.wrap IntKind.u64 n))))), (4, .e (.c (.str ⟨#[]⟩)))] [] [] (by kernel_rfl) (by kernel_rfl)
    have hv : IntKind.u64.wrap (-(IntKind.u64.wrap n)) = ((n.natAbs : Nat) : Int) := by
      simp only [IntKind.wrap, IntKind.bits, IntKind.signed]
      simp
      omega
    have hN6 := (Over.env w _).rel hc6.mem
    have hc7 := hc6.anew ⟨0, []⟩ [(0, .e (.c (.int .i64 n))), (3, .e (.c (.int .u64 ((n.natAbs : Nat) : Int)))), (4, .e (.c (.str ⟨#[]⟩)))] [] [] ⟨rfl, by show some (Value.int .u64 (IntKind.u64.wrap (-(IntKind.u64.wrap n)))) = _; rw [hv]; rfl, rfl, trivial⟩
    have := dig_loop n w 20 n.natAbs ⟨#[]⟩ w6 a6 (by rw [hp10]; omega) (by omega) (by decide) hN6 hc7
    rw [← dec_eq] at this
    exact gets_loop (k' := digHead) (by kernel_rfl) this
  · refine gets_run tab_ok 60 (hc1.feed [false] []) (holds_of (obs := [fun _ => decide (n < (0 : Int)) = false]) (by kernel_rfl) ⟨(by simp; omega), trivial⟩) (fun a4 w4 hc4 => ?_)
    replace hc4 := hc4.pickx [(0, .e (.c (.int .i64 n))), (2, .e (.c (.str ⟨#[]⟩))), (3, .e (.c (.int .u64 (IntKind.wrap IntKind.u64 n)))), (4, .e (.c (.str ⟨#[]⟩)))] [] [] (by kernel_rfl) (by kernel_rfl)
    have hv : IntKind.u64.wrap n = ((n.natAbs : Nat) : Int) := by
      simp only [IntKind.wrap, IntKind.bits, IntKind.signed]
      simp
      omega
    have hN4 := (Over.env w _).rel hc4.mem
    have hc5 := hc4.anew ⟨0, []⟩ [(0, .e (.c (.int .i64 n))), (3, .e (.c (.int .u64 ((n.natAbs : Nat) : Int)))), (4, .e (.c (.str ⟨#[]⟩)))] [] [] ⟨rfl, by show some (Value.int .u64 (IntKind.u64.wrap n)) = _; rw [hv]; rfl, rfl, trivial⟩
    have := dig_loop n w 20 n.natAbs ⟨#[]⟩ w4 a4 (by rw [hp10]; omega) (by omega) (by decide) hN4 hc5
    rw [← dec_eq] at this
    exact gets_loop (k' := digHead) (by kernel_rfl) this

end Go.Proofs.YtoihipolfdhhnaaGreatDoor

namespace Go.Proofs.YtoihipolfdhhnaaGreatDoor

def Bd.with (B : Bd) (kr : Nat) : Bd := ⟨B.n, kr :: B.x⟩

theorem notx_with {B : Bd} {k n kr : Nat} (h : k < n) (hk : n ≤ kr) (hx : k ∉ B.x) : k ∉ (B.with kr).x := fun e => by
  rcases List.mem_cons.1 e with e | e
  · omega
  · exact hx e

theorem Box.excl {B : Bd} {w : World} {k kr : Nat} {T : TypeId} {v : Value} (h : Box B w k T v) (hk : w.heap.size ≤ kr) : Box (B.with kr) w k T v := ⟨h.1, notx_with (lt_of_block h.1) hk h.2⟩

theorem Safe.excl {B : Bd} {w : World} {k kr : Nat} (h : Safe B w k) (hne : k ≠ kr) : Safe (B.with kr) w k := by
  rcases h with h | ⟨c, T, fr, h1, h2, h3, h4, h5⟩
  · exact .inl h
  · exact .inr ⟨c, T, fr, h1, h2, h3, h4, fun hx => (List.mem_cons.1 hx).elim hne h5⟩

theorem StrsAt.excl {B : Bd} {w : World} {a : Option Addr} {n c kr : Nat} {l : List ByteArray} (h : StrsAt B w a n c l) (hk : w.heap.size ≤ kr) : StrsAt (B.with kr) w a n c l :=
  ⟨h.len, h.cap, fun j s hj => by
    obtain ⟨ad, h1, h2, h3⟩ := h.at_ j s hj
    have hlt := World.block_lt_of_cell? w _ h2
    rw [addr_add_block] at hlt
    exact ⟨ad, h1, h2, h3.excl (by omega)⟩⟩

theorem IntsAt.excl {B : Bd} {w : World} {a : Option Addr} {n c kr : Nat} {l : List Int} (h : IntsAt B w a n c l) (hk : w.heap.size ≤ kr) : IntsAt (B.with kr) w a n c l :=
  ⟨h.len, h.cap, fun j s hj => by
    obtain ⟨ad, h1, h2, h3⟩ := h.at_ j s hj
    have hlt := World.block_lt_of_cell? w _ h2
    rw [addr_add_block] at hlt
    exact ⟨ad, h1, h2, h3.excl (by omega)⟩⟩

theorem StrsBox.excl {B : Bd} {w : World} {k kr : Nat} {l : List ByteArray} (h : StrsBox B w k l) (hk : w.heap.size ≤ kr) : StrsBox (B.with kr) w k l :=
  let ⟨a, n, c, h1, h2⟩ := h; ⟨a, n, c, h1.excl hk, h2.excl hk⟩
theorem IntsBox.excl {B : Bd} {w : World} {k kr : Nat} {l : List Int} (h : IntsBox B w k l) (hk : w.heap.size ≤ kr) : IntsBox (B.with kr) w k l :=
  let ⟨a, n, c, h1, h2⟩ := h; ⟨a, n, c, h1.excl hk, h2.excl hk⟩
theorem ResBox.excl {B : Bd} {w : World} {k kr : Nat} {r : Res} (h : ResBox B w k r) (hk : w.heap.size ≤ kr) : ResBox (B.with kr) w k r :=
  let ⟨a, n, c, h1, h2, h3⟩ := h; ⟨a, n, c, h1, h2.excl hk, notx_with (lt_of_block h1) hk h3⟩

theorem RepB.excl {B : Bd} {w : World} {kr : Nat} (hk : w.heap.size ≤ kr) {x : Bring} {f : FuncId} {c : Array Value} (h : RepB B w x f c) : RepB (B.with kr) w x f c := by
  cases x with
  | ren op => obtain ⟨h1, k, h2, h3⟩ := h; exact ⟨h1, k, h2, h3.excl hk⟩
  | cop => exact h

theorem RepE.excl {B : Bd} {w : World} {kr : Nat} (hk : w.heap.size ≤ kr) {x : Ef} {f : FuncId} {c : Array Value} (h : RepE B w x f c) : RepE (B.with kr) w x f c := by
  cases x with
  | cat => exact h
  | mk => obtain ⟨h1, k, h2, h3⟩ := h; exact ⟨h1, k, h2, h3.excl hk⟩
  | rmd => obtain ⟨h1, k, h2, h3⟩ := h; exact ⟨h1, k, h2, h3.excl hk⟩
  | rm has => obtain ⟨h1, k, h2, h3⟩ := h; exact ⟨h1, k, h2, Box.excl h3 hk⟩
  | gone p has deep => obtain ⟨h1, k1, k2, k3, h2, h3, h4, h5⟩ := h; exact ⟨h1, k1, k2, k3, h2, Box.excl h3 hk, Box.excl h4 hk, Box.excl h5 hk⟩
  | place pl dir br => obtain ⟨h1, k1, k2, k3, bf, bc, h2, h3, h4, h5, h6⟩ := h; exact ⟨h1, k1, k2, k3, bf, bc, h2, Box.excl h3 hk, Box.excl h4 hk, Box.excl h5 hk, h6.excl hk⟩
  | chmod l => obtain ⟨h1, k, h2, h3⟩ := h; exact ⟨h1, k, h2, h3.excl hk⟩
  | chown g both o => obtain ⟨h1, k1, k2, k3, h2, h3, h4, h5⟩ := h; exact ⟨h1, k1, k2, k3, h2, Box.excl h3 hk, Box.excl h4 hk, Box.excl h5 hk⟩
  | ls long l has => obtain ⟨h1, k1, k2, k3, h2, h3, h4, h5⟩ := h; exact ⟨h1, k1, k2, k3, h2, Box.excl h3 hk, h4.excl hk, Box.excl h5 hk⟩
  | entry all long dir => obtain ⟨h1, k1, k2, k3, h2, h3, h4, h5⟩ := h; exact ⟨h1, k1, k2, k3, h2, Box.excl h3 hk, Box.excl h4 hk, Box.excl h5 hk⟩

theorem RepD.excl {B : Bd} {w : World} {kr : Nat} (hk : w.heap.size ≤ kr) {x : Dp} {f : FuncId} {c : Array Value} (h : RepD B w x f c) : RepD (B.with kr) w x f c := by
  cases x <;> first
    | exact h
    | (obtain ⟨h1, k, h2, h3⟩ := h; exact ⟨h1, k, h2, Box.excl h3 hk⟩)
    | (obtain ⟨h1, k, bf, bc, h2, h3, h4⟩ := h; exact ⟨h1, k, bf, bc, h2, Box.excl h3 hk, RepB.excl hk h4⟩)

theorem RepF.excl {B : Bd} {w : World} {kr : Nat} (hk : w.heap.size ≤ kr) {x : Fn} : ∀ {f : FuncId} {c : Array Value}, RepF B w x f c → RepF (B.with kr) w x f c := by
  induction x with
  | exit0 => exact fun h => h
  | start d ws => intro f c h; obtain ⟨h1, k1, k2, df, dc, h2, h3, h4, h5⟩ := h; exact ⟨h1, k1, k2, df, dc, h2, Box.excl h3 hk, RepD.excl hk h4, h5.excl hk⟩
  | none => exact fun h => h
  | exit1 => exact fun h => h
  | each l e => intro f c h; obtain ⟨h1, k1, k2, ef, ec, h2, h3, h4, h5⟩ := h; exact ⟨h1, k1, k2, ef, ec, h2, h3.excl hk, Box.excl h4 hk, RepE.excl hk h5⟩
  | pours s d t ih => intro f c h; obtain ⟨h1, k1, k2, k3, tf, tc, h2, h3, h4, h5, h6⟩ := h; exact ⟨h1, k1, k2, k3, tf, tc, h2, Box.excl h3 hk, Box.excl h4 hk, Box.excl h5 hk, ih h6⟩
  | closes fds => intro f c h; obtain ⟨h1, k, h2, h3⟩ := h; exact ⟨h1, k, h2, h3.excl hk⟩
  | goneD p => intro f c h; obtain ⟨h1, k, h2, h3⟩ := h; exact ⟨h1, k, h2, Box.excl h3 hk⟩
  | entries d names has => intro f c h; obtain ⟨h1, k1, k2, k3, r, h2, h3, h4, h5, h6⟩ := h; exact ⟨h1, k1, k2, k3, r, h2, Box.excl h3 hk, h4.excl hk, h5, Box.excl h6 hk⟩

theorem RepR.excl {B : Bd} {w : World} {kr : Nat} (hk : w.heap.size ≤ kr) {x : Rn} : ∀ {f : FuncId} {c : Array Value}, RepR B w x f c → RepR (B.with kr) w x f c := by
  induction x with
  | say fd text t => intro f c h; obtain ⟨h1, k1, k2, k3, tf, tc, h2, h3, h4, h5, h6⟩ := h; exact ⟨h1, k1, k2, k3, tf, tc, h2, Box.excl h3 hk, Box.excl h4 hk, h5.excl hk, Box.excl h6 hk⟩
  | tries p t ih => intro f c h; obtain ⟨h1, k1, k2, tf, tc, h2, h3, h4, h5⟩ := h; exact ⟨h1, k1, k2, tf, tc, h2, Box.excl h3 hk, Box.excl h4 hk, ih h5⟩
  | id => exact fun h => h
  | who => exact fun h => h
  | pours s d t => intro f c h; obtain ⟨h1, k1, k2, k3, tf, tc, h2, h3, h4, h5, h6⟩ := h; exact ⟨h1, k1, k2, k3, tf, tc, h2, Box.excl h3 hk, h4.excl hk, Box.excl h5 hk, Box.excl h6 hk⟩
  | closes fds => intro f c h; obtain ⟨h1, k, h2, h3⟩ := h; exact ⟨h1, k, h2, h3.excl hk⟩
  | cat => exact fun h => h
  | noop g => exact fun h => h
  | gone p has deep => intro f c h; obtain ⟨h1, k1, k2, k3, h2, h3, h4, h5⟩ := h; exact ⟨h1, k1, k2, k3, h2, Box.excl h3 hk, Box.excl h4 hk, Box.excl h5 hk⟩
  | goneL p has deep => intro f c h; obtain ⟨h1, k1, k2, k3, h2, h3, h4, h5⟩ := h; exact ⟨h1, k1, k2, k3, h2, Box.excl h3 hk, Box.excl h4 hk, Box.excl h5 hk⟩
  | places l last pl br => intro f c h; obtain ⟨h1, k1, k2, k3, k4, bf, bc, h2, h3, h4, h5, h6, h7⟩ := h; exact ⟨h1, k1, k2, k3, k4, bf, bc, h2, Box.excl h3 hk, h4.excl hk, Box.excl h5 hk, Box.excl h6 hk, h7.excl hk⟩
  | copies1 src dst => intro f c h; obtain ⟨h1, k1, k2, h2, h3, h4⟩ := h; exact ⟨h1, k1, k2, h2, Box.excl h3 hk, Box.excl h4 hk⟩
  | copies2 dst mode => intro f c h; obtain ⟨h1, k1, k2, h2, h3, h4⟩ := h; exact ⟨h1, k1, k2, h2, Box.excl h3 hk, h4.1, notx_with (lt_of_block h4.1) hk h4.2⟩
  | copies3 dst r => intro f c h; obtain ⟨h1, k1, k2, h2, h3, h4⟩ := h; exact ⟨h1, k1, k2, h2, h3.excl hk, Box.excl h4 hk⟩
  | chmod l v => intro f c h; obtain ⟨h1, k1, k2, h2, h3, h4⟩ := h; exact ⟨h1, k1, k2, h2, h3.excl hk, Box.excl h4 hk⟩
  | chown g both o v => intro f c h; obtain ⟨h1, k1, k2, k3, k4, h2, h3, h4, h5, h6⟩ := h; exact ⟨h1, k1, k2, k3, k4, h2, Box.excl h3 hk, Box.excl h4 hk, Box.excl h5 hk, Box.excl h6 hk⟩
  | ls1 v long l has => intro f c h; obtain ⟨h1, k1, k2, k3, k4, h2, h3, h4, h5, h6⟩ := h; exact ⟨h1, k1, k2, k3, k4, h2, Box.excl h3 hk, Box.excl h4 hk, h5.excl hk, Box.excl h6 hk⟩
  | ls2 l v has => intro f c h; obtain ⟨h1, k1, k2, k3, h2, h3, h4, h5⟩ := h; exact ⟨h1, k1, k2, k3, h2, h3.excl hk, Box.excl h4 hk, Box.excl h5 hk⟩
  | entry n => intro f c h; obtain ⟨h1, k, h2, h3⟩ := h; exact ⟨h1, k, h2, Box.excl h3 hk⟩

/-- Behind the making of a block kr, this block is somebody else's. -/
theorem MOk.excl {B : Bd} {w w' : World} {b kr : Nat} {m : M} (h : MOk B w b m) (hn : New w w') (hk : w.heap.size ≤ kr) (hlt : kr < w'.heap.size) : MOk (B.with kr) w' b m := by
  have hf := (h.fresh hn).1
  obtain ⟨a, n, c, th, row, h0⟩ := h
  have hkeep : Keep (B.with kr) w w' := hn.keep _
  have hglob := h0.glob.keep (hn.keep B)
  have hcells : w'.heap[b]? = some (.cells (plainR (mcells m.prog m.status a n c (thnC th) m.call m.over)) 66 (0, 0)) := by rw [hn.block b (lt_of_block h0.cells)]; exact h0.cells
  refine ⟨a, n, c, th, row, h0.base, hcells, ?_, h0.todo.mono (fun x y hx => (hx.excl hk).keep hkeep), h0.len, ?_, ⟨hglob.le, fun k hx => (List.mem_cons.1 hx).elim (fun e => e ▸ hlt) (hglob.xs k), hglob.base⟩⟩
  · obtain ⟨h1, h2⟩ := h0.owns
    refine ⟨h1, ?_⟩
    rcases h2 with h2 | ⟨g, cap, cur, h3, h4, h5, h6⟩
    · exact .inl h2
    · exact .inr ⟨g, cap, cur, h3, h4, by rw [hn.block g (lt_of_block h5)]; exact h5, h6⟩
  · have ht := h0.thn
    cases ht1 : m.thn with
    | none => rw [ht1] at ht; cases th <;> simp only [ThnOk] at ht ⊢
    | some t =>
      rw [ht1] at ht
      cases th with
      | none => simp only [ThnOk] at ht
      | some p => simp only [ThnOk] at ht ⊢; exact (ht.excl hk).keep hkeep

theorem UOk.excl {B : Bd} {w w' : World} {ku b kr : Nat} {m : M} (h : UOk B w ku b m) (hn : New w w') (hk : w.heap.size ≤ kr) (hlt : kr < w'.heap.size) : UOk (B.with kr) w' ku b m :=
  ⟨h.1, (h.2.1.excl hk).keep (hn.keep _), h.2.2.excl hn hk hlt⟩

/-- A block that is somebody else's is written: the machine stays. -/
theorem MOk.sideX {B : Bd} {w w' : World} {b kr : Nat} {m : M} (hm : MOk B w b m) (hBk : B ≤ kr) (hx : kr ∈ B.x) {x : Array Value} {T : TypeId} (hT : T ≠ 66) (hT2 : T ≠ 84) (hkc : w.heap[kr]? = some (.cells x T (0, 0))) (ho : w'.os = w.os) (ht : w'.tape = w.tape) (hu : w'.output = w.output) (hsz : w.heap.size ≤ w'.heap.size)
    (hblk : ∀ k, k < w.heap.size → k ≠ kr → w'.heap[k]? = w.heap[k]?) : MOk B w' b m ∧ Keep B w w' ∧ (∀ k, Own w' b k → Own w b k) := by
  obtain ⟨a, n, c, th, row, h⟩ := hm
  have hkeep : Keep B w w' := ⟨ho, ht, hu, hsz, fun k hk hs => hblk k hk (fun e => by
    subst e
    rcases hs with hs | ⟨c', T, fr, h1, h2, h3, h4, h5⟩
    · omega
    · exact h5 hx)⟩
  have hbk : b ≠ kr := by
    rintro rfl
    rw [h.cells] at hkc
    simp only [Option.some.injEq, Obj.cells.injEq] at hkc
    exact hT hkc.2.1.symm
  have hcells : w'.heap[b]? = some (.cells (plainR (mcells m.prog m.status a n c (thnC th) m.call m.over)) 66 (0, 0)) := by rw [hblk b (lt_of_block h.cells) hbk]; exact h.cells
  refine ⟨⟨a, n, c, th, row, h.base, hcells, ?_, h.todo.mono (fun k x hx => hx.keep hkeep), h.len, thn_keep h.thn hkeep, h.glob.keep hkeep⟩, hkeep, fun k ho => ?_⟩
  · obtain ⟨h1, h2⟩ := h.owns
    refine ⟨h1, ?_⟩
    rcases h2 with h2 | ⟨g, cap, cur, h3, h4, h5, h6⟩
    · exact .inl h2
    · refine .inr ⟨g, cap, cur, h3, h4, ?_, h6⟩
      rw [hblk g (lt_of_block h5) (fun e => by
        subst e
        rw [hkc] at h5
        simp only [Option.some.injEq, Obj.cells.injEq] at h5
        exact hT2 h5.2.1)]
      exact h5
  · rcases ho with ho | ⟨n', c', ho⟩
    · exact .inl ho
    · exact .inr ⟨n', c', by rw [← World.cell?_of_block (a := ⟨b, 3, none⟩) (hblk b (lt_of_block h.cells) hbk)]; exact ho⟩

/-- A row of texts that is somebody else's grows into a new block: the machine stays, and does not know the new block. -/
theorem MOk.growX {B : Bd} {w w' : World} {b kr : Nat} {m : M} (h : MOk B w b m) (hk : w.heap.size ≤ kr) (hlt : kr < w'.heap.size) (ho : w'.os = w.os) (ht : w'.tape = w.tape) (hu : w'.output = w.output) (hsz : w.heap.size ≤ w'.heap.size)
    (hblk : ∀ k, k < w.heap.size → w'.heap[k]? = w.heap[k]? ∨ (k ∈ B.x ∧ B ≤ k ∧ ∃ x, w.heap[k]? = some (.cells x 9 (0, 0)))) : MOk (B.with kr) w' b m ∧ Keep (B.with kr) w w' ∧ (∀ k, Own w' b k → Own w b k) := by
  obtain ⟨a, n, c, th, row, h0⟩ := h
  have hkeep : Keep B w w' := ⟨ho, ht, hu, hsz, fun k hk hs => (hblk k hk).elim (fun e => e) (fun ⟨h1, h2, _⟩ => by
    rcases hs with hs | ⟨_, _, _, _, _, _, _, h5⟩
    · omega
    · exact absurd h1 h5)⟩
  have hkeep' : Keep (B.with kr) w w' := ⟨ho, ht, hu, hsz, fun k hk hs => (hblk k hk).elim (fun e => e) (fun ⟨h1, h2, _⟩ => by
    rcases hs with hs | ⟨_, _, _, _, _, _, _, h5⟩
    · have hs' : k < B.n := hs
      omega
    · exact absurd (List.mem_cons_of_mem _ h1) h5)⟩
  have hglob := h0.glob.keep hkeep
  have hb : w'.heap[b]? = w.heap[b]? := (hblk b (lt_of_block h0.cells)).elim (fun e => e) (fun ⟨_, _, x, hx⟩ => by
    rw [h0.cells] at hx
    simp only [Option.some.injEq, Obj.cells.injEq] at hx
    exact absurd hx.2.1 (by decide))
  refine ⟨⟨a, n, c, th, row, h0.base, by rw [hb]; exact h0.cells, ?_, h0.todo.mono (fun x y hx => (hx.excl hk).keep hkeep'), h0.len, ?_, ⟨hglob.le, fun k hx => (List.mem_cons.1 hx).elim (fun e => e ▸ hlt) (hglob.xs k), hglob.base⟩⟩, hkeep', fun k ho => ?_⟩
  · obtain ⟨h1, h2⟩ := h0.owns
    refine ⟨h1, ?_⟩
    rcases h2 with h2 | ⟨g, cap, cur, h3, h4, h5, h6⟩
    · exact .inl h2
    · refine .inr ⟨g, cap, cur, h3, h4, ?_, h6⟩
      rw [(hblk g (lt_of_block h5)).elim (fun e => e) (fun ⟨_, _, x, hx⟩ => by
        rw [h5] at hx
        simp only [Option.some.injEq, Obj.cells.injEq] at hx
        exact absurd hx.2.1 (by decide))]
      exact h5
  · have ht := h0.thn
    cases ht1 : m.thn with
    | none => rw [ht1] at ht; cases th <;> simp only [ThnOk] at ht ⊢
    | some t =>
      rw [ht1] at ht
      cases th with
      | none => simp only [ThnOk] at ht
      | some p => simp only [ThnOk] at ht ⊢; exact (ht.excl hk).keep hkeep'
  · rcases ho with ho | ⟨n', c', ho⟩
    · exact .inl ho
    · exact .inr ⟨n', c', by rw [← World.cell?_of_block (a := ⟨b, 3, none⟩) hb]; exact ho⟩

theorem MOk.side35 {B : Bd} {w w' : World} {b kr : Nat} {m : M} (hm : MOk B w b m) (hBk : B ≤ kr) (hx : kr ∈ B.x) {x : Array Value} (hkc : w.heap[kr]? = some (.cells x 35 (0, 0))) (ho : w'.os = w.os) (ht : w'.tape = w.tape) (hu : w'.output = w.output) (hsz : w.heap.size ≤ w'.heap.size)
    (hblk : ∀ k, k < w.heap.size → k ≠ kr → w'.heap[k]? = w.heap[k]?) : MOk B w' b m ∧ Keep B w w' ∧ (∀ k, Own w' b k → Own w b k) := hm.sideX hBk hx (T := 35) (by decide) (by decide) hkc ho ht hu hsz hblk

end Go.Proofs.YtoihipolfdhhnaaGreatDoor

namespace Go.Proofs.YtoihipolfdhhnaaGreatDoor

/-- What was there at the beginning. -/
def oro (B : Nat) (w : World) : Addr → Option Value := fun a => if a.block < B then w.cell? a else none

theorem oro_le {B : Nat} {w : World} {a : Addr} {v : Value} (h : oro B w a = some v) : a.block < B ∧ w.cell? a = some v := by
  unfold oro at h
  split at h
  · rename_i hs; exact ⟨hs, h⟩
  · cases h

theorem oro_of {B : Nat} {w : World} {a : Addr} {v : Value} (hs : a.block < B) (h : w.cell? a = some v) : oro B w a = some v := by
  unfold oro; rw [if_pos hs]; exact h

abbrev lenv (B : Nat) (w : World) (ks : List Nat) : Env := env w ks (oro B w)

/-- One block keeps its name, the others are forgotten. -/
theorem CRel.anchor1 {ε : Env} {nt : Nat} {σ : St} {a : Act} {w : World} (hc : CRel ε nt σ a w) (B i : Nat) (nb : NB) (hi : σ.bs[i]? = some nb) (hcs : nb.cs.all (C.below 0) = true) (hB : B ≤ ε.ρ i) (tl : List (Nat × SV)) (orc : List Bool) (ext : List SV)
    (h : AllT ε.ρ (lenv B w [ε.ρ i]).ρ σ.tl tl) : CRel (lenv B w [ε.ρ i]) nt { tl := tl, bs := [nb], orc := orc, ext := ext } a w := by
  have hcell := hc.mem.cells i nb hi
  rw [map_plain _ hcs] at hcell
  refine ⟨?_, hc.size, hc.defers, ?_⟩
  · intro d v hd
    obtain ⟨u, h1, h2⟩ := h.lk hd
    rw [hc.tl d u h1, h2]
  · refine rel_start rfl ?_ ?_ (fun ad v hv => by obtain ⟨h1, h2⟩ := oro_le hv; exact ⟨h2, by simp; omega⟩)
    · intro i j k hi hj
      match i, j, hi, hj with
      | 0, 0, _, _ => rfl
      | i + 1, _, hi, _ => simp at hi
      | 0, j + 1, _, hj => simp at hj
    · intro j nb' k hj hk
      match j, hj, hk with
      | 0, hj, hk =>
        simp only [List.getElem?_cons_zero, Option.some.injEq] at hj hk
        subst hj; subst hk
        rw [map_plain _ hcs]
        exact hcell
      | j + 1, hj, _ => simp at hj

/-- All names are forgotten. -/
theorem CRel.anchor0 {ε : Env} {nt : Nat} {σ : St} {a : Act} {w : World} (hc : CRel ε nt σ a w) (B : Nat) (tl : List (Nat × SV)) (orc : List Bool) (ext : List SV)
    (h : AllT ε.ρ (lenv B w []).ρ σ.tl tl) : CRel (lenv B w []) nt { tl := tl, bs := [], orc := orc, ext := ext } a w := by
  refine ⟨?_, hc.size, hc.defers, rel_nil w _ (fun _ _ h => (oro_le h).2)⟩
  intro d v hd
  obtain ⟨u, h1, h2⟩ := h.lk hd
  rw [hc.tl d u h1, h2]

theorem Over.lenv {w0 w : World} {B : Nat} {ks : List Nat} (hn : New w0 w) (hk : ∀ k ∈ ks, w0.heap.size ≤ k) : Over w0 (lenv B w ks) := by
  refine ⟨hn, fun i hi => ?_⟩
  have hi' : i < ks.length := hi
  show w0.heap.size ≤ if i < ks.length then ks.getD i 0 else _
  rw [if_pos hi']
  exact hk _ (by rw [List.getD_eq_getElem?_getD, List.getElem?_eq_getElem hi']; exact List.getElem_mem hi')

/-- What was there at the beginning, and some blocks more. -/
def oroG (B : Nat) (gs : List Nat) (w : World) : Addr → Option Value := fun a => if a.block < B ∨ a.block ∈ gs then w.cell? a else none

theorem oroG_le {B : Nat} {gs : List Nat} {w : World} {a : Addr} {v : Value} (h : oroG B gs w a = some v) : (a.block < B ∨ a.block ∈ gs) ∧ w.cell? a = some v := by
  unfold oroG at h
  split at h
  · rename_i hs; exact ⟨hs, h⟩
  · cases h

theorem oroG_of {B : Nat} {gs : List Nat} {w : World} {a : Addr} {v : Value} (hs : a.block < B ∨ a.block ∈ gs) (h : w.cell? a = some v) : oroG B gs w a = some v := by
  unfold oroG; rw [if_pos hs]; exact h

abbrev genv (B : Nat) (gs : List Nat) (w : World) (ks : List Nat) : Env := env w ks (oroG B gs w)

/-- One block keeps its name, some blocks may be read. -/
theorem CRel.anchorG {ε : Env} {nt : Nat} {σ : St} {a : Act} {w : World} (hc : CRel ε nt σ a w) (B i : Nat) (gs : List Nat) (nb : NB) (hi : σ.bs[i]? = some nb) (hcs : nb.cs.all (C.below 0) = true) (hB : B ≤ ε.ρ i) (hg : ε.ρ i ∉ gs) (tl : List (Nat × SV)) (orc : List Bool) (ext : List SV)
    (h : AllT ε.ρ (genv B gs w [ε.ρ i]).ρ σ.tl tl) : CRel (genv B gs w [ε.ρ i]) nt { tl := tl, bs := [nb], orc := orc, ext := ext } a w := by
  have hcell := hc.mem.cells i nb hi
  rw [map_plain _ hcs] at hcell
  refine ⟨?_, hc.size, hc.defers, ?_⟩
  · intro d v hd
    obtain ⟨u, h1, h2⟩ := h.lk hd
    rw [hc.tl d u h1, h2]
  · refine rel_start rfl ?_ ?_ (fun ad v hv => by
      obtain ⟨h1, h2⟩ := oroG_le hv
      refine ⟨h2, ?_⟩
      simp only [List.mem_singleton]
      intro e
      rcases h1 with h1 | h1
      · omega
      · exact hg (e ▸ h1))
    · intro i j k hi hj
      match i, j, hi, hj with
      | 0, 0, _, _ => rfl
      | i + 1, _, hi, _ => simp at hi
      | 0, j + 1, _, hj => simp at hj
    · intro j nb' k hj hk
      match j, hj, hk with
      | 0, hj, hk =>
        simp only [List.getElem?_cons_zero, Option.some.injEq] at hj hk
        subst hj; subst hk
        rw [map_plain _ hcs]
        exact hcell
      | j + 1, hj, _ => simp at hj

theorem Over.genv {w0 w : World} {B : Nat} {gs ks : List Nat} (hn : New w0 w) (hk : ∀ k ∈ ks, w0.heap.size ≤ k) : Over w0 (genv B gs w ks) := by
  refine ⟨hn, fun i hi => ?_⟩
  have hi' : i < ks.length := hi
  show w0.heap.size ≤ if i < ks.length then ks.getD i 0 else _
  rw [if_pos hi']
  exact hk _ (by rw [List.getD_eq_getElem?_getD, List.getElem?_eq_getElem hi']; exact List.getElem_mem hi')

/-- A machine's work, seen from the statement's beginning. -/
theorem LU.new {B : Bd} {w0 w w' : World} {ku b : Nat} {m : M} (h : LU B w0 w ku b m) (hn : New w0 w) (he : Evo w b w') : New w0 w' :=
  ⟨he.os.trans hn.os, he.tape.trans hn.tape, he.output.trans hn.output, Nat.le_trans hn.size he.size, fun k hk =>
    (he.block k (Nat.lt_of_lt_of_le hk hn.size) (fun ho => by have := h.own k ho; omega)).trans (hn.block k hk)⟩

theorem LU.evo {B : Bd} {w0 w w' : World} {ku b : Nat} {m m' : M} (h : LU B w0 w ku b m) (hn : New w0 w) (he : Evo w b w') (hu : UOk B w' ku b m') : LU B w0 w' ku b m' :=
  ⟨hu, fun j ho => (he.fresh j ho).elim (h.own j) (fun h1 => Nat.le_trans hn.size h1)⟩

/-- A new block of an answer. -/
theorem LU.excl {B : Bd} {w0 w w' : World} {ku b kr : Nat} {m : M} (h : LU B w0 w ku b m) (hn : New w w') (hk : w.heap.size ≤ kr) (hlt : kr < w'.heap.size) : LU (B.with kr) w0 w' ku b m :=
  ⟨h.u.excl hn hk hlt, fun j ho => h.own j (hfr h.u.2.2 hn j ho)⟩

/-- Own work that writes a block of an answer. -/
theorem LU.rel35 {B : Bd} {w0 w w' : World} {ku b kr : Nat} {m : M} {bs : List NB} {ro : Addr → Option Value} (h : LU B w0 w ku b m) (hB : B ≤ kr) (hx : kr ∈ B.x) {x : Array Value} (hkc : w.heap[kr]? = some (.cells x 35 (0, 0))) (hr : Rel (env w [kr] ro) bs w') : LU B w0 w' ku b m := by
  have hsz : w.heap.size ≤ w'.heap.size := by rw [hr.size]; exact Nat.le_add_right _ _
  obtain ⟨h1, h2, h3⟩ := h.u.2.2.side35 hB hx hkc hr.os hr.tape hr.output hsz (fun k hk hne => hr.keep k hk (fun i hi e => by
    have hi1 : i < 1 := hi
    have : i = 0 := by omega
    subst this
    exact hne e.symm))
  exact ⟨⟨h.u.1, h.u.2.1.keep h2, h1⟩, fun j ho => h.own j (h3 j ho)⟩

/-- A call of Next, behind which one block keeps its name; what is no machine's stays. -/
theorem law_next2 {B : Bd} {w0 w1 : World} {ε : Env} {nt : Nat} {f : FuncId} {k : List Item} {σ : St} {a : Act} {R : Ending → World → Prop} {m m' : M} (N d : Nat) (r : Res) (ku b i : Nat) (nb : NB) (tl : List (Nat × SV)) {ad : Option Addr} {nn cp : Nat} {rs : List C}
    (hN : New w0 w1) (hc : CRel ε nt σ a w1) (hu : LU B w0 w1 ku b m)
    (hx : callX k σ = some ⟨14, [.c (.rp ⟨ku, 0, none⟩), .a rs], [], #[]⟩) (hrs : (E.a rs).real ε.ρ = resV r ad nn cp) (hnm : StrsAt B w1 ad nn cp r.names)
    (hd : dstX k = some d) (hdt : Nat.blt d nt = true) (hi : σ.bs[i]? = some nb) (hcs : nb.cs.all (C.below 0) = true) (h1 : nb.ty ≠ 66) (h2 : nb.ty ≠ 84) (hB : B ≤ ε.ρ i)
    (hT : ∀ w', AllT ε.ρ (lenv B w' [ε.ρ i]).ρ σ.tl tl) (hm' : next N m r = m') (hok : okNext N m r)
    (h : ∀ a' w', New w0 w' → LU B w0 w' ku b m' → w1.heap.size ≤ w'.heap.size → (∀ (j : Nat) (c : Array Value) (T : TypeId), w1.heap[j]? = some (.cells c T (0, 0)) → T ≠ 66 → T ≠ 84 → w'.heap[j]? = some (.cells c T (0, 0))) → CRel (lenv B w' [ε.ρ i]) nt { tl := (d, .e (.a m'.call.cs)) :: tl, bs := [nb] } a' w' → Gets Tryz.prog f (popX k) a' w' R) :
    Gets Tryz.prog f k a w1 R := by
  refine gets_call hc hx (by kernel_rfl) (S := UNextR B ku b w1 m') (by
    have := unext_calls hu.u r ad nn cp hnm N hok
    rw [hm'] at this
    have e : CallX.real ε.ρ ⟨14, [.c (.rp ⟨ku, 0, none⟩), .a rs], [], #[]⟩ = #[bp ku, resV r ad nn cp] := by simp only [CallX.real, List.map_cons, List.map_nil, hrs]; rfl
    rw [e]; exact this) (fun e w' ⟨e1, e2, e3⟩ => ⟨_, e1, ?_⟩)
  rw [hd]
  have hcell := hc.mem.cells i nb hi
  have hcell' : w'.heap[ε.ρ i]? = some (.cells (plainR nb.cs) nb.ty (0, 0)) := by
    obtain ⟨_, _, _, _, _, hM⟩ := hu.u.2.2
    rw [e3.block _ (lt_of_block hcell) (hM.notown hcell h1 h2), hcell, map_plain _ hcs]
  refine h _ w' (hu.new hN e3) (hu.evo hN e3 e2) e3.size (fun j c T hj g1 g2 => by
    obtain ⟨_, _, _, _, _, hM⟩ := hu.u.2.2
    rw [e3.block _ (lt_of_block hj) (hM.notown hj g1 g2)]; exact hj) ⟨fun d' v hd' => ?_, by rw [Act.put_size]; exact hc.size, by rw [Act.put_defers']; exact hc.defers, ?_⟩
  · simp only [lk] at hd'
    split at hd'
    · rename_i e
      cases hd'
      subst e
      show (a.tmps.setIfInBounds d _)[d]? = _
      rw [Array.getElem?_setIfInBounds_self_of_lt (by rw [hc.size]; exact Nat.le_of_ble_eq_true hdt)]
      exact congrArg (fun x => some (Value.agg x)) (map_plain _ rfl).symm
    · rename_i hne
      obtain ⟨u, hu1, hu2⟩ := (hT w').lk hd'
      show (a.tmps.setIfInBounds d _)[d']? = _
      rw [Array.getElem?_setIfInBounds_ne hne, hc.tl d' u hu1, hu2]
  · refine rel_start rfl ?_ ?_ (fun ad v hv => by obtain ⟨h1, h2⟩ := oro_le hv; exact ⟨h2, by simp; omega⟩)
    · intro i j k hi hj
      match i, j, hi, hj with
      | 0, 0, _, _ => rfl
      | i + 1, _, hi, _ => simp at hi
      | 0, j + 1, _, hj => simp at hj
    · intro j nb' k hj hk
      match j, hj, hk with
      | 0, hj, hk =>
        simp only [List.getElem?_cons_zero, Option.some.injEq] at hj hk
        subst hj; subst hk
        rw [map_plain _ hcs]
        exact hcell'
      | j + 1, hj, _ => simp at hj

/-- A call of Next, behind which one block keeps its name. -/
theorem law_next1 {B : Bd} {w0 w1 : World} {ε : Env} {nt : Nat} {f : FuncId} {k : List Item} {σ : St} {a : Act} {R : Ending → World → Prop} {m m' : M} (N d : Nat) (r : Res) (ku b i : Nat) (nb : NB) (tl : List (Nat × SV)) {ad : Option Addr} {nn cp : Nat} {rs : List C}
    (hN : New w0 w1) (hc : CRel ε nt σ a w1) (hu : LU B w0 w1 ku b m)
    (hx : callX k σ = some ⟨14, [.c (.rp ⟨ku, 0, none⟩), .a rs], [], #[]⟩) (hrs : (E.a rs).real ε.ρ = resV r ad nn cp) (hnm : StrsAt B w1 ad nn cp r.names)
    (hd : dstX k = some d) (hdt : Nat.blt d nt = true) (hi : σ.bs[i]? = some nb) (hcs : nb.cs.all (C.below 0) = true) (h1 : nb.ty ≠ 66) (h2 : nb.ty ≠ 84) (hB : B ≤ ε.ρ i)
    (hT : ∀ w', AllT ε.ρ (lenv B w' [ε.ρ i]).ρ σ.tl tl) (hm' : next N m r = m') (hok : okNext N m r)
    (h : ∀ a' w', New w0 w' → LU B w0 w' ku b m' → CRel (lenv B w' [ε.ρ i]) nt { tl := (d, .e (.a m'.call.cs)) :: tl, bs := [nb] } a' w' → Gets Tryz.prog f (popX k) a' w' R) :
    Gets Tryz.prog f k a w1 R :=
  law_next2 N d r ku b i nb tl hN hc hu hx hrs hnm hd hdt hi hcs h1 h2 hB hT hm' hok (fun a' w' g1 g2 _ _ g3 => h a' w' g1 g2 g3)

/- ROWS OF TEXTS -/

/-- A row of texts of one's own. -/
def Row (B : Nat) (w : World) (a : Option Addr) (n c : Nat) (l : List ByteArray) : Prop := w.ownsRow B 9 1 (.slice a n c) n (l.map Value.string)

theorem Row.strs {B : Nat} {B' : Bd} {w : World} {a : Option Addr} {n c : Nat} {l : List ByteArray} (h : Row B w a n c l) (hx : ∀ k, B ≤ k → k ∉ B'.x) : StrsAt B' w a n c l := by
  obtain ⟨a', c', h1, h2⟩ := StrsAt.of_row (B := B') h hx
  simp only [Value.slice.injEq] at h1
  obtain ⟨rfl, _, rfl⟩ := h1
  exact h2

theorem Row.fresh {B : Nat} {w w' : World} {a : Option Addr} {n c : Nat} {l : List ByteArray} (h : Row B w a n c l) (hn : New w w') : Row B w' a n c l := by
  obtain ⟨h1, h2⟩ := h
  refine ⟨h1, ?_⟩
  rcases h2 with h2 | ⟨g, cap, cur, h3, h4, h5, h6⟩
  · exact .inl h2
  · exact .inr ⟨g, cap, cur, h3, h4, by rw [hn.block g (lt_of_block h5)]; exact h5, h6⟩

theorem row_one {B k : Nat} {w : World} (s : ByteArray) (hk : B ≤ k) (h : w.heap[k]? = some (.cells #[.string s] 9 (0, 0))) : Row B w (some ⟨k, 0, none⟩) 1 1 [s] :=
  ⟨rfl, .inr ⟨k, 1, #[.string s], rfl, hk, h, Nat.le_refl _, by decide, rfl, rfl⟩⟩

/-- Where a row lies. -/
theorem Row.at_ {B : Nat} {w : World} {a : Option Addr} {n c : Nat} {l : List ByteArray} (h : Row B w a n c l) : n = l.length ∧ n ≤ c ∧ (a = none ∧ c = 0 ∧ l = [] ∨ ∃ g cur, a = some ⟨g, 0, none⟩ ∧ B ≤ g ∧ w.heap[g]? = some (.cells cur 9 (0, 0))) := by
  obtain ⟨h1, h2⟩ := h
  simp only [List.length_map, Nat.mul_one] at h1
  rcases h2 with ⟨h3, h4⟩ | ⟨g, cap, cur, h3, h4, h5, h6, _⟩
  · simp only [Value.slice.injEq] at h3
    obtain ⟨rfl, rfl, rfl⟩ := h3
    exact ⟨h1.symm, Nat.le_refl _, .inl ⟨rfl, rfl, List.length_eq_zero_iff.1 h1⟩⟩
  · simp only [Value.slice.injEq] at h3
    obtain ⟨rfl, _, rfl⟩ := h3
    exact ⟨h1.symm, h6, .inr ⟨g, cur, rfl, h4, h5⟩⟩

/-- A row stays where its block stays. -/
theorem Row.keep {B : Nat} {w w' : World} {a : Option Addr} {n c : Nat} {l : List ByteArray} (h : Row B w a n c l) (hb : ∀ (g : Nat) (cur : Array Value), a = some ⟨g, 0, none⟩ → w.heap[g]? = some (.cells cur 9 (0, 0)) → w'.heap[g]? = some (.cells cur 9 (0, 0))) : Row B w' a n c l := by
  obtain ⟨h1, h2⟩ := h
  refine ⟨h1, ?_⟩
  rcases h2 with h2 | ⟨g, cap, cur, h3, h4, h5, h6⟩
  · exact .inl h2
  · simp only [Value.slice.injEq] at h3
    exact .inr ⟨g, cap, cur, by rw [h3.1, h3.2.2], h4, hb g cur h3.1 h5, h6⟩

/-- Without the last one. -/
theorem Row.dropLast {B : Nat} {w : World} {a : Option Addr} {n c : Nat} {l : List ByteArray} {s : ByteArray} (h : Row B w a (n + 1) c (l ++ [s])) : Row B w a n c l := by
  obtain ⟨h1, h2⟩ := h
  simp only [List.length_map, Nat.mul_one, List.length_append, List.length_singleton] at h1
  have hn : n = l.length := by omega
  refine ⟨by simp [hn], ?_⟩
  rcases h2 with ⟨h3, h4⟩ | ⟨g, cap, cur, h3, h4, h5, h6, h7, h8, h9⟩
  · simp at h4
  · simp only [Value.slice.injEq] at h3
    obtain ⟨rfl, _, rfl⟩ := h3
    refine .inr ⟨g, c, cur, rfl, h4, h5, by omega, h7, h8, ?_⟩
    have e : cur.toList.take (n * 1) = (cur.toList.take ((n + 1) * 1)).take n := by rw [List.take_take]; congr 1; omega
    rw [e, h9]
    simp [hn]

theorem append9 {B : Nat} {w : World} {a : Option Addr} {n cp : Nat} {l : List ByteArray} (hrow : Row B w a n cp l) (ad : Addr) (c2 : Nat) (s : ByteArray) (hs : w.cell? ad = some (.string s)) (hn : n ≤ 1000000) (hB : B ≤ w.heap.size) (ty : TypeId) :
    ∃ a' cp' w', (Builtin.append_ #[22, 22] ty #[.slice a n cp, .slice (some ad) 1 c2]).run Tryz.prog w = .ok (.slice a' (n + 1) cp') w' ∧ Row B w' a' (n + 1) cp' (l ++ [s]) ∧ w.grownBy w' (Value.ownBlock (.slice a n cp)) ∧ (a'.map Addr.block = a.map Addr.block ∨ a'.map Addr.block = some w.heap.size) := by
  obtain ⟨i9, hi9, hz9⟩ : ∃ i, Tryz.prog.info? 9 = some i ∧ i.zero.map (fun z => z.cells) = some #[.string ⟨#[]⟩] ∧ i.size = 1 ∧ i.bytes = 16 := by
    have := info9
    cases hi : Tryz.prog.info? 9 with
    | none => rw [hi] at this; cases this
    | some i => rw [hi] at this; simp only [Option.map_some, Option.some.injEq, Prod.mk.injEq] at this; exact ⟨i, rfl, this.1, this.2⟩
  obtain ⟨hz, hs9, hb9⟩ := hz9
  obtain ⟨z, hz1, hz2⟩ : ∃ z, i9.zero = some z ∧ z.cells = #[.string ⟨#[]⟩] := by
    cases h : i9.zero with
    | none => rw [h] at hz; cases hz
    | some z => rw [h] at hz; simp only [Option.map_some, Option.some.injEq] at hz; exact ⟨z, rfl, hz⟩
  have hl63 : n + 1 ≤ maxLen := Nat.le_trans (by omega : n + 1 ≤ 1000001) (by decide)
  obtain ⟨v', w', hrun, hown, hgrow, _, hblk⟩ := run_append_own_at (P := Tryz.prog) w B 22 ty 9 i9 z 1 16 Tryz.underlying22 hi9 hz1 hs9 hb9 (by rw [hz2]; rfl) (by decide)
    (.slice a n cp) n (l.map Value.string) hrow ad 1 c2 [.string s] rfl (fun j u hj => by
      match j, hj with
      | 0, hj =>
        simp only [List.getElem?_cons_zero, Option.some.injEq] at hj
        subst hj
        have : ad.add 0 = ad := by unfold Addr.add; simp
        rw [this]; exact hs
      | j + 1, hj => simp at hj) (fun u hu => by simp only [List.mem_singleton] at hu; subst hu; rfl) hl63 (by omega) hB
  have hrow' : w'.ownsRow B 9 1 v' (n + 1) ((l ++ [s]).map Value.string) := by simpa using hown
  obtain ⟨a', c', rfl, _⟩ := StrsAt.of_row (B := ⟨B, []⟩) hrow' (fun _ _ h => by simp at h)
  have hob : ∀ (x : Option Addr) (i j : Nat), Value.ownBlock (.slice x i j) = x.map Addr.block := fun x i j => by cases x <;> rfl
  rw [hob, hob] at hblk
  exact ⟨a', c', w', hrun, hrow', hgrow, hblk⟩

/-- One text behind a row of one's own; the names are forgotten. -/
theorem gets_append9 {B : Nat} {w0 : World} {ε : Env} {nt : Nat} {f : FuncId} {k : List Item} {σ : St} {a : Act} {w : World} {R : Ending → World → Prop} (d x y b : Nat) (ap : Option Addr) (n cp : Nat) (l : List ByteArray) (s : ByteArray) (tl : List (Nat × SV))
    (hN : New w0 w) (hB0 : B = w0.heap.size) (hc : CRel ε nt σ a w) (hop : opX k = some (some d, .call ⟨.builtin .append, #[.tmp x, .tmp y], #[22, 22]⟩, 22)) (hx : lk x σ.tl = some (.e (.c (.sl ap n cp)))) (hy : lk y σ.tl = some (.e (.c (.nsl b 0 1 1)))) (hb : σ.bs[b]? = some ⟨9, [.str s]⟩)
    (hrow : Row B w ap n cp l) (hn : n ≤ 1000000) (hd : Nat.blt d nt = true) (hT : ∀ ρ', AllT ε.ρ ρ' σ.tl tl)
    (h : ∀ a' w' ap' cp', New w0 w' → Row B w' ap' (n + 1) cp' (l ++ [s]) → CRel (lenv B w' []) nt { tl := (d, .e (.c (.sl ap' (n + 1) cp'))) :: tl, bs := [] } a' w' → Gets Tryz.prog f (popX k) a' w' R) :
    Gets Tryz.prog f k a w R := by
  have hcell : w.cell? ⟨ε.ρ b, 0, none⟩ = some (.string s) := by have := hc.mem.sees.cell? hb 0; simpa [C.real] using this
  obtain ⟨ap', cp', w', hrun, hrow', hgrow, _⟩ := append9 hrow ⟨ε.ρ b, 0, none⟩ 1 s hcell hn (by rw [hB0]; exact hN.size) 22
  have hex : a.eval (.tmp x) = .slice ap n cp := ev_ok hc.tl (x := .tmp x) hx
  have hey : a.eval (.tmp y) = .slice (some ⟨ε.ρ b, 0, none⟩) 1 1 := ev_ok hc.tl (x := .tmp y) hy
  have hN' : New w0 w' := ⟨hgrow.os.trans hN.os, hgrow.tape.trans hN.tape, hgrow.output.trans hN.output, Nat.le_trans hN.size hgrow.size, fun j hj => by
    rw [hgrow.block j (Nat.lt_of_lt_of_le hj hN.size) ?_]
    · exact hN.block j hj
    · intro e
      obtain ⟨_, h2⟩ := hrow
      rcases h2 with ⟨h3, _⟩ | ⟨g, cap, cur, h3, h4, _⟩
      · simp only [Value.slice.injEq] at h3; rw [h3.1] at e; simp [Value.ownBlock] at e
      · simp only [Value.slice.injEq] at h3
        rw [h3.1] at e
        simp only [Value.ownBlock, Option.some.injEq] at e
        omega⟩
  refine gets_opX (dst := some d) (op := .call ⟨.builtin .append, #[.tmp x, .tmp y], #[22, 22]⟩) (ty := 22) hop (v := .slice ap' (n + 1) cp') (w' := w') (fun pos after => by simp [execOp, resolve, invoke, builtin, hex, hey, hrun]) ?_
  refine h _ w' ap' cp' hN' hrow' ⟨fun d' v hd' => ?_, by rw [Act.put_size]; exact hc.size, by rw [Act.put_defers']; exact hc.defers, rel_nil w' _ (fun _ _ h => (oro_le h).2)⟩
  simp only [lk] at hd'
  split at hd'
  · rename_i e
    cases hd'
    subst e
    show (a.tmps.setIfInBounds d _)[d]? = _
    rw [Array.getElem?_setIfInBounds_self_of_lt (by rw [hc.size]; exact Nat.le_of_ble_eq_true hd)]
    rfl
  · rename_i hne
    obtain ⟨u, hu1, hu2⟩ := (hT (lenv B w' []).ρ).lk hd'
    show (a.tmps.setIfInBounds d _)[d']? = _
    rw [Array.getElem?_setIfInBounds_ne hne, hc.tl d' u hu1, hu2]

/-- One text behind a row of one's own while a machine lives; one block keeps its name. -/
theorem gets_append9m {x0 : List Nat} {w0 : World} {ε : Env} {nt : Nat} {f : FuncId} {k : List Item} {σ : St} {a : Act} {w : World} {R : Ending → World → Prop} {ku bm : Nat} {m : M} (d x y b i : Nat) (nb : NB) (ap : Option Addr) (n cp : Nat) (l : List ByteArray) (s : ByteArray) (tl : List (Nat × SV))
    (hN : New w0 w) (hu : LU ⟨w0.heap.size, x0⟩ w0 w ku bm m) (hc : CRel ε nt σ a w) (hop : opX k = some (some d, .call ⟨.builtin .append, #[.tmp x, .tmp y], #[22, 22]⟩, 22)) (hx : lk x σ.tl = some (.e (.c (.sl ap n cp)))) (hy : lk y σ.tl = some (.e (.c (.nsl b 0 1 1)))) (hb : σ.bs[b]? = some ⟨9, [.str s]⟩)
    (hi : σ.bs[i]? = some nb) (hcs : nb.cs.all (C.below 0) = true) (hnt : nb.ty ≠ 9) (hB : w0.heap.size ≤ ε.ρ i)
    (hrow : Row w0.heap.size w ap n cp l) (hxg : ∀ g, ap = some ⟨g, 0, none⟩ → g ∈ x0) (hn : n ≤ 1000000) (hd : Nat.blt d nt = true) (hT : ∀ w', AllT ε.ρ (lenv w0.heap.size w' [ε.ρ i]).ρ σ.tl tl)
    (h : ∀ a' w' ap' cp' x', New w0 w' → LU ⟨w0.heap.size, x'⟩ w0 w' ku bm m → (∀ g ∈ x0, g ∈ x') → (∀ g, ap' = some ⟨g, 0, none⟩ → g ∈ x') → Row w0.heap.size w' ap' (n + 1) cp' (l ++ [s]) → w.heap.size ≤ w'.heap.size → CRel (lenv w0.heap.size w' [ε.ρ i]) nt { tl := (d, .e (.c (.sl ap' (n + 1) cp'))) :: tl, bs := [nb] } a' w' → Gets Tryz.prog f (popX k) a' w' R) :
    Gets Tryz.prog f k a w R := by
  have hcell : w.cell? ⟨ε.ρ b, 0, none⟩ = some (.string s) := by have := hc.mem.sees.cell? hb 0; simpa [C.real] using this
  obtain ⟨ap', cp', w', hrun, hrow', hgrow, hwhere⟩ := append9 hrow ⟨ε.ρ b, 0, none⟩ 1 s hcell hn hN.size 22
  have hex : a.eval (.tmp x) = .slice ap n cp := ev_ok hc.tl (x := .tmp x) hx
  have hey : a.eval (.tmp y) = .slice (some ⟨ε.ρ b, 0, none⟩) 1 1 := ev_ok hc.tl (x := .tmp y) hy
  obtain ⟨_, _, hat⟩ := hrow.at_
  have hblk : ∀ k, k < w.heap.size → w'.heap[k]? = w.heap[k]? ∨ (k ∈ x0 ∧ w0.heap.size ≤ k ∧ ∃ x, w.heap[k]? = some (.cells x 9 (0, 0))) := fun k hk => by
    rcases hat with ⟨rfl, _, _⟩ | ⟨g, cur, rfl, h4, h5⟩
    · exact .inl (hgrow.block k hk (by simp [Value.ownBlock]))
    · by_cases e : k = g
      · subst e; exact .inr ⟨hxg k rfl, h4, cur, h5⟩
      · exact .inl (hgrow.block k hk (by simp [Value.ownBlock, e]))
  have hN' : New w0 w' := ⟨hgrow.os.trans hN.os, hgrow.tape.trans hN.tape, hgrow.output.trans hN.output, Nat.le_trans hN.size hgrow.size, fun j hj =>
    ((hblk j (Nat.lt_of_lt_of_le hj hN.size)).elim (fun e => e) (fun ⟨_, h2, _⟩ => by omega)).trans (hN.block j hj)⟩
  have hri := hc.mem.cells i nb hi
  rw [map_plain _ hcs] at hri
  have hri' : w'.heap[ε.ρ i]? = some (.cells (plainR nb.cs) nb.ty (0, 0)) := by
    rw [(hblk _ (lt_of_block hri)).elim (fun e => e) (fun ⟨_, _, x, h3⟩ => by
      rw [hri] at h3
      simp only [Option.some.injEq, Obj.cells.injEq] at h3
      exact absurd h3.2.1 hnt)]
    exact hri
  refine gets_opX (dst := some d) (op := .call ⟨.builtin .append, #[.tmp x, .tmp y], #[22, 22]⟩) (ty := 22) hop (v := .slice ap' (n + 1) cp') (w' := w') (fun pos after => by simp [execOp, resolve, invoke, builtin, hex, hey, hrun]) ?_
  have hcr : CRel (lenv w0.heap.size w' [ε.ρ i]) nt { tl := (d, .e (.c (.sl ap' (n + 1) cp'))) :: tl, bs := [nb] } (a.put (some d) (.slice ap' (n + 1) cp')) w' := by
    refine ⟨fun d' v hd' => ?_, by rw [Act.put_size]; exact hc.size, by rw [Act.put_defers']; exact hc.defers, ?_⟩
    · simp only [lk] at hd'
      split at hd'
      · rename_i e
        cases hd'
        subst e
        show (a.tmps.setIfInBounds d _)[d]? = _
        rw [Array.getElem?_setIfInBounds_self_of_lt (by rw [hc.size]; exact Nat.le_of_ble_eq_true hd)]
        rfl
      · rename_i hne
        obtain ⟨u, hu1, hu2⟩ := (hT w').lk hd'
        show (a.tmps.setIfInBounds d _)[d']? = _
        rw [Array.getElem?_setIfInBounds_ne hne, hc.tl d' u hu1, hu2]
    · refine rel_start rfl ?_ ?_ (fun ad v hv => by obtain ⟨h1, h2⟩ := oro_le hv; exact ⟨h2, by simp; omega⟩)
      · intro i j k hi hj
        match i, j, hi, hj with
        | 0, 0, _, _ => rfl
        | i + 1, _, hi, _ => simp at hi
        | 0, j + 1, _, hj => simp at hj
      · intro j nb' k hj hk
        match j, hj, hk with
        | 0, hj, hk =>
          simp only [List.getElem?_cons_zero, Option.some.injEq] at hj hk
          subst hj; subst hk
          rw [map_plain _ hcs]
          exact hri'
        | j + 1, hj, _ => simp at hj
  obtain ⟨_, _, hat'⟩ := hrow'.at_
  have hgn : ∃ g' cur', ap' = some ⟨g', 0, none⟩ ∧ w'.heap[g']? = some (.cells cur' 9 (0, 0)) := by
    rcases hat' with ⟨_, _, h3⟩ | ⟨g', cur', h3, _, h5⟩
    · simp at h3
    · exact ⟨g', cur', h3, h5⟩
  obtain ⟨g', cur', hap', hg'⟩ := hgn
  subst hap'
  by_cases hold : g' < w.heap.size
  · -- in place
    have hap : ap = some ⟨g', 0, none⟩ := by
      rcases hwhere with e | e
      · rcases hat with ⟨rfl, _, _⟩ | ⟨g, cur, rfl, h4, h5⟩
        · simp at e
        · simp only [Option.map_some, Option.some.injEq] at e; rw [e]
      · simp only [Option.map_some, Option.some.injEq] at e; omega
    have hgB : w0.heap.size ≤ g' := by
      rcases hat with ⟨rfl, _, _⟩ | ⟨g, cur, rfl, h4, h5⟩
      · simp at hap
      · simp only [Option.some.injEq, Addr.mk.injEq] at hap; omega
    obtain ⟨cur, hcur⟩ : ∃ cur, w.heap[g']? = some (.cells cur 9 (0, 0)) := by
      rcases hat with ⟨rfl, _, _⟩ | ⟨g, cur, rfl, h4, h5⟩
      · simp at hap
      · simp only [Option.some.injEq, Addr.mk.injEq] at hap; exact ⟨cur, hap.1 ▸ h5⟩
    obtain ⟨q1, q2, q3⟩ := hu.u.2.2.sideX (B := ⟨w0.heap.size, x0⟩) hgB (hxg g' hap) (T := 9) (by decide) (by decide) hcur hgrow.os hgrow.tape hgrow.output hgrow.size (fun k hk hne => hgrow.block k hk (by rw [hap]; simp [Value.ownBlock, hne]))
    exact h _ w' _ cp' x0 hN' ⟨⟨hu.u.1, hu.u.2.1.keep q2, q1⟩, fun j ho => hu.own j (q3 j ho)⟩ (fun _ hg => hg) (fun g hg => by simp only [Option.some.injEq, Addr.mk.injEq] at hg; rw [← hg.1]; exact hxg g' hap) hrow' hgrow.size hcr
  · obtain ⟨q1, q2, q3⟩ := hu.u.2.2.growX (B := ⟨w0.heap.size, x0⟩) (kr := g') (by omega) (lt_of_block hg') hgrow.os hgrow.tape hgrow.output hgrow.size hblk
    exact h _ w' _ cp' (g' :: x0) hN' ⟨⟨hu.u.1, (hu.u.2.1.excl (by omega)).keep q2, q1⟩, fun j ho => hu.own j (q3 j ho)⟩ (fun _ hg => List.mem_cons_of_mem _ hg) (fun g hg => by simp only [Option.some.injEq, Addr.mk.injEq] at hg; rw [← hg.1]; exact List.mem_cons_self) hrow' hgrow.size hcr

end Go.Proofs.YtoihipolfdhhnaaGreatDoor

namespace Go.Proofs.YtoihipolfdhhnaaGreatDoor

abbrev sF : ByteArray := ⟨#[47, 102]⟩

def cats (r : Nat) : List ByteArray := List.replicate r sF
def cS (r : Nat) : M := (m0 sCat).push (.start .cat (cats r))
def cO (r : Nat) : M := ⟨sCat, 0, [.exit0, .each (cats r) .cat], some (.tries sF .cat), { op := 2, path := sF, want := 4 }, false⟩
def cR (r : Nat) : M := ⟨sCat, 0, [.exit0, .each (cats r) .cat], some (.pours 9 1 (.closes [9])), { op := 4, fd := 9, n := 256 }, false⟩
def cW (r : Nat) (t : ByteArray) : M := ⟨sCat, 0, [.exit0, .each (cats r) .cat], some (.say 1 t (.pours 9 1 (.closes [9]))), { op := 5, fd := 1, text := t }, false⟩
def cC (r : Nat) : M := ⟨sCat, 0, [.exit0, .each (cats r) .cat], some (.closes [9]), { op := 3, fd := 9 }, false⟩
def cX : M := ⟨sCat, 0, [], none, { op := 20, n := 0 }, true⟩

theorem sF_ne : (sF.toList == [45]) = false := by simp
theorem szF : sF.size = 2 := rfl
theorem szCat : sCat.size = 3 := rfl

theorem cats_succ (r : Nat) : cats (r + 1) = sF :: cats r := rfl

theorem tS (r : Nat) : next 10 (cS (r + 1)) {} = cO (r + 1) := by
  simp [next, cS, cO, m0, M.push, turn, runK, runD, cats_succ, runEach, runE, M.tries, M.sys]
theorem kS (r : Nat) : okNext 10 (cS (r + 1)) {} := by
  simp [okNext, cS, m0, M.push, okTurn, okK, okD, runK, runD, cats_succ, okEach, okE, runEach, runE, M.tries, M.sys]
theorem tO (r : Nat) : next 10 (cO r) { n := 9 } = cR r := by
  simp [next, cO, cR, turn, runR, M.tried, M.pours, M.sys]
theorem kO (r : Nat) : okNext 10 (cO r) { n := 9 } := by
  simp [okNext, cO, okTurn, okR, runR, M.tried, M.pours, M.sys, szF, szCat]
theorem tRt (r : Nat) (t : ByteArray) (h : (t.toList == []) = false) : next 10 (cR r) { text := t } = cW r t := by
  simp [next, cR, cW, turn, runR, M.poured, M.say, M.sys, h]
theorem kRt (r : Nat) (t : ByteArray) (h : (t.toList == []) = false) : okNext 10 (cR r) { text := t } := by
  simp [okNext, cR, okTurn, okR, okK, runR, M.poured, M.say, M.sys, h]
theorem tRe (r : Nat) : next 10 (cR r) {} = cC r := by
  simp [next, cR, cC, turn, runR, runK, M.poured, M.closes, M.sys, ByteArray.toList_eq]
theorem kRe (r : Nat) : okNext 10 (cR r) {} := by
  simp [okNext, cR, okTurn, okR, okK, runR, runK, M.poured, M.closes, M.sys, ByteArray.toList_eq]
theorem tWe (r : Nat) (t : ByteArray) (n : Int) (h : n ≥ t.size) : next 10 (cW r t) { n := n } = cR r := by
  simp [next, cW, cR, turn, runR, runK, M.said, M.pours, M.sys, h]
theorem kWe (r : Nat) (t : ByteArray) (n : Int) : okNext 10 (cW r t) { n := n } := by
  simp only [okNext, cW, okR, okK, runR, runK, M.said, M.pours, M.sys, M.say]
  simp
  split <;> simp [okTurn]
theorem tWr (r : Nat) (t : ByteArray) (n : Int) (h1 : 1 ≤ n) (h : n < t.size) : next 10 (cW r t) { n := n } = cW r (rest t n) := by
  have h2 : ¬ n < 1 := by omega
  have h3 : ¬ (t.size : Int) ≤ n := by omega
  simp [next, cW, turn, runR, M.said, M.say, M.sys, h2, h3]
theorem tC1 : next 10 (cC 1) {} = cX := by
  simp [next, cC, cX, cats, turn, runR, runK, runEach, M.closes, M.exit]; decide
theorem kC1 : okNext 10 (cC 1) {} := by
  simp [okNext, cC, cats, okTurn, okR, okK, okEach, runR, runK, runEach, M.closes, M.exit]
theorem tC2 (r : Nat) : next 10 (cC (r + 2)) {} = cO (r + 1) := by
  simp [next, cC, cO, cats_succ, turn, runR, runK, runEach, runE, M.closes, M.push, M.tries, M.sys]
theorem kC2 (r : Nat) : okNext 10 (cC (r + 2)) {} := by
  simp [okNext, cC, cats_succ, okTurn, okR, okK, okEach, okE, runR, runK, runEach, runE, M.closes, M.push, M.tries, M.sys]

end Go.Proofs.YtoihipolfdhhnaaGreatDoor

namespace Go.Proofs.YtoihipolfdhhnaaGreatDoor

/-- A slice of slices of texts. -/
structure FilesAt (B : Nat) (w : World) (a : Option Addr) (n c : Nat) (l : List (List ByteArray)) : Prop where
  len : n = l.length
  cap : n ≤ c
  at_ : ∀ j x, l[j]? = some x → ∃ ad a' n' c', a = some ad ∧ w.cell? (ad.add j) = some (.slice a' n' c') ∧ ad.block < B ∧ n' = x.length ∧ n' ≤ c' ∧
    ∀ i s, x[i]? = some s → ∃ ad', a' = some ad' ∧ w.cell? (ad'.add i) = some (.string s) ∧ ad'.block < B

theorem cell_new {w w' : World} (hn : New w w') {a : Addr} {v : Value} (h : w.cell? a = some v) : w'.cell? a = some v := by
  rw [World.cell?_of_block (hn.block _ (World.block_lt_of_cell? w a h))]; exact h

theorem FilesAt.fresh {B : Nat} {w w' : World} {a : Option Addr} {n c : Nat} {l : List (List ByteArray)} (h : FilesAt B w a n c l) (hn : New w w') : FilesAt B w' a n c l :=
  ⟨h.len, h.cap, fun j x hj => by
    obtain ⟨ad, a', n', c', h1, h2, h3, h4, h5, h6⟩ := h.at_ j x hj
    exact ⟨ad, a', n', c', h1, cell_new hn h2, h3, h4, h5, fun i s hi => by obtain ⟨ad', g1, g2, g3⟩ := h6 i s hi; exact ⟨ad', g1, cell_new hn g2, g3⟩⟩⟩

noncomputable def cats0 : List Item := (run Tab Tryz.f4.ntmps 20 (code Tryz.f4) (ini [.e (.c (.sl none 0 0))] [] [])).1
noncomputable def cats1 : List Item := (run Tab Tryz.f4.ntmps 60 (popX cats0) { tl := [(0, .e (.c (.sl none 0 0))), (16, .e (.c (.bool true)))], bs := [], orc := [false] }).1
noncomputable def catsH1 : List Item := (loopX cats1).getD []
noncomputable def cats2 : List Item := (run Tab Tryz.f4.ntmps 60 catsH1 { tl := [(0, .e (.c (.sl (some ⟨0, 0, none⟩) 1 1))), (3, .e (.c (.bool true))), (4, .e (.c (.sl none 0 0))), (5, .e (.c (.str ⟨#[]⟩))), (6, .e (.c (.int .i64 0)))], bs := [], orc := [true, false], ext := [.e (.c (.sl none 0 0))] }).1
noncomputable def cats3 : List Item := (run Tab Tryz.f4.ntmps 60 (popX cats2) { tl := [(38, .e (.c (.sl none 0 0))), (0, .e (.c (.sl (some ⟨0, 0, none⟩) 1 1))), (3, .e (.c (.bool true))), (5, .e (.c (.str ⟨#[]⟩))), (6, .e (.c (.int .i64 0)))], bs := [] }).1
noncomputable def catsH2 : List Item := (loopX cats3).getD []

def addAll : ByteArray → List ByteArray → ByteArray := List.foldl (· ++ ·)

theorem addAll_size : ∀ (l : List ByteArray) (s : ByteArray), (∀ x ∈ l, x.size ≤ 256) → (addAll s l).size ≤ s.size + 256 * l.length
  | [], s, _ => by simp [addAll]
  | x :: l, s, h => by
    have h1 := addAll_size l (s ++ x) (fun y hy => h y (List.mem_cons_of_mem _ hy))
    have h2 := h x (List.mem_cons_self ..)
    simp only [addAll, List.foldl_cons, List.length_cons] at h1 ⊢
    rw [ByteArray.size_append] at h1
    omega

abbrev C1 (w0 w : World) (a : Act) (af : Option Addr) (nf cf : Nat) (ap : Option Addr) (np cp : Nat) (want : ByteArray) (i : Nat) : Prop :=
  CRel (lenv w0.heap.size w []) Tryz.f4.ntmps { tl := [(0, .e (.c (.sl af nf cf))), (3, .e (.c (.bool true))), (4, .e (.c (.sl ap np cp))), (5, .e (.c (.str want))), (6, .e (.c (.int .i64 (i : Int))))], bs := [] } a w
abbrev C2 (w0 w : World) (a : Act) (af : Option Addr) (nf cf : Nat) (ap : Option Addr) (np cp : Nat) (want : ByteArray) (i k : Nat) : Prop :=
  CRel (lenv w0.heap.size w []) Tryz.f4.ntmps { tl := [(0, .e (.c (.sl af nf cf))), (3, .e (.c (.bool true))), (4, .e (.c (.sl ap np cp))), (5, .e (.c (.str want))), (6, .e (.c (.int .i64 (i : Int)))), (7, .e (.c (.int .i64 (k : Int))))], bs := [] } a w

abbrev CatR (w0 : World) : Ending → World → Prop := Gives (.bool true) (fun _ => True) w0

def Good (s : ByteArray) : Prop := (s.toList == []) = false ∧ s.size ≤ 256

theorem wrap_nat {n : Nat} (h : n ≤ 9223372036854775807) : IntKind.i64.wrap (n : Int) = (n : Int) := wrap_small (by omega) (by omega)
theorem wrap_succ {n : Nat} (h : n ≤ 1000000) : IntKind.i64.wrap ((n : Int) + 1) = ((n + 1 : Nat) : Int) := wrap_small (by omega) (by omega)

theorem cats_in (w0 : World) (ad : Addr) (nf cf : Nat) (files : List (List ByteArray)) (hf : FilesAt w0.heap.size w0 (some ad) nf cf files) (i : Nat) (hi10 : i < 10) (l : List ByteArray) (hl : files[i]? = some l) (hl10 : l.length ≤ 10) (np : Nat) (args : List ByteArray)
    (tot : ByteArray) (hcont : (∀ s ∈ l, Good s) → ∀ w a ap cp, New w0 w → Row w0.heap.size w ap np cp args → C1 w0 w a (some ad) nf cf ap np cp tot (i + 1) → Gets Tryz.prog 4 catsH1 a w (CatR w0)) :
    ∀ (ls pre : List ByteArray), l = pre ++ ls → (∀ s ∈ pre, Good s) → ∀ (want : ByteArray) (w : World) (a : Act) (ap : Option Addr) (cp : Nat), want.size + 256 * ls.length ≤ 1000000 → addAll want ls = tot → New w0 w → Row w0.heap.size w ap np cp args → C2 w0 w a (some ad) nf cf ap np cp want i pre.length → Gets Tryz.prog 4 catsH2 a w (CatR w0) := by
  intro ls
  induction ls with
  | nil =>
    intro pre hpre hg want w a ap cp _ htot hN hrow hc
    obtain ⟨ad0, a', n', c', e0, h2, h3, h4, h5, h6⟩ := (hf.fresh hN).at_ i l hl
    cases e0
    have hA : oro w0.heap.size w (ad.add ((i : Int).toNat * 1)) = some (.slice a' n' c') := oro_of (by rw [addr_add_block]; exact h3) (by simpa using h2)
    have hin : 0 ≤ (i : Int) ∧ (i : Int) < (nf : Int) := ⟨by omega, by have := (List.getElem?_eq_some_iff.1 hl).1; have := hf.len; omega⟩
    have hlt : decide ((pre.length : Int) < (n' : Int)) = false := by rw [h4, hpre]; simp
    refine gets_run tab_ok 60 (hc.feed [false] [.e (.c (.sl a' n' c'))]) (holds_of (obs := [fun _ => (0 : Int) ≤ (↑i : Int) ∧ (↑i : Int) < (↑nf : Int), fun ε => Env.ro ε (Addr.add ad (Int.toNat (↑i : Int) * (1 : Nat))) = some (C.real (Env.ρ ε) (C.sl a' n' c')), fun _ => decide ((↑(List.length pre) : Int) < (↑n' : Int)) = false]) (by kernel_rfl) ⟨hin, (by assumption), hlt, trivial⟩) (fun a1 w1 hc1 => ?_)
    replace hc1 := hc1.pickx [(0, .e (.c (.sl (some ad) nf cf))), (3, .e (.c (.bool true))), (4, .e (.c (.sl ap np cp))), (5, .e (.c (.str want))), (6, .e (.c (.int .i64 (IntKind.wrap IntKind.i64 ((↑i : Int) + (1 : Int)))))), (7, .e (.c (.int .i64 ((↑(List.length pre) : Int))))), (27, .e (.c (.int .i64 ((↑i : Int))))), (28, .e (.c (.int .i64 (IntKind.wrap IntKind.i64 ((↑i : Int) + (1 : Int)))))), (39, .e (.c (.int .i64 ((↑(List.length pre) : Int))))), (40, .e (.c (.sl (some ad) nf cf))), (41, .e (.c (.int .i64 ((↑i : Int))))), (42, .e (.c (.rp (Addr.add ad (Int.toNat (↑i : Int) * (1 : Nat)))))), (43, .e (.c (.sl a' n' c'))), (44, .e (.c (.int .i64 ((↑n' : Int))))), (45, .e (.c (.bool false)))] [] [] (by kernel_rfl) (by kernel_rfl)
    have hN1 := hN.trans ((Over.lenv (New.refl w) (by simp)).rel hc1.mem)
    have hc2 := hc1.anchor0 w0.heap.size [(0, .e (.c (.sl (some ad) nf cf))), (3, .e (.c (.bool true))), (4, .e (.c (.sl ap np cp))), (5, .e (.c (.str want))), (6, .e (.c (.int .i64 ((i + 1 : Nat) : Int))))] [] [] ⟨rfl, rfl, rfl, rfl, by show some (Value.int .i64 (IntKind.i64.wrap ((i : Int) + 1))) = _; rw [wrap_succ (by omega)]; rfl, trivial⟩
    refine gets_loop (k' := catsH1) (by kernel_rfl) ?_
    simp only [addAll, List.foldl_nil] at htot
    subst htot
    exact hcont (by rw [hpre]; simpa using hg) w1 a1 ap cp hN1 (hrow.fresh ((Over.lenv (New.refl w) (by simp)).rel hc1.mem)) hc2
  | cons s ls ih =>
    intro pre hpre hg want w a ap cp hsz htot hN hrow hc
    obtain ⟨ad0, a', n', c', e0, h2, h3, h4, h5, h6⟩ := (hf.fresh hN).at_ i l hl
    cases e0
    have hls : l[pre.length]? = some s := by rw [hpre]; simp
    obtain ⟨ad', rfl, g2, g3⟩ := h6 pre.length s hls
    have hll : l.length = pre.length + (ls.length + 1) := by rw [hpre]; simp
    have hA : oro w0.heap.size w (ad.add ((i : Int).toNat * 1)) = some (.slice (some ad') n' c') := oro_of (by rw [addr_add_block]; exact h3) (by simpa using h2)
    have hS : oro w0.heap.size w (ad'.add ((pre.length : Int).toNat * 1)) = some (.string s) := oro_of (by rw [addr_add_block]; exact g3) (by simpa using g2)
    have hin : 0 ≤ (i : Int) ∧ (i : Int) < (nf : Int) := ⟨by omega, by have := (List.getElem?_eq_some_iff.1 hl).1; have := hf.len; omega⟩
    have hin2 : 0 ≤ (pre.length : Int) ∧ (pre.length : Int) < (n' : Int) := ⟨by omega, by omega⟩
    have hlt : decide ((pre.length : Int) < (n' : Int)) = true := by rw [h4, hll]; simp; omega
    have hem : (⟨#[]⟩ : ByteArray).toList = [] := by rw [ByteArray.toList_eq]
    by_cases he : (s.toList == []) = true
    · have he' : (s.toList == (⟨#[]⟩ : ByteArray).toList) = true := by rw [hem]; exact he
      refine gets_run tab_ok 90 (hc.feed [true, true] [.e (.c (.sl (some ad') n' c')), .e (.c (.sl (some ad') n' c')), .e (.c (.str s))]) (holds_of (obs := [fun _ => (0 : Int) ≤ (↑i : Int) ∧ (↑i : Int) < (↑nf : Int), fun ε => Env.ro ε (Addr.add ad (Int.toNat (↑i : Int) * (1 : Nat))) = some (C.real (Env.ρ ε) (C.sl (some ad') n' c')), fun _ => decide ((↑(List.length pre) : Int) < (↑n' : Int)) = true, fun _ => (0 : Int) ≤ (↑i : Int) ∧ (↑i : Int) < (↑nf : Int), fun ε => Env.ro ε (Addr.add ad (Int.toNat (↑i : Int) * (1 : Nat))) = some (C.real (Env.ρ ε) (C.sl (some ad') n' c')), fun _ => (0 : Int) ≤ (↑(List.length pre) : Int) ∧ (↑(List.length pre) : Int) < (↑n' : Int), fun ε => Env.ro ε (Addr.add ad' (Int.toNat (↑(List.length pre) : Int) * (1 : Nat))) = some (C.real (Env.ρ ε) (C.str s)), fun _ => (ByteArray.toList s == ByteArray.toList { data := #[] }) = true]) (by kernel_rfl) ⟨hin, (by assumption), hlt, hin, (by assumption), hin2, (by assumption), he', trivial⟩) (fun a1 w1 hc1 => ?_)
      replace hc1 := hc1.pickx [(0, .e (.c (.sl (some ad) nf cf))), (2, .e (.c (.bool true))), (3, .e (.c (.bool true))), (4, .e (.c (.sl ap np cp))), (5, .e (.c (.str want))), (6, .e (.c (.int .i64 ((↑i : Int))))), (7, .e (.c (.int .i64 ((↑(List.length pre) : Int))))), (39, .e (.c (.int .i64 ((↑(List.length pre) : Int))))), (40, .e (.c (.sl (some ad) nf cf))), (41, .e (.c (.int .i64 ((↑i : Int))))), (42, .e (.c (.rp (Addr.add ad (Int.toNat (↑i : Int) * (1 : Nat)))))), (43, .e (.c (.sl (some ad') n' c'))), (44, .e (.c (.int .i64 ((↑n' : Int))))), (45, .e (.c (.bool true))), (48, .e (.c (.sl (some ad) nf cf))), (49, .e (.c (.int .i64 ((↑i : Int))))), (50, .e (.c (.rp (Addr.add ad (Int.toNat (↑i : Int) * (1 : Nat)))))), (51, .e (.c (.sl (some ad') n' c'))), (52, .e (.c (.int .i64 ((↑(List.length pre) : Int))))), (53, .e (.c (.rp (Addr.add ad' (Int.toNat (↑(List.length pre) : Int) * (1 : Nat)))))), (54, .e (.c (.str s))), (55, .e (.c (.bool true))), (56, .e (.c (.bool true))), (66, .e (.c (.bool true))), (67, .e (.c (.bool true)))] [] [] (by kernel_rfl) (by kernel_rfl)
      exact gets_fin tab_ok (l := [.c (.bool true)]) hc1 Tryz.func4 (by kernel_rfl) (by kernel_rfl) ⟨rfl, hN.trans ((Over.lenv (New.refl w) (by simp)).rel hc1.mem), trivial⟩
    · have he' : (s.toList == (⟨#[]⟩ : ByteArray).toList) = false := by rw [hem]; simpa using he
      by_cases hb : s.size ≤ 256
      · have hb' : decide ((s.size : Int) > 256) = false := by simp; omega
        have hso : ((want.size + s.size : Nat) : Int) ≤ 9223372036854775807 := by simp only [List.length_cons] at hsz; omega
        refine gets_run tab_ok 120 (hc.feed [true, false, false] [.e (.c (.sl (some ad') n' c')), .e (.c (.sl (some ad') n' c')), .e (.c (.str s)), .e (.c (.sl (some ad') n' c')), .e (.c (.str s)), .e (.c (.sl (some ad') n' c')), .e (.c (.str s))]) (holds_of (obs := [fun _ => (0 : Int) ≤ (↑i : Int) ∧ (↑i : Int) < (↑nf : Int), fun ε => Env.ro ε (Addr.add ad (Int.toNat (↑i : Int) * (1 : Nat))) = some (C.real (Env.ρ ε) (C.sl (some ad') n' c')), fun _ => decide ((↑(List.length pre) : Int) < (↑n' : Int)) = true, fun _ => (0 : Int) ≤ (↑i : Int) ∧ (↑i : Int) < (↑nf : Int), fun ε => Env.ro ε (Addr.add ad (Int.toNat (↑i : Int) * (1 : Nat))) = some (C.real (Env.ρ ε) (C.sl (some ad') n' c')), fun _ => (0 : Int) ≤ (↑(List.length pre) : Int) ∧ (↑(List.length pre) : Int) < (↑n' : Int), fun ε => Env.ro ε (Addr.add ad' (Int.toNat (↑(List.length pre) : Int) * (1 : Nat))) = some (C.real (Env.ρ ε) (C.str s)), fun _ => (ByteArray.toList s == ByteArray.toList { data := #[] }) = false, fun _ => (0 : Int) ≤ (↑i : Int) ∧ (↑i : Int) < (↑nf : Int), fun ε => Env.ro ε (Addr.add ad (Int.toNat (↑i : Int) * (1 : Nat))) = some (C.real (Env.ρ ε) (C.sl (some ad') n' c')), fun _ => (0 : Int) ≤ (↑(List.length pre) : Int) ∧ (↑(List.length pre) : Int) < (↑n' : Int), fun ε => Env.ro ε (Addr.add ad' (Int.toNat (↑(List.length pre) : Int) * (1 : Nat))) = some (C.real (Env.ρ ε) (C.str s)), fun _ => decide ((↑(ByteArray.size s) : Int) > (256 : Int)) = false, fun _ => (0 : Int) ≤ (↑i : Int) ∧ (↑i : Int) < (↑nf : Int), fun ε => Env.ro ε (Addr.add ad (Int.toNat (↑i : Int) * (1 : Nat))) = some (C.real (Env.ρ ε) (C.sl (some ad') n' c')), fun _ => (0 : Int) ≤ (↑(List.length pre) : Int) ∧ (↑(List.length pre) : Int) < (↑n' : Int), fun ε => Env.ro ε (Addr.add ad' (Int.toNat (↑(List.length pre) : Int) * (1 : Nat))) = some (C.real (Env.ρ ε) (C.str s)), fun _ => (↑(ByteArray.size want + ByteArray.size s) : Int) ≤ (9223372036854775807 : Int)]) (by kernel_rfl) ⟨hin, (by assumption), hlt, hin, (by assumption), hin2, (by assumption), he', hin, (by assumption), hin2, (by assumption), hb', hin, (by assumption), hin2, (by assumption), hso, trivial⟩) (fun a1 w1 hc1 => ?_)
        replace hc1 := hc1.pickx [(0, .e (.c (.sl (some ad) nf cf))), (3, .e (.c (.bool true))), (4, .e (.c (.sl ap np cp))), (5, .e (.c (.str (want ++ s)))), (6, .e (.c (.int .i64 ((↑i : Int))))), (7, .e (.c (.int .i64 (IntKind.wrap IntKind.i64 ((↑(List.length pre) : Int) + (1 : Int)))))), (39, .e (.c (.int .i64 ((↑(List.length pre) : Int))))), (40, .e (.c (.sl (some ad) nf cf))), (41, .e (.c (.int .i64 ((↑i : Int))))), (42, .e (.c (.rp (Addr.add ad (Int.toNat (↑i : Int) * (1 : Nat)))))), (43, .e (.c (.sl (some ad') n' c'))), (44, .e (.c (.int .i64 ((↑n' : Int))))), (45, .e (.c (.bool true))), (46, .e (.c (.int .i64 ((↑(List.length pre) : Int))))), (47, .e (.c (.int .i64 (IntKind.wrap IntKind.i64 ((↑(List.length pre) : Int) + (1 : Int)))))), (48, .e (.c (.sl (some ad) nf cf))), (49, .e (.c (.int .i64 ((↑i : Int))))), (50, .e (.c (.rp (Addr.add ad (Int.toNat (↑i : Int) * (1 : Nat)))))), (51, .e (.c (.sl (some ad') n' c'))), (52, .e (.c (.int .i64 ((↑(List.length pre) : Int))))), (53, .e (.c (.rp (Addr.add ad' (Int.toNat (↑(List.length pre) : Int) * (1 : Nat)))))), (54, .e (.c (.str s))), (55, .e (.c (.bool false))), (56, .e (.c (.bool false))), (57, .e (.c (.sl (some ad) nf cf))), (58, .e (.c (.int .i64 ((↑i : Int))))), (59, .e (.c (.rp (Addr.add ad (Int.toNat (↑i : Int) * (1 : Nat)))))), (60, .e (.c (.sl (some ad') n' c'))), (61, .e (.c (.int .i64 ((↑(List.length pre) : Int))))), (62, .e (.c (.rp (Addr.add ad' (Int.toNat (↑(List.length pre) : Int) * (1 : Nat)))))), (63, .e (.c (.str s))), (64, .e (.c (.int .i64 ((↑(ByteArray.size s) : Int))))), (65, .e (.c (.bool false))), (66, .e (.c (.bool false))), (68, .e (.c (.str want))), (69, .e (.c (.sl (some ad) nf cf))), (70, .e (.c (.int .i64 ((↑i : Int))))), (71, .e (.c (.rp (Addr.add ad (Int.toNat (↑i : Int) * (1 : Nat)))))), (72, .e (.c (.sl (some ad') n' c'))), (73, .e (.c (.int .i64 ((↑(List.length pre) : Int))))), (74, .e (.c (.rp (Addr.add ad' (Int.toNat (↑(List.length pre) : Int) * (1 : Nat)))))), (75, .e (.c (.str s))), (76, .e (.c (.str (want ++ s))))] [] [] (by kernel_rfl) (by kernel_rfl)
        have hN1 := hN.trans ((Over.lenv (New.refl w) (by simp)).rel hc1.mem)
        have hc2 := hc1.anchor0 w0.heap.size [(0, .e (.c (.sl (some ad) nf cf))), (3, .e (.c (.bool true))), (4, .e (.c (.sl ap np cp))), (5, .e (.c (.str (want ++ s)))), (6, .e (.c (.int .i64 (i : Int)))), (7, .e (.c (.int .i64 ((pre.length + 1 : Nat) : Int))))] [] [] ⟨rfl, rfl, rfl, rfl, rfl, by show some (Value.int .i64 (IntKind.i64.wrap ((pre.length : Int) + 1))) = _; rw [wrap_succ (by omega)]; rfl, trivial⟩
        refine gets_loop (k' := catsH2) (by kernel_rfl) ?_
        have hpl : (pre ++ [s]).length = pre.length + 1 := by simp
        refine ih (pre ++ [s]) (by rw [hpre]; simp) (fun x hx => ?_) (want ++ s) w1 a1 ap cp (by rw [ByteArray.size_append]; simp only [List.length_cons] at hsz; omega) htot hN1 (hrow.fresh ((Over.lenv (New.refl w) (by simp)).rel hc1.mem)) (by rw [hpl]; exact hc2)
        rcases List.mem_append.1 hx with hx | hx
        · exact hg x hx
        · simp only [List.mem_singleton] at hx
          subst hx
          exact ⟨by simpa using he, hb⟩
      · have hb' : decide ((s.size : Int) > 256) = true := by simp; omega
        refine gets_run tab_ok 120 (hc.feed [true, false, true] [.e (.c (.sl (some ad') n' c')), .e (.c (.sl (some ad') n' c')), .e (.c (.str s)), .e (.c (.sl (some ad') n' c')), .e (.c (.str s))]) (holds_of (obs := [fun _ => (0 : Int) ≤ (↑i : Int) ∧ (↑i : Int) < (↑nf : Int), fun ε => Env.ro ε (Addr.add ad (Int.toNat (↑i : Int) * (1 : Nat))) = some (C.real (Env.ρ ε) (C.sl (some ad') n' c')), fun _ => decide ((↑(List.length pre) : Int) < (↑n' : Int)) = true, fun _ => (0 : Int) ≤ (↑i : Int) ∧ (↑i : Int) < (↑nf : Int), fun ε => Env.ro ε (Addr.add ad (Int.toNat (↑i : Int) * (1 : Nat))) = some (C.real (Env.ρ ε) (C.sl (some ad') n' c')), fun _ => (0 : Int) ≤ (↑(List.length pre) : Int) ∧ (↑(List.length pre) : Int) < (↑n' : Int), fun ε => Env.ro ε (Addr.add ad' (Int.toNat (↑(List.length pre) : Int) * (1 : Nat))) = some (C.real (Env.ρ ε) (C.str s)), fun _ => (ByteArray.toList s == ByteArray.toList { data := #[] }) = false, fun _ => (0 : Int) ≤ (↑i : Int) ∧ (↑i : Int) < (↑nf : Int), fun ε => Env.ro ε (Addr.add ad (Int.toNat (↑i : Int) * (1 : Nat))) = some (C.real (Env.ρ ε) (C.sl (some ad') n' c')), fun _ => (0 : Int) ≤ (↑(List.length pre) : Int) ∧ (↑(List.length pre) : Int) < (↑n' : Int), fun ε => Env.ro ε (Addr.add ad' (Int.toNat (↑(List.length pre) : Int) * (1 : Nat))) = some (C.real (Env.ρ ε) (C.str s)), fun _ => decide ((↑(ByteArray.size s) : Int) > (256 : Int)) = true]) (by kernel_rfl) ⟨hin, (by assumption), hlt, hin, (by assumption), hin2, (by assumption), he', hin, (by assumption), hin2, (by assumption), hb', trivial⟩) (fun a1 w1 hc1 => ?_)
        replace hc1 := hc1.pickx [(0, .e (.c (.sl (some ad) nf cf))), (2, .e (.c (.bool true))), (3, .e (.c (.bool true))), (4, .e (.c (.sl ap np cp))), (5, .e (.c (.str want))), (6, .e (.c (.int .i64 ((↑i : Int))))), (7, .e (.c (.int .i64 ((↑(List.length pre) : Int))))), (39, .e (.c (.int .i64 ((↑(List.length pre) : Int))))), (40, .e (.c (.sl (some ad) nf cf))), (41, .e (.c (.int .i64 ((↑i : Int))))), (42, .e (.c (.rp (Addr.add ad (Int.toNat (↑i : Int) * (1 : Nat)))))), (43, .e (.c (.sl (some ad') n' c'))), (44, .e (.c (.int .i64 ((↑n' : Int))))), (45, .e (.c (.bool true))), (48, .e (.c (.sl (some ad) nf cf))), (49, .e (.c (.int .i64 ((↑i : Int))))), (50, .e (.c (.rp (Addr.add ad (Int.toNat (↑i : Int) * (1 : Nat)))))), (51, .e (.c (.sl (some ad') n' c'))), (52, .e (.c (.int .i64 ((↑(List.length pre) : Int))))), (53, .e (.c (.rp (Addr.add ad' (Int.toNat (↑(List.length pre) : Int) * (1 : Nat)))))), (54, .e (.c (.str s))), (55, .e (.c (.bool false))), (56, .e (.c (.bool false))), (57, .e (.c (.sl (some ad) nf cf))), (58, .e (.c (.int .i64 ((↑i : Int))))), (59, .e (.c (.rp (Addr.add ad (Int.toNat (↑i : Int) * (1 : Nat)))))), (60, .e (.c (.sl (some ad') n' c'))), (61, .e (.c (.int .i64 ((↑(List.length pre) : Int))))), (62, .e (.c (.rp (Addr.add ad' (Int.toNat (↑(List.length pre) : Int) * (1 : Nat)))))), (63, .e (.c (.str s))), (64, .e (.c (.int .i64 ((↑(ByteArray.size s) : Int))))), (65, .e (.c (.bool true))), (66, .e (.c (.bool true))), (67, .e (.c (.bool true)))] [] [] (by kernel_rfl) (by kernel_rfl)
        exact gets_fin tab_ok (l := [.c (.bool true)]) hc1 Tryz.func4 (by kernel_rfl) (by kernel_rfl) ⟨rfl, hN.trans ((Over.lenv (New.refl w) (by simp)).rel hc1.mem), trivial⟩

def GoodF (l : List ByteArray) : Prop := l.length ≤ 10 ∧ ∀ s ∈ l, Good s

def addFiles : ByteArray → List (List ByteArray) → ByteArray := List.foldl addAll

theorem cats_out (w0 : World) (ad : Addr) (nf cf : Nat) (files : List (List ByteArray)) (hf : FilesAt w0.heap.size w0 (some ad) nf cf files) (h10 : files.length ≤ 10) (tot : ByteArray)
    (hcont : (∀ l ∈ files, GoodF l) → ∀ w a ap cp, New w0 w → Row w0.heap.size w ap (files.length + 1) cp (sCat :: cats files.length) → C1 w0 w a (some ad) nf cf ap (files.length + 1) cp tot files.length → Gets Tryz.prog 4 catsH1 a w (CatR w0)) :
    ∀ (fs pre : List (List ByteArray)), files = pre ++ fs → (∀ l ∈ pre, GoodF l) → ∀ (want : ByteArray) (w : World) (a : Act) (ap : Option Addr) (cp : Nat), want.size + 2560 * fs.length ≤ 100000 → addFiles want fs = tot → New w0 w → Row w0.heap.size w ap (pre.length + 1) cp (sCat :: cats pre.length) → C1 w0 w a (some ad) nf cf ap (pre.length + 1) cp want pre.length → Gets Tryz.prog 4 catsH1 a w (CatR w0) := by
  intro fs
  induction fs with
  | nil =>
    intro pre hpre hg want w a ap cp hsz htot hN hrow hc
    have hpre' : files = pre := by simpa using hpre
    subst hpre'
    simp only [addFiles, List.foldl_nil] at htot
    subst htot
    exact hcont hg w a ap cp hN hrow hc
  | cons l fs ih =>
    intro pre hpre hg want w a ap cp hsz htot hN hrow hc
    have hfl : files.length = pre.length + (fs.length + 1) := by rw [hpre]; simp
    have hl : files[pre.length]? = some l := by rw [hpre]; simp
    obtain ⟨ad0, a', n', c', e0, h2, h3, h4, h5, h6⟩ := (hf.fresh hN).at_ pre.length l hl
    cases e0
    have hA : oro w0.heap.size w (ad.add ((pre.length : Int).toNat * 1)) = some (.slice a' n' c') := oro_of (by rw [addr_add_block]; exact h3) (by simpa using h2)
    have hin : 0 ≤ (pre.length : Int) ∧ (pre.length : Int) < (nf : Int) := ⟨by omega, by have := hf.len; omega⟩
    have hlt : decide ((pre.length : Int) < (nf : Int)) = true := by have := hf.len; simp; omega
    by_cases h11 : l.length ≤ 10
    · have h11' : decide ((n' : Int) > 10) = false := by rw [h4]; simp; omega
      refine gets_run tab_ok 60 (hc.feed [true, false] [.e (.c (.sl a' n' c'))]) (holds_of (obs := [fun _ => decide ((↑(List.length pre) : Int) < (↑nf : Int)) = true, fun _ => (0 : Int) ≤ (↑(List.length pre) : Int) ∧ (↑(List.length pre) : Int) < (↑nf : Int), fun ε => Env.ro ε (Addr.add ad (Int.toNat (↑(List.length pre) : Int) * (1 : Nat))) = some (C.real (Env.ρ ε) (C.sl a' n' c')), fun _ => decide ((↑n' : Int) > (10 : Int)) = false]) (by kernel_rfl) ⟨hlt, hin, (by assumption), h11', trivial⟩) (fun a1 w1 hc1 => ?_)
      replace hc1 := hc1.pickx [(0, .e (.c (.sl (some ad) nf cf))), (3, .e (.c (.bool true))), (4, .e (.c (.sl ap (List.length pre + (1 : Nat)) cp))), (5, .e (.c (.str want))), (6, .e (.c (.int .i64 ((↑(List.length pre) : Int))))), (23, .e (.c (.int .i64 ((↑(List.length pre) : Int))))), (24, .e (.c (.sl (some ad) nf cf))), (25, .e (.c (.int .i64 ((↑nf : Int))))), (26, .e (.c (.bool true))), (29, .e (.c (.sl (some ad) nf cf))), (30, .e (.c (.int .i64 ((↑(List.length pre) : Int))))), (31, .e (.c (.rp (Addr.add ad (Int.toNat (↑(List.length pre) : Int) * (1 : Nat)))))), (32, .e (.c (.sl a' n' c'))), (33, .e (.c (.int .i64 ((↑n' : Int))))), (34, .e (.c (.bool false))), (36, .e (.c (.sl ap (List.length pre + (1 : Nat)) cp))), (37, .e (.c (.nsl 0 0 1 1)))] [⟨9, [.str ⟨#[47, 102]⟩]⟩] [] (by kernel_rfl) (by kernel_rfl)
      have hN1 := hN.trans ((Over.lenv (New.refl w) (by simp)).rel hc1.mem)
      have hrow1 := hrow.fresh ((Over.lenv (New.refl w) (by simp)).rel hc1.mem)
      refine gets_append9 38 36 37 0 ap (pre.length + 1) cp (sCat :: cats pre.length) sF [(0, .e (.c (.sl (some ad) nf cf))), (3, .e (.c (.bool true))), (5, .e (.c (.str want))), (6, .e (.c (.int .i64 (pre.length : Int))))] hN1 rfl hc1 (by kernel_rfl) (by kernel_rfl) (by kernel_rfl) (by kernel_rfl) hrow1 (by omega) (by kernel_rfl) (fun ρ' => ⟨rfl, rfl, rfl, rfl, trivial⟩) (fun a2 w2 ap2 cp2 hN2 hrow2 hc2 => ?_)
      refine gets_run tab_ok 60 hc2 (holds_of (obs := []) (by kernel_rfl) trivial) (fun a3 w3 hc3 => ?_)
      replace hc3 := hc3.pickx [(0, .e (.c (.sl (some ad) nf cf))), (3, .e (.c (.bool true))), (4, .e (.c (.sl ap2 (List.length pre + (1 : Nat) + (1 : Nat)) cp2))), (5, .e (.c (.str want))), (6, .e (.c (.int .i64 ((↑(List.length pre) : Int))))), (7, .e (.c (.int .i64 0))), (38, .e (.c (.sl ap2 (List.length pre + (1 : Nat) + (1 : Nat)) cp2)))] [] [] (by kernel_rfl) (by kernel_rfl)
      have hn3 := (Over.lenv (New.refl w2) (by simp)).rel hc3.mem
      have hN3 := hN2.trans hn3
      have hc4 := hc3.anchor0 w0.heap.size [(0, .e (.c (.sl (some ad) nf cf))), (3, .e (.c (.bool true))), (4, .e (.c (.sl ap2 (pre.length + 1 + 1) cp2))), (5, .e (.c (.str want))), (6, .e (.c (.int .i64 (pre.length : Int)))), (7, .e (.c (.int .i64 ((([] : List ByteArray).length : Nat) : Int))))] [] [] ⟨rfl, rfl, rfl, rfl, rfl, rfl, trivial⟩
      refine gets_loop (k' := catsH2) (by kernel_rfl) ?_
      have hargs : sCat :: cats pre.length ++ [sF] = sCat :: cats (pre.length + 1) := by
        simp only [cats, List.cons_append, List.replicate_succ']
      rw [hargs] at hrow2
      refine cats_in w0 ad nf cf files hf pre.length (by omega) l hl h11 (pre.length + 1 + 1) (sCat :: cats (pre.length + 1)) (addAll want l) (fun hgood w5 a5 ap5 cp5 hN5 hrow5 hc5 => ?_) l [] rfl (fun _ h => by cases h) want w3 a3 ap2 cp2 (by simp only [List.length_cons] at hsz; omega) rfl hN3 (hrow2.fresh hn3) hc4
      have hpl : (pre ++ [l]).length = pre.length + 1 := by simp
      have hw5 := addAll_size l want (fun x hx => (hgood x hx).2)
      refine ih (pre ++ [l]) (by rw [hpre]; simp) (fun x hx => ?_) (addAll want l) w5 a5 ap5 cp5 (by simp only [List.length_cons] at hsz; omega) htot hN5 (by rw [hpl]; exact hrow5) (by rw [hpl]; exact hc5)
      rcases List.mem_append.1 hx with hx | hx
      · exact hg x hx
      · simp only [List.mem_singleton] at hx
        subst hx
        exact ⟨h11, hgood⟩
    · have h11' : decide ((n' : Int) > 10) = true := by rw [h4]; simp; omega
      refine gets_run tab_ok 90 (hc.feed [true, true] [.e (.c (.sl a' n' c'))]) (holds_of (obs := [fun _ => decide ((↑(List.length pre) : Int) < (↑nf : Int)) = true, fun _ => (0 : Int) ≤ (↑(List.length pre) : Int) ∧ (↑(List.length pre) : Int) < (↑nf : Int), fun ε => Env.ro ε (Addr.add ad (Int.toNat (↑(List.length pre) : Int) * (1 : Nat))) = some (C.real (Env.ρ ε) (C.sl a' n' c')), fun _ => decide ((↑n' : Int) > (10 : Int)) = true]) (by kernel_rfl) ⟨hlt, hin, (by assumption), h11', trivial⟩) (fun a1 w1 hc1 => ?_)
      replace hc1 := hc1.pickx [(0, .e (.c (.sl (some ad) nf cf))), (2, .e (.c (.bool true))), (3, .e (.c (.bool true))), (4, .e (.c (.sl ap (List.length pre + (1 : Nat)) cp))), (5, .e (.c (.str want))), (6, .e (.c (.int .i64 ((↑(List.length pre) : Int))))), (23, .e (.c (.int .i64 ((↑(List.length pre) : Int))))), (24, .e (.c (.sl (some ad) nf cf))), (25, .e (.c (.int .i64 ((↑nf : Int))))), (26, .e (.c (.bool true))), (29, .e (.c (.sl (some ad) nf cf))), (30, .e (.c (.int .i64 ((↑(List.length pre) : Int))))), (31, .e (.c (.rp (Addr.add ad (Int.toNat (↑(List.length pre) : Int) * (1 : Nat)))))), (32, .e (.c (.sl a' n' c'))), (33, .e (.c (.int .i64 ((↑n' : Int))))), (34, .e (.c (.bool true))), (35, .e (.c (.bool true)))] [] [] (by kernel_rfl) (by kernel_rfl)
      exact gets_fin tab_ok (l := [.c (.bool true)]) hc1 Tryz.func4 (by kernel_rfl) (by kernel_rfl) ⟨rfl, hN.trans ((Over.lenv (New.refl w) (by simp)).rel hc1.mem), trivial⟩

end Go.Proofs.YtoihipolfdhhnaaGreatDoor
