/-
  In the middle of a function: a call that works on the machine; a drawn region with a call at its end.
-/
import Derived.Test.YtoihipolfdhhnaaGreatDoorClosE
namespace Go.Proofs.YtoihipolfdhhnaaGreatDoor

theorem AllT.lk {ρ ρ' : Nat → Nat} {st : List (Nat × SV)} {tl : List (Nat × SV)} (h : AllT ρ ρ' st tl) {d : Nat} {v : SV} (hd : lk d tl = some v) : ∃ u, Go.Proofs.YtoihipolfdhhnaaGreatDoor.lk d st = some u ∧ u.real ρ = v.real ρ' := by
  induction tl with
  | nil => cases hd
  | cons x l ih =>
    obtain ⟨x1, x2⟩ := x
    simp only [Go.Proofs.YtoihipolfdhhnaaGreatDoor.lk] at hd
    split at hd
    · rename_i e
      cases hd
      subst e
      obtain ⟨h1, _⟩ := h
      simp only at h1
      cases hv : Go.Proofs.YtoihipolfdhhnaaGreatDoor.lk x1 st with
      | none => rw [hv] at h1; cases h1
      | some v' =>
        rw [hv] at h1
        simp only [Option.map_some, Option.some.injEq] at h1
        exact ⟨v', rfl, h1⟩
    · exact ih h.2 hd

theorem lk_notin {d : Nat} {tl : List (Nat × SV)} (h : (tl.all fun x => x.1 != d) = true) : lk d tl = none := by
  induction tl with
  | nil => rfl
  | cons x l ih =>
    simp only [List.all_cons, Bool.and_eq_true, bne_iff_ne] at h
    simp only [lk, if_neg h.1, ih h.2]

/-- A call that works on the machine; behind it no names. -/
theorem gets_does {B : Bd} {b : Nat} {ε : Env} {nt : Nat} {f : FuncId} {k : List Item} {σ : St} {a : Act} {w : World} {R : Ending → World → Prop} {c : CallX} {m1 : M} (d : Nat) (tl : List (Nat × SV)) (orc : List Bool) (ext : List SV)
    (hc : CRel ε nt σ a w) (hx : callX k σ = some c) (he : enters Tryz.prog c.fn = true) (hd : dstX k = some d) (hdn : (tl.all fun x => x.1 != d) = true)
    (hcall : Calls Tryz.prog c.fn (c.real ε.ρ) w (Does B b w m1)) (hT : ∀ ρ', AllT ε.ρ ρ' σ.tl tl)
    (h : ∀ a' w', MOk B w' b m1 → Evo w b w' → CRel (env0 B w') nt { tl := tl, bs := [], orc := orc, ext := ext } a' w' → Gets Tryz.prog f (popX k) a' w' R) : Gets Tryz.prog f k a w R := by
  refine gets_call hc hx he hcall (fun e w' ⟨h1, h2, h3⟩ => ⟨_, h1, ?_⟩)
  rw [hd]
  refine h _ w' h2 h3 ⟨fun d' v hd' => ?_, by rw [Act.put_size]; exact hc.size, by rw [Act.put_defers']; exact hc.defers, rel_nil w' _ (fun _ _ h => (sro_le h).2)⟩
  obtain ⟨u, hu1, hu2⟩ := (hT (env0 B w').ρ).lk hd'
  have hne : d' ≠ d := by
    rintro rfl
    rw [lk_notin hdn] at hd'
    cases hd'
  show (a.tmps.setIfInBounds d _)[d']? = _
  rw [Array.getElem?_setIfInBounds_ne (fun e => hne e.symm), hc.tl d' u hu1, hu2]

/-- A drawn region that reads, with a call at its end; then the function's end. -/
theorem gets_dlast {B : Bd} {b : Nat} {w0 w : World} {m m' : M} {ε : Env} {nt : Nat} {f : FuncId} {fn : Func} {k : List Item} {σ : St} {a : Act} (q : Nat) (bs : List NB) (c : CallX) {obs : List (Env → Prop)} (hm : MOk B w0 b m) (hov : Over w0 ε) (hro : ε.ro = sro B w0)
    (hc : CRel ε nt σ a w) (hbs : σ.bs = bs) (hts : (bs.all fun b => b.ty != 66 && b.ty != 84 && b.ty != 39) = true)
    (hd : isDraw k = true) (hq : (drawOps k).size = q + 1)
    (hdt : (dtake Tab nt (drawOps k) (List.range q) (Array.replicate (q + 1) false) σ).map (fun x => (x.1, x.2.ob)) = some (allBut q, obs)) (hrd : Region.ready .any (drawOps k) (allBut q) = [q])
    (hrd2 : Region.ready .any (drawOps k) ((allBut q).setIfInBounds q true) = [])
    (hx : (dtake Tab nt (drawOps k) (List.range q) (Array.replicate (q + 1) false) σ).bind (fun x => callX [.inRegion (drawOps k) [q]] x.2) = some c)
    (hk : isFin (ctl 30 (drawTail k)) = true) (hf : Tryz.prog.funcs[f]? = some fn) (hr : fn.results = #[]) (he : enters Tryz.prog c.fn = true)
    (hobs : AllP obs ε) (hcall : ∀ w1, Rel ε bs w1 → MOk B w1 b m → Keep B w0 w1 → Calls Tryz.prog c.fn (c.real ε.ρ) w1 (Does B b w1 m')) : Gets Tryz.prog f k a w (Does B b w0 m') := by
  obtain ⟨l, σ2, hdt', ho⟩ : ∃ l σ2, dtake Tab nt (drawOps k) (List.range q) (Array.replicate (q + 1) false) σ = some (l, σ2) ∧ l = allBut q ∧ σ2.ob = obs := by
    cases h : dtake Tab nt (drawOps k) (List.range q) (Array.replicate (q + 1) false) σ with
    | none => rw [h] at hdt; cases hdt
    | some x =>
      rw [h] at hdt
      simp only [Option.map_some, Option.some.injEq, Prod.mk.injEq] at hdt
      exact ⟨x.1, x.2, rfl, hdt⟩
  obtain ⟨rfl, ho⟩ := ho
  rw [hdt'] at hx
  simp only [Option.bind_some] at hx
  clear hdt
  have hob2 : σ2.holds ε := holds_of ho hobs
  unfold isDraw at hd
  split at hd
  · rename_i id ops k'
    simp only [drawOps, drawTail] at hq hdt' hrd hrd2 hx hk
    have hmem : Rel ε bs { w with drawn := w.drawn + 1 } := by have := hc.mem.drew (w.drawn + 1); rwa [hbs] at this
    have hn := hov.rel hmem
    obtain ⟨hm1, he1⟩ := hm.fresh hn
    refine gets_draw (S := Sees ε bs) (by kernel_rfl) ?_
    have hsz : ops.size = 1 + (List.range q).length := by rw [hq]; simp [Nat.add_comm]
    rw [hsz]
    have hrep : 1 + (List.range q).length = q + 1 := by simp [Nat.add_comm]
    have hrep2 : Array.replicate (1 + (List.range q).length) false = Array.replicate (q + 1) false := congrArg (fun n => Array.replicate n false) hrep
    rw [hrep2]
    refine dgets_take tab_ok hd hmem.sees _ _ _ _ _ _ hdt' hbs hc.tl hc.size hob2 (fun a2 h2 h3 h4 => ?_)
    refine dgets_call h2 hrd hx he (hcall _ hmem hm1 (hn.keep B)) (fun e w' hS => ⟨.tuple #[], hS.1, ?_, ?_⟩)
    · have hk2 := (he1.trans hS.2.2)
      refine ⟨fun i nb hi => ?_, fun ad v hv => sro_keep (hk2.keep hm) (hro ▸ hv)⟩
      have hb1 := hmem.cells i nb hi
      have hty := List.all_eq_true.1 hts nb (List.mem_of_getElem? hi)
      simp only [Bool.and_eq_true, bne_iff_ne] at hty
      exact (hS.2.2.keep hm1).cells hb1 hty.1.1 hty.1.2 hty.2 (fun _ => hm.notx (hov.above hmem (List.getElem?_eq_some_iff.1 hi).1))
    · refine dgets_done 0 hrd2 ?_
      refine gets_end0 (by rw [Act.put_defers', h4]; exact hc.defers) hf hr hk ⟨rfl, hS.2.1, he1.trans hS.2.2⟩
  · cases hd

end Go.Proofs.YtoihipolfdhhnaaGreatDoor
