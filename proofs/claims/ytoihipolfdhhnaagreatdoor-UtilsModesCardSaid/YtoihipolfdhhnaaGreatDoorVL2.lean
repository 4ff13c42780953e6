/-
  Vm, fourteenth part: code.
-/
import Derived.Test.YtoihipolfdhhnaaGreatDoorVL1
namespace Go.Proofs.YtoihipolfdhhnaaGreatDoor.Vm

structure CX where
  h : CallF → Tr C → Mem → List (Nat × K) → K → K → R

noncomputable def findK (id : Nat) (l : List (Nat × K)) : K := List.rec (motive := fun _ => K) (fun _ _ => none) (fun x _ ih => onB (Nat.beq x.1 id) x.2 ih) l

noncomputable def loopR (x : CX) (cf : CallF) (xs : List (Nat × K)) (rt : K) (n : Nat) : K :=
  Nat.rec (motive := fun _ => K) (fun _ _ => none) (fun _ ih vs m => x.h cf vs m xs rt ih) n

noncomputable def cCode (P : Program) (sf : SF) : Code → CX
  | .skip => ⟨fun _ vs m _ _ k => k vs m⟩
  | .label _ => ⟨fun _ vs m _ _ k => k vs m⟩
  | .region _ ops false => ⟨fun cf vs m _ _ k => (cIdx P sf ops (List.range ops.size) []).b cf [] vs m k⟩
  | .region _ ops true => ⟨fun cf vs m _ _ k => (cDraw P sf ops).b cf [] vs m k⟩
  | .seq a b => ⟨fun cf vs m xs rt k => (cCode P sf a).h cf vs m xs rt fun vs m => (cCode P sf b).h cf vs m xs rt k⟩
  | .cond c a b => ⟨fun cf vs m xs rt k => (cOpd sf [] c).g [] vs fun c => c.onBool fun t => onB t ((cCode P sf a).h cf vs m xs rt k) ((cCode P sf b).h cf vs m xs rt k)⟩
  | .block id a => ⟨fun cf vs m xs rt k => (cCode P sf a).h cf vs m ((id, k) :: xs) rt k⟩
  | .scope a => ⟨fun cf vs m xs rt k => (cCode P sf a).h cf vs m xs rt k⟩
  | .exit id => ⟨fun _ vs m xs _ _ => findK id xs vs m⟩
  | .loop a => ⟨fun cf vs m xs rt _ => loopR (cCode P sf a) cf xs rt 100000 vs m⟩
  | .ret => ⟨fun _ vs m _ rt _ => rt vs m⟩
  | _ => ⟨fun _ _ _ _ _ _ => none⟩

section
variable {P : Program} {wb : World} {sf : SF} {s : Stat} {f : FuncId} {k0 : C → Mem → R} {r : C × Mem} {items : List Item} {cf : CallF} {rel : Ev → Act → World → Prop}

theorem Ends.step {items items' : List Item} (h : ∀ a w cs, Go.step P (lone ((base f).at a items) cs w) = .next (lone ((base f).at a items') cs w)) (he : Ends P wb f k0 r rel items') : Ends P wb f k0 r rel items :=
  let ⟨c, m', h1, h2⟩ := he; ⟨c, m', h1, fun ε a w hr => Gets.step (fun cs => h a w cs) (h2 ε a w hr)⟩

def ExOk (P : Program) (wb : World) (f : FuncId) (k0 : C → Mem → R) (r : C × Mem) (sf : SF) (items : List Item) (xs : List (Nat × K)) : Prop :=
  ∀ id vs m, findK id xs vs m = some r → ∃ items', exitTo id items = some items' ∧ Ends P wb f k0 r (FRel wb sf [] [] vs m) items'

def RtOk (P : Program) (wb : World) (f : FuncId) (k0 : C → Mem → R) (r : C × Mem) (sf : SF) (rt : K) : Prop :=
  ∀ vs m, rt vs m = some r → ∃ c m', k0 c m' = some r ∧ ∀ ε a w, FRel wb sf [] [] vs m ε a w → ∀ todo cs, ∃ e w' fr, Ret wb ε c m' e w' ∧ Comes P (lone { (base f).at a todo with mode := .returning } cs w) (lone fr cs w') e ∧ fr.fn = f ∧ fr.leaving P w' e

theorem ExOk.up {xs : List (Nat × K)} (h : ExOk P wb f k0 r sf items xs) {it : Item} (hit : ∀ id, exitTo id (it :: items) = exitTo id items) : ExOk P wb f k0 r sf (it :: items) xs := by
  intro id vs m hf
  obtain ⟨items', h1, h2⟩ := h id vs m hf
  exact ⟨items', by rw [hit]; exact h1, h2⟩

theorem ExOk.block {xs : List (Nat × K)} (h : ExOk P wb f k0 r sf items xs) {id : Nat} {k : K} (hk : KOk P wb f k0 r sf items k) : ExOk P wb f k0 r sf (.inBlock id :: items) ((id, k) :: xs) := by
  intro id' vs m hf
  have hf' : (onB (Nat.beq id id') k (findK id' xs)) vs m = some r := hf
  cases hb : Nat.beq id id' with
  | true =>
    rw [hb] at hf'
    have := Nat.eq_of_beq_eq_true hb
    subst this
    exact ⟨items, by simp [exitTo], hk vs m hf'⟩
  | false =>
    rw [hb] at hf'
    obtain ⟨items', h1, h2⟩ := h id' vs m hf'
    have hne : (id == id') = false := by
      rw [beq_eq_false_iff_ne]
      intro e
      rw [e] at hb; simp at hb
    exact ⟨items', by simp only [exitTo, hne]; simpa using h1, h2⟩

theorem cCode_ok (hcf : CallOk P wb s cf) (h1 : sf.gl = s.gl) (h2 : sf.th = s.th ∧ sf.eq = s.eq) {rt : K} (hrt : RtOk P wb f k0 r sf rt) : ∀ (c : Code) (items : List Item) (xs : List (Nat × K)) (k : K),
    ExOk P wb f k0 r sf items xs → KOk P wb f k0 r sf items k → KOk P wb f k0 r sf (.code c :: items) (fun vs m => (cCode P sf c).h cf vs m xs rt k)
  | .skip, items, xs, k, hx, hk => fun vs m h => Ends.step (fun a w cs => step_skip) (hk vs m h)
  | .label _, items, xs, k, hx, hk => fun vs m h => Ends.step (fun a w cs => step_label) (hk vs m h)
  | .region _ ops false, items, xs, k, hx, hk => fun vs m h => Ends.step (fun a w cs => step_region) (cIdx_ok hcf h1 h2 hk _ [] [] vs m h)
  | .region _ ops true, items, xs, k, hx, hk => fun vs m h => cDraw_ok hcf h1 h2 hk h
  | .seq x y, items, xs, k, hx, hk => fun vs m h => by
    have hy := cCode_ok hcf h1 h2 hrt y items xs k hx hk
    exact Ends.step (fun a w cs => step_seq) (cCode_ok hcf h1 h2 hrt x (.code y :: items) xs _ (hx.up fun id => rfl) hy vs m h)
  | .cond c x y, items, xs, k, hx, hk => fun vs m h => by
    obtain ⟨u, h3, h4⟩ := cOpd_ok sf [] c _ _ _ _ h
    obtain ⟨t, rfl, h5⟩ := C.onBool_inv h3
    have key : ∀ ε a, SRel sf ε [] [] vs a → a.eval c = .bool t := fun ε a hS => by
      have r1 := h4 ε a hS
      simp only [C.real, Option.some.injEq] at r1
      exact r1.symm
    cases t with
    | true =>
      obtain ⟨c2, m2, h6, h7⟩ := cCode_ok hcf h1 h2 hrt x items xs k hx hk vs m h5
      exact ⟨c2, m2, h6, fun ε a w hr => Gets.step (fun cs => step_cond (key ε a hr.sl)) (h7 ε a w hr)⟩
    | false =>
      obtain ⟨c2, m2, h6, h7⟩ := cCode_ok hcf h1 h2 hrt y items xs k hx hk vs m h5
      exact ⟨c2, m2, h6, fun ε a w hr => Gets.step (fun cs => step_cond (key ε a hr.sl)) (h7 ε a w hr)⟩
  | .block id x, items, xs, k, hx, hk => fun vs m h => by
    have hk' : KOk P wb f k0 r sf (.inBlock id :: items) k := fun vs m h => Ends.step (fun a w cs => step_inBlock) (hk vs m h)
    exact Ends.step (fun a w cs => step_block) (cCode_ok hcf h1 h2 hrt x (.inBlock id :: items) _ k (hx.block hk) hk' vs m h)
  | .scope x, items, xs, k, hx, hk => fun vs m h => by
    have hk' : KOk P wb f k0 r sf (.inScope x :: items) k := fun vs m h => Ends.step (fun a w cs => step_inScope) (hk vs m h)
    exact Ends.step (fun a w cs => step_scope) (cCode_ok hcf h1 h2 hrt x (.inScope x :: items) xs k (hx.up fun id => rfl) hk' vs m h)
  | .exit id, items, xs, k, hx, hk => fun vs m h => by
    obtain ⟨items', h3, h4⟩ := hx id vs m h
    exact Ends.step (fun a w cs => step_exit h3) h4
  | .loop x, items, xs, k, hx, hk => fun vs m h => by
    have key : ∀ n : Nat, KOk P wb f k0 r sf (.inLoop x :: items) (loopR (cCode P sf x) cf xs rt n) := by
      intro n
      induction n with
      | zero => intro vs m h; cases h
      | succ n ih => exact fun vs m h => Ends.step (fun a w cs => step_inLoop) (cCode_ok hcf h1 h2 hrt x (.inLoop x :: items) xs _ (hx.up fun id => rfl) ih vs m h)
    have key' : ∀ (n : Nat) vs m, (loopR (cCode P sf x) cf xs rt n) vs m = some r → Ends P wb f k0 r (FRel wb sf [] [] vs m) (.code x :: .inLoop x :: items) := by
      intro n vs m h
      cases n with
      | zero => cases h
      | succ n => exact cCode_ok hcf h1 h2 hrt x (.inLoop x :: items) xs _ (hx.up fun id => rfl) (key n) vs m h
    exact Ends.step (fun a w cs => step_loop) (key' 100000 vs m h)
  | .ret, items, xs, k, hx, hk => fun vs m h => by
    obtain ⟨c, m', h3, h4⟩ := hrt vs m h
    refine ⟨c, m', h3, fun ε a w hr cs => ?_⟩
    obtain ⟨e, w', fr, h5, h6, h7⟩ := h4 ε a w hr (.code .ret :: items) cs
    exact ⟨e, w', fr, h5, Comes.of_steps (.one step_ret) h6, h7⟩
  | .rangeFunc _ _ _ _, items, xs, k, hx, hk => fun vs m h => by cases h
  | .goto _, items, xs, k, hx, hk => fun vs m h => by cases h
  | .refuse _, items, xs, k, hx, hk => fun vs m h => by cases h

end

end Go.Proofs.YtoihipolfdhhnaaGreatDoor.Vm
