/-
  Vm: are two values the same?
-/
import Derived.Test.YtoihipolfdhhnaaGreatDoorVK
namespace Go.Proofs.YtoihipolfdhhnaaGreatDoor.Vm

def SE.same (a b : SE) : Bool := decide (a = b)

theorem SE.same_eq {a b : SE} (h : SE.same a b = true) : a = b := of_decide_eq_true h

noncomputable def C.same (a : C) : C → Bool :=
  C.rec (motive_1 := fun _ => C → Bool) (motive_2 := fun _ => List C → Bool) (fun x0 x1 => (fun b => C.rec (motive_1 := fun _ => Bool) (motive_2 := fun _ => Bool) (fun y0 y1 => (onB (isK x0 y0) (Nat.beq x1 y1) false)) (fun _ _ => false) (fun _ => false) (fun _ _ => false) false (fun _ _ _ => false) false (fun _ _ _ _ _ => false) false (fun _ _ _ => false) false (fun _ => false) false false (fun _ _ _ => false) (fun _ _ => false) (fun _ _ => false) (fun _ _ _ _ _ _ => false) false (fun _ _ _ _ => false) b)) (fun x0 x1 => (fun b => C.rec (motive_1 := fun _ => Bool) (motive_2 := fun _ => Bool) (fun _ _ => false) (fun y0 y1 => (onB (Nat.beq x0 y0) (Nat.beq x1 y1) false)) (fun _ => false) (fun _ _ => false) false (fun _ _ _ => false) false (fun _ _ _ _ _ => false) false (fun _ _ _ => false) false (fun _ => false) false false (fun _ _ _ => false) (fun _ _ => false) (fun _ _ => false) (fun _ _ _ _ _ _ => false) false (fun _ _ _ _ => false) b)) (fun x0 => (fun b => C.rec (motive_1 := fun _ => Bool) (motive_2 := fun _ => Bool) (fun _ _ => false) (fun _ _ => false) (fun y0 => (onB x0 y0 (onB y0 false true))) (fun _ _ => false) false (fun _ _ _ => false) false (fun _ _ _ _ _ => false) false (fun _ _ _ => false) false (fun _ => false) false false (fun _ _ _ => false) (fun _ _ => false) (fun _ _ => false) (fun _ _ _ _ _ _ => false) false (fun _ _ _ _ => false) b)) (fun x0 x1 => (fun b => C.rec (motive_1 := fun _ => Bool) (motive_2 := fun _ => Bool) (fun _ _ => false) (fun _ _ => false) (fun _ => false) (fun y0 y1 => (onB (Nat.beq x0 y0) (Nat.beq x1 y1) false)) false (fun _ _ _ => false) false (fun _ _ _ _ _ => false) false (fun _ _ _ => false) false (fun _ => false) false false (fun _ _ _ => false) (fun _ _ => false) (fun _ _ => false) (fun _ _ _ _ _ _ => false) false (fun _ _ _ _ => false) b)) (fun b => C.rec (motive_1 := fun _ => Bool) (motive_2 := fun _ => Bool) (fun _ _ => false) (fun _ _ => false) (fun _ => false) (fun _ _ => false) true (fun _ _ _ => false) false (fun _ _ _ _ _ => false) false (fun _ _ _ => false) false (fun _ => false) false false (fun _ _ _ => false) (fun _ _ => false) (fun _ _ => false) (fun _ _ _ _ _ _ => false) false (fun _ _ _ _ => false) b) (fun x0 x1 ih1 => (fun b => C.rec (motive_1 := fun _ => Bool) (motive_2 := fun _ => Bool) (fun _ _ => false) (fun _ _ => false) (fun _ => false) (fun _ _ => false) false (fun y0 y1 _ => (onB (Nat.beq x0 y0) (ih1 y1) false)) false (fun _ _ _ _ _ => false) false (fun _ _ _ => false) false (fun _ => false) false false (fun _ _ _ => false) (fun _ _ => false) (fun _ _ => false) (fun _ _ _ _ _ _ => false) false (fun _ _ _ _ => false) b)) (fun b => C.rec (motive_1 := fun _ => Bool) (motive_2 := fun _ => Bool) (fun _ _ => false) (fun _ _ => false) (fun _ => false) (fun _ _ => false) false (fun _ _ _ => false) true (fun _ _ _ _ _ => false) false (fun _ _ _ => false) false (fun _ => false) false false (fun _ _ _ => false) (fun _ _ => false) (fun _ _ => false) (fun _ _ _ _ _ _ => false) false (fun _ _ _ _ => false) b) (fun x0 x1 x2 x3 x4 => (fun b => C.rec (motive_1 := fun _ => Bool) (motive_2 := fun _ => Bool) (fun _ _ => false) (fun _ _ => false) (fun _ => false) (fun _ _ => false) false (fun _ _ _ => false) false (fun y0 y1 y2 y3 y4 => (onB (Nat.beq x0 y0) (onB (Nat.beq x1 y1) (onB (Nat.beq x2 y2) (onB (onB x3 y3 (onB y3 false true)) (Nat.beq x4 y4) false) false) false) false)) false (fun _ _ _ => false) false (fun _ => false) false false (fun _ _ _ => false) (fun _ _ => false) (fun _ _ => false) (fun _ _ _ _ _ _ => false) false (fun _ _ _ _ => false) b)) (fun b => C.rec (motive_1 := fun _ => Bool) (motive_2 := fun _ => Bool) (fun _ _ => false) (fun _ _ => false) (fun _ => false) (fun _ _ => false) false (fun _ _ _ => false) false (fun _ _ _ _ _ => false) true (fun _ _ _ => false) false (fun _ => false) false false (fun _ _ _ => false) (fun _ _ => false) (fun _ _ => false) (fun _ _ _ _ _ _ => false) false (fun _ _ _ _ => false) b) (fun x0 x1 ih1 => (fun b => C.rec (motive_1 := fun _ => Bool) (motive_2 := fun _ => Bool) (fun _ _ => false) (fun _ _ => false) (fun _ => false) (fun _ _ => false) false (fun _ _ _ => false) false (fun _ _ _ _ _ => false) false (fun y0 y1 _ => (onB (Nat.beq x0 y0) (ih1 y1) false)) false (fun _ => false) false false (fun _ _ _ => false) (fun _ _ => false) (fun _ _ => false) (fun _ _ _ _ _ _ => false) false (fun _ _ _ _ => false) b)) (fun b => C.rec (motive_1 := fun _ => Bool) (motive_2 := fun _ => Bool) (fun _ _ => false) (fun _ _ => false) (fun _ => false) (fun _ _ => false) false (fun _ _ _ => false) false (fun _ _ _ _ _ => false) false (fun _ _ _ => false) true (fun _ => false) false false (fun _ _ _ => false) (fun _ _ => false) (fun _ _ => false) (fun _ _ _ _ _ _ => false) false (fun _ _ _ _ => false) b) (fun x0 => (fun b => C.rec (motive_1 := fun _ => Bool) (motive_2 := fun _ => Bool) (fun _ _ => false) (fun _ _ => false) (fun _ => false) (fun _ _ => false) false (fun _ _ _ => false) false (fun _ _ _ _ _ => false) false (fun _ _ _ => false) false (fun y0 => (Nat.beq x0 y0)) false false (fun _ _ _ => false) (fun _ _ => false) (fun _ _ => false) (fun _ _ _ _ _ _ => false) false (fun _ _ _ _ => false) b)) (fun b => C.rec (motive_1 := fun _ => Bool) (motive_2 := fun _ => Bool) (fun _ _ => false) (fun _ _ => false) (fun _ => false) (fun _ _ => false) false (fun _ _ _ => false) false (fun _ _ _ _ _ => false) false (fun _ _ _ => false) false (fun _ => false) true false (fun _ _ _ => false) (fun _ _ => false) (fun _ _ => false) (fun _ _ _ _ _ _ => false) false (fun _ _ _ _ => false) b) (fun b => C.rec (motive_1 := fun _ => Bool) (motive_2 := fun _ => Bool) (fun _ _ => false) (fun _ _ => false) (fun _ => false) (fun _ _ => false) false (fun _ _ _ => false) false (fun _ _ _ _ _ => false) false (fun _ _ _ => false) false (fun _ => false) false true (fun _ _ _ => false) (fun _ _ => false) (fun _ _ => false) (fun _ _ _ _ _ _ => false) false (fun _ _ _ _ => false) b) (fun x0 x1 ih1 => (fun b => C.rec (motive_1 := fun _ => Bool) (motive_2 := fun _ => Bool) (fun _ _ => false) (fun _ _ => false) (fun _ => false) (fun _ _ => false) false (fun _ _ _ => false) false (fun _ _ _ _ _ => false) false (fun _ _ _ => false) false (fun _ => false) false false (fun y0 y1 _ => (onB (Nat.beq x0 y0) (ih1 y1) false)) (fun _ _ => false) (fun _ _ => false) (fun _ _ _ _ _ _ => false) false (fun _ _ _ _ => false) b)) (fun x0 ih0 => (fun b => C.rec (motive_1 := fun _ => Bool) (motive_2 := fun _ => Bool) (fun _ _ => false) (fun _ _ => false) (fun _ => false) (fun _ _ => false) false (fun _ _ _ => false) false (fun _ _ _ _ _ => false) false (fun _ _ _ => false) false (fun _ => false) false false (fun _ _ _ => false) (fun y0 _ => (ih0 y0)) (fun _ _ => false) (fun _ _ _ _ _ _ => false) false (fun _ _ _ _ => false) b)) (fun x0 x1 => (fun b => C.rec (motive_1 := fun _ => Bool) (motive_2 := fun _ => Bool) (fun _ _ => false) (fun _ _ => false) (fun _ => false) (fun _ _ => false) false (fun _ _ _ => false) false (fun _ _ _ _ _ => false) false (fun _ _ _ => false) false (fun _ => false) false false (fun _ _ _ => false) (fun _ _ => false) (fun y0 y1 => (onB (isK x0 y0) (SE.same x1 y1) false)) (fun _ _ _ _ _ _ => false) false (fun _ _ _ _ => false) b)) (fun x0 x1 x2 x3 x4 x5 => (fun b => C.rec (motive_1 := fun _ => Bool) (motive_2 := fun _ => Bool) (fun _ _ => false) (fun _ _ => false) (fun _ => false) (fun _ _ => false) false (fun _ _ _ => false) false (fun _ _ _ _ _ => false) false (fun _ _ _ => false) false (fun _ => false) false false (fun _ _ _ => false) (fun _ _ => false) (fun _ _ => false) (fun y0 y1 y2 y3 y4 y5 => (onB (Nat.beq x0 y0) (onB (Nat.beq x1 y1) (onB (Nat.beq x2 y2) (onB (Nat.beq x3 y3) (onB (Nat.beq x4 y4) (SE.same x5 y5) false) false) false) false) false)) false (fun _ _ _ _ => false) b)) (fun l => List.rec (motive := fun _ => Bool) true (fun _ _ _ => false) l) (fun _ _ ih1 ih2 l => List.rec (motive := fun _ => Bool) false (fun y ys _ => onB (ih1 y) (ih2 ys) false) l) a

theorem onB_iff {a b : Bool} (h : onB a b (onB b false true) = true) : a = b := by
  cases a <;> cases b <;> first | rfl | cases h

theorem C.same_eq : ∀ (a b : C), C.same a b = true → a = b := by
  intro a
  refine C.rec (motive_1 := fun a => ∀ b, C.same a b = true → a = b) (motive_2 := fun l => ∀ r, (C.same (.t l) (.t r) = true → l = r))
    (fun x0 x1 b h => by
      cases b <;> first | (cases h; done) | skip
      rename_i y0 y1
      have h0 := h
      obtain ⟨e0, h1⟩ := onB_and (b := _) h0
      have q0 : x0 = y0 := (isK_eq e0).symm
      have e1 := h1
      have q1 : x1 = y1 := Nat.eq_of_beq_eq_true e1
      rw [q0, q1])
    (fun x0 x1 b h => by
      cases b <;> first | (cases h; done) | skip
      rename_i y0 y1
      have h0 := h
      obtain ⟨e0, h1⟩ := onB_and (b := _) h0
      have q0 : x0 = y0 := Nat.eq_of_beq_eq_true e0
      have e1 := h1
      have q1 : x1 = y1 := Nat.eq_of_beq_eq_true e1
      rw [q0, q1])
    (fun x0 b h => by
      cases b <;> first | (cases h; done) | skip
      rename_i y0
      have h0 := h
      have e0 := h0
      have q0 : x0 = y0 := onB_iff e0
      rw [q0])
    (fun x0 x1 b h => by
      cases b <;> first | (cases h; done) | skip
      rename_i y0 y1
      have h0 := h
      obtain ⟨e0, h1⟩ := onB_and (b := _) h0
      have q0 : x0 = y0 := Nat.eq_of_beq_eq_true e0
      have e1 := h1
      have q1 : x1 = y1 := Nat.eq_of_beq_eq_true e1
      rw [q0, q1])
    (fun  b h => by
      cases b <;> first | (cases h; done) | skip
      all_goals rfl)
    (fun x0 x1 i1 b h => by
      cases b <;> first | (cases h; done) | skip
      rename_i y0 y1
      have h0 := h
      obtain ⟨e0, h1⟩ := onB_and (b := _) h0
      have q0 : x0 = y0 := Nat.eq_of_beq_eq_true e0
      have e1 := h1
      have q1 : x1 = y1 := i1 _ e1
      rw [q0, q1])
    (fun  b h => by
      cases b <;> first | (cases h; done) | skip
      all_goals rfl)
    (fun x0 x1 x2 x3 x4 b h => by
      cases b <;> first | (cases h; done) | skip
      rename_i y0 y1 y2 y3 y4
      have h0 := h
      obtain ⟨e0, h1⟩ := onB_and (b := _) h0
      have q0 : x0 = y0 := Nat.eq_of_beq_eq_true e0
      obtain ⟨e1, h2⟩ := onB_and (b := _) h1
      have q1 : x1 = y1 := Nat.eq_of_beq_eq_true e1
      obtain ⟨e2, h3⟩ := onB_and (b := _) h2
      have q2 : x2 = y2 := Nat.eq_of_beq_eq_true e2
      obtain ⟨e3, h4⟩ := onB_and (b := _) h3
      have q3 : x3 = y3 := onB_iff e3
      have e4 := h4
      have q4 : x4 = y4 := Nat.eq_of_beq_eq_true e4
      rw [q0, q1, q2, q3, q4])
    (fun  b h => by
      cases b <;> first | (cases h; done) | skip
      all_goals rfl)
    (fun x0 x1 i1 b h => by
      cases b <;> first | (cases h; done) | skip
      rename_i y0 y1
      have h0 := h
      obtain ⟨e0, h1⟩ := onB_and (b := _) h0
      have q0 : x0 = y0 := Nat.eq_of_beq_eq_true e0
      have e1 := h1
      have q1 : x1 = y1 := i1 _ e1
      rw [q0, q1])
    (fun  b h => by
      cases b <;> first | (cases h; done) | skip
      all_goals rfl)
    (fun x0 b h => by
      cases b <;> first | (cases h; done) | skip
      rename_i y0
      have h0 := h
      have e0 := h0
      have q0 : x0 = y0 := Nat.eq_of_beq_eq_true e0
      rw [q0])
    (fun  b h => by
      cases b <;> first | (cases h; done) | skip
      all_goals rfl)
    (fun  b h => by
      cases b <;> first | (cases h; done) | skip
      all_goals rfl)
    (fun x0 x1 i1 b h => by
      cases b <;> first | (cases h; done) | skip
      rename_i y0 y1
      have h0 := h
      obtain ⟨e0, h1⟩ := onB_and (b := _) h0
      have q0 : x0 = y0 := Nat.eq_of_beq_eq_true e0
      have e1 := h1
      have q1 : x1 = y1 := i1 _ e1
      rw [q0, q1])
    (fun x0 i0 b h => by
      cases b <;> first | (cases h; done) | skip
      rename_i y0
      have h0 := h
      have e0 := h0
      have q0 : x0 = y0 := i0 _ e0
      rw [q0])
    (fun x0 x1 b h => by
      cases b <;> first | (cases h; done) | skip
      rename_i y0 y1
      have h0 := h
      obtain ⟨e0, h1⟩ := onB_and (b := _) h0
      have q0 : x0 = y0 := (isK_eq e0).symm
      have e1 := h1
      have q1 : x1 = y1 := SE.same_eq e1
      rw [q0, q1])
    (fun x0 x1 x2 x3 x4 x5 b h => by
      cases b <;> first | (cases h; done) | skip
      rename_i y0 y1 y2 y3 y4 y5
      have h0 := h
      obtain ⟨e0, h1⟩ := onB_and (b := _) h0
      have q0 : x0 = y0 := Nat.eq_of_beq_eq_true e0
      obtain ⟨e1, h2⟩ := onB_and (b := _) h1
      have q1 : x1 = y1 := Nat.eq_of_beq_eq_true e1
      obtain ⟨e2, h3⟩ := onB_and (b := _) h2
      have q2 : x2 = y2 := Nat.eq_of_beq_eq_true e2
      obtain ⟨e3, h4⟩ := onB_and (b := _) h3
      have q3 : x3 = y3 := Nat.eq_of_beq_eq_true e3
      obtain ⟨e4, h5⟩ := onB_and (b := _) h4
      have q4 : x4 = y4 := Nat.eq_of_beq_eq_true e4
      have e5 := h5
      have q5 : x5 = y5 := SE.same_eq e5
      rw [q0, q1, q2, q3, q4, q5])
    (fun r h => by
      cases r with
      | nil => rfl
      | cons y ys => cases h)
    (fun x l i1 i2 r h => by
      cases r with
      | nil => cases h
      | cons y ys =>
        obtain ⟨e1, e2⟩ := onB_and (show onB (C.same x y) (C.same (.t l) (.t ys)) false = true from h)
        rw [i1 y e1, i2 ys e2]) a

end Go.Proofs.YtoihipolfdhhnaaGreatDoor.Vm
