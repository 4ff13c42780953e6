/-
  id$1: the line of id.
-/
import Derived.Test.YtoihipolfdhhnaaGreatDoorClosG
import Derived.Test.YtoihipolfdhhnaaGreatDoorItoa
import Derived.Lib.ItoaLen
namespace Go.Proofs.YtoihipolfdhhnaaGreatDoor
set_option linter.unusedSimpArgs false

theorem Sees.new {ε : Env} {bs : List NB} {w w' : World} (h : Sees ε bs w) (hn : New w w') : Sees ε bs w' :=
  ⟨fun i b hi => by rw [hn.block _ (lt_of_block (h.cells i b hi))]; exact h.cells i b hi, fun a v hv => by
    have h1 := h.ro a v hv
    rw [World.cell?_of_block (hn.block _ (World.block_lt_of_cell? w a h1))]; exact h1⟩

/-- A call in a drawn region that makes new blocks at most. -/
theorem dgets_pure {P : Program} {ε : Env} {nt : Nat} {f : FuncId} {ops : Array Oper} {k : List Item} {σ : St} {a : Act} {w : World} {R : Ending → World → Prop} {bs : List NB} {c : CallX} {fuel : Nat} {listed : Array Bool} {i : Nat} {Q : World → Prop} (d : Nat) (v : SV)
    (htl : TRel ε.ρ σ.tl a.tmps) (hsz : a.tmps.size = nt) (hS : Sees ε bs w) (hr : Region.ready .any ops listed = [i]) (hx : callX [.inRegion ops [i]] σ = some c) (he : enters P c.fn = true) (hd : dstX [.inRegion ops [i]] = some d) (hdn : Nat.blt d nt = true)
    (hcall : Calls P c.fn (c.real ε.ρ) w (Gives (v.real ε.ρ) Q w))
    (h : ∀ a' w', TRel ε.ρ ((d, v) :: σ.tl) a'.tmps → a'.tmps.size = nt → a'.defers = a.defers → New w w' → Sees ε bs w' → wpAnyH P .any ops (Behind P f k R) (Sees ε bs) fuel (listed.setIfInBounds i true) a' w') :
    wpAnyH P .any ops (Behind P f k R) (Sees ε bs) (fuel + 1) listed a w := by
  refine dgets_call htl hr hx he hcall (fun e w' ⟨e1, e2, _⟩ => ⟨_, e1, hS.new e2, ?_⟩)
  rw [hd]
  exact h _ w' (htl.lay hsz d hdn v rfl) (by rw [Act.put_size]; exact hsz) (by rw [Act.put_defers']) e2 (hS.new e2)

/-- strconv.Itoa. -/
theorem itoa_calls {B : Bd} {w : World} (hg : GlobOk B w) (n : Int) (h0 : -9223372036854775808 ≤ n) (h1 : n ≤ 9223372036854775807) : Calls Tryz.prog 71 #[.int .i64 n] w (Gives (.string (dec n)) (fun _ => True) w) := by
  refine Calls.mono (Tryz.strconv_Itoa n h0 h1 w hg.pow10) (fun e w' ⟨e1, k, os, e2⟩ => ⟨e1, ?_, trivial⟩)
  subst e2
  refine ⟨rfl, rfl, rfl, by simp [Sort.grow, World.drewN], fun k hk => ?_⟩
  simp only [Sort.grow, World.drewN]
  exact Array.getElem?_append_left hk

theorem dec_size (n : Int) (h0 : -9223372036854775808 ≤ n) (h1 : n ≤ 9223372036854775807) : (dec n).size ≤ 21 := by
  have := Lib.itoa_length_le n h0 h1
  have e : (dec n).size = (Lib.itoa n).length := by unfold dec; rfl
  rw [e]; exact this

/-- What id says, its parts told. -/
def idT (c : CredD) (b1 b2 : Bool) : ByteArray :=
  let s := (⟨#[117, 105, 100, 61]⟩ : ByteArray) ++ dec c.real_ ++ ⟨#[32, 103, 105, 100, 61]⟩ ++ dec c.group
  let s := if b1 then s ++ (⟨#[32, 101, 117, 105, 100, 61]⟩ ++ dec c.eff) else s
  let s := if b2 then s ++ (⟨#[32, 101, 103, 105, 100, 61]⟩ ++ dec c.effGroup) else s
  s ++ ⟨#[10]⟩

theorem idText_eq (c : CredD) : idText c = idT c (c.eff != c.real_) (c.effGroup != c.group) := by
  unfold idText idT
  simp only [bne_iff_ne]

theorem idT_ne (c : CredD) (b1 b2 : Bool) : ((idT c b1 b2).toList == []) = false := by
  unfold idT
  rw [ByteArray.toList_eq]
  simp

theorem id1_calls {B : Bd} {w : World} {b : Nat} {m : M} (hm : MOk B w b m) (r : Res) (a : Option Addr) (n cp : Nat) (hr : CredIn r.cred) :
    Calls Tryz.prog 70 #[bp b, resV r a n cp] w (Does B b w (m.say 1 (idText r.cred) .none)) := by
  rw [idText_eq]
  have hg : GlobOk B w := by obtain ⟨_, _, _, _, _, hM⟩ := hm; exact hM.glob
  have z1 : (⟨#[117, 105, 100, 61]⟩ : ByteArray).size = 4 := rfl
  have z2 : (⟨#[32, 103, 105, 100, 61]⟩ : ByteArray).size = 5 := rfl
  have z3 : (⟨#[32, 101, 117, 105, 100, 61]⟩ : ByteArray).size = 6 := rfl
  have z4 : (⟨#[32, 101, 103, 105, 100, 61]⟩ : ByteArray).size = 6 := rfl
  have z5 : (⟨#[10]⟩ : ByteArray).size = 1 := rfl
  have y1 := dec_size r.cred.real_ hr.r0 hr.r1
  have y2 := dec_size r.cred.group hr.g0 hr.g1
  have y3 := dec_size r.cred.eff hr.e0 hr.e1
  have y4 := dec_size r.cred.effGroup hr.f0 hr.f1
  have p1 : (((⟨#[117, 105, 100, 61]⟩ : ByteArray).size + (dec r.cred.real_).size : Nat) : Int) ≤ 9223372036854775807 := by
    simp only [ByteArray.size_append, z1, z2, z3, z4, z5]
    omega
  have p2 : ((((⟨#[117, 105, 100, 61]⟩ : ByteArray) ++ dec r.cred.real_).size + (⟨#[32, 103, 105, 100, 61]⟩ : ByteArray).size : Nat) : Int) ≤ 9223372036854775807 := by
    simp only [ByteArray.size_append, z1, z2, z3, z4, z5]
    omega
  have p3 : ((((⟨#[117, 105, 100, 61]⟩ : ByteArray) ++ dec r.cred.real_ ++ (⟨#[32, 103, 105, 100, 61]⟩ : ByteArray)).size + (dec r.cred.group).size : Nat) : Int) ≤ 9223372036854775807 := by
    simp only [ByteArray.size_append, z1, z2, z3, z4, z5]
    omega
  refine enter (B := B) tab_ok [.e (.c (.rp ⟨b, 0, none⟩)), rsX r a n cp] [] [] 30 Tryz.func70 rfl rfl rfl (obs := []) (by kernel_rfl) trivial (fun a1 w1 hc1 => ?_)
  replace hc1 := hc1.pickx [(0, .e (.c (.rp ⟨b, 0, none⟩))), (4, .e (.c (.p 1 0)))] [⟨35, r.cs a n cp⟩, ⟨33, r.cred.cs⟩] [] (by kernel_rfl) (by kernel_rfl)
  have hmem : Rel (env0 B w) [⟨35, r.cs a n cp⟩, ⟨33, r.cred.cs⟩] { w1 with drawn := w1.drawn + 1 } := hc1.mem.drew _
  have hN1 := (Over.env w _).rel hmem
  refine gets_draw (S := Sees (env0 B w) [⟨35, r.cs a n cp⟩, ⟨33, r.cred.cs⟩]) (by kernel_rfl) ?_
  refine dgets_take (fuel := 6) (l' := #[true, true, false, false, false, true, true, false, false, false]) tab_ok (by kernel_rfl) hmem.sees [0, 1, 5, 6] _ { tl := [(0, .e (.c (.rp ⟨b, 0, none⟩))), (4, .e (.c (.p 1 0)))], bs := [⟨35, r.cs a n cp⟩, ⟨33, r.cred.cs⟩] } { tl := [(14, .e (.c (.int .i64 r.cred.group))), (13, .e (.c (.p 1 3))), (9, .e (.c (.int .i64 r.cred.real_))), (8, .e (.c (.p 1 0))), (0, .e (.c (.rp ⟨b, 0, none⟩))), (4, .e (.c (.p 1 0)))], bs := [⟨35, r.cs a n cp⟩, ⟨33, r.cred.cs⟩] } _ (by kernel_rfl) rfl hc1.tl hc1.size (fun p hp => by cases hp) (fun a2 h2 h3 h4 => ?_)
  refine dgets_pure (nt := Tryz.f70.ntmps) (σ := { tl := [(14, .e (.c (.int .i64 r.cred.group))), (13, .e (.c (.p 1 3))), (9, .e (.c (.int .i64 r.cred.real_))), (8, .e (.c (.p 1 0))), (0, .e (.c (.rp ⟨b, 0, none⟩))), (4, .e (.c (.p 1 0)))], bs := [] }) (i := 2) (c := ⟨71, [.c (.int .i64 r.cred.real_)], [], #[]⟩) 10 (.e (.c (.str (dec r.cred.real_)))) h2 h3 hmem.sees (by kernel_rfl) (by kernel_rfl) (by kernel_rfl) (by kernel_rfl) (by kernel_rfl) (itoa_calls (hg.keep (hN1.keep B)) _ hr.r0 hr.r1) (fun a3 w3 h5 h6 h7 hn3 hs3 => ?_)
  refine dgets_take (fuel := 3) (l' := #[true, true, true, true, true, true, true, false, false, false]) tab_ok (by kernel_rfl) hs3 [3, 4] _ { tl := [(10, .e (.c (.str (dec r.cred.real_)))), (14, .e (.c (.int .i64 r.cred.group))), (13, .e (.c (.p 1 3))), (9, .e (.c (.int .i64 r.cred.real_))), (8, .e (.c (.p 1 0))), (0, .e (.c (.rp ⟨b, 0, none⟩))), (4, .e (.c (.p 1 0)))], bs := [⟨35, r.cs a n cp⟩, ⟨33, r.cred.cs⟩] } { tl := [(12, .e (.c (.str ((⟨#[117, 105, 100, 61]⟩ : ByteArray) ++ dec r.cred.real_ ++ (⟨#[32, 103, 105, 100, 61]⟩ : ByteArray))))), (11, .e (.c (.str ((⟨#[117, 105, 100, 61]⟩ : ByteArray) ++ dec r.cred.real_)))), (10, .e (.c (.str (dec r.cred.real_)))), (14, .e (.c (.int .i64 r.cred.group))), (13, .e (.c (.p 1 3))), (9, .e (.c (.int .i64 r.cred.real_))), (8, .e (.c (.p 1 0))), (0, .e (.c (.rp ⟨b, 0, none⟩))), (4, .e (.c (.p 1 0)))], bs := [⟨35, r.cs a n cp⟩, ⟨33, r.cred.cs⟩], ob := [fun _ => (((⟨#[117, 105, 100, 61]⟩ : ByteArray).size + (dec r.cred.real_).size : Nat) : Int) ≤ 9223372036854775807, fun _ => ((((⟨#[117, 105, 100, 61]⟩ : ByteArray) ++ dec r.cred.real_).size + (⟨#[32, 103, 105, 100, 61]⟩ : ByteArray).size : Nat) : Int) ≤ 9223372036854775807] } _ (by kernel_rfl) rfl h5 h6 (holds_of rfl ⟨p1, p2, trivial⟩) (fun a4 h8 h9 h10 => ?_)
  refine dgets_pure (nt := Tryz.f70.ntmps) (σ := { tl := [(12, .e (.c (.str ((⟨#[117, 105, 100, 61]⟩ : ByteArray) ++ dec r.cred.real_ ++ (⟨#[32, 103, 105, 100, 61]⟩ : ByteArray))))), (11, .e (.c (.str ((⟨#[117, 105, 100, 61]⟩ : ByteArray) ++ dec r.cred.real_)))), (10, .e (.c (.str (dec r.cred.real_)))), (14, .e (.c (.int .i64 r.cred.group))), (13, .e (.c (.p 1 3))), (9, .e (.c (.int .i64 r.cred.real_))), (8, .e (.c (.p 1 0))), (0, .e (.c (.rp ⟨b, 0, none⟩))), (4, .e (.c (.p 1 0)))], bs := [] }) (i := 7) (c := ⟨71, [.c (.int .i64 r.cred.group)], [], #[]⟩) 15 (.e (.c (.str (dec r.cred.group)))) h8 h9 hs3 (by kernel_rfl) (by kernel_rfl) (by kernel_rfl) (by kernel_rfl) (by kernel_rfl) (itoa_calls (hg.keep ((hN1.trans hn3).keep B)) _ hr.g0 hr.g1) (fun a5 w5 h11 h12 h13 hn5 hs5 => ?_)
  refine dgets_take (fuel := 0) (l' := #[true, true, true, true, true, true, true, true, true, true]) tab_ok (by kernel_rfl) hs5 [8, 9] _ { tl := [(15, .e (.c (.str (dec r.cred.group)))), (12, .e (.c (.str ((⟨#[117, 105, 100, 61]⟩ : ByteArray) ++ dec r.cred.real_ ++ (⟨#[32, 103, 105, 100, 61]⟩ : ByteArray))))), (11, .e (.c (.str ((⟨#[117, 105, 100, 61]⟩ : ByteArray) ++ dec r.cred.real_)))), (10, .e (.c (.str (dec r.cred.real_)))), (14, .e (.c (.int .i64 r.cred.group))), (13, .e (.c (.p 1 3))), (9, .e (.c (.int .i64 r.cred.real_))), (8, .e (.c (.p 1 0))), (0, .e (.c (.rp ⟨b, 0, none⟩))), (4, .e (.c (.p 1 0)))], bs := [⟨35, r.cs a n cp⟩, ⟨33, r.cred.cs⟩] } { tl := [(5, .e (.c (.str ((⟨#[117, 105, 100, 61]⟩ : ByteArray) ++ dec r.cred.real_ ++ (⟨#[32, 103, 105, 100, 61]⟩ : ByteArray) ++ dec r.cred.group)))), (16, .e (.c (.str ((⟨#[117, 105, 100, 61]⟩ : ByteArray) ++ dec r.cred.real_ ++ (⟨#[32, 103, 105, 100, 61]⟩ : ByteArray) ++ dec r.cred.group)))), (15, .e (.c (.str (dec r.cred.group)))), (12, .e (.c (.str ((⟨#[117, 105, 100, 61]⟩ : ByteArray) ++ dec r.cred.real_ ++ (⟨#[32, 103, 105, 100, 61]⟩ : ByteArray))))), (11, .e (.c (.str ((⟨#[117, 105, 100, 61]⟩ : ByteArray) ++ dec r.cred.real_)))), (10, .e (.c (.str (dec r.cred.real_)))), (14, .e (.c (.int .i64 r.cred.group))), (13, .e (.c (.p 1 3))), (9, .e (.c (.int .i64 r.cred.real_))), (8, .e (.c (.p 1 0))), (0, .e (.c (.rp ⟨b, 0, none⟩))), (4, .e (.c (.p 1 0)))], bs := [⟨35, r.cs a n cp⟩, ⟨33, r.cred.cs⟩], ob := [fun _ => ((((⟨#[117, 105, 100, 61]⟩ : ByteArray) ++ dec r.cred.real_ ++ (⟨#[32, 103, 105, 100, 61]⟩ : ByteArray)).size + (dec r.cred.group).size : Nat) : Int) ≤ 9223372036854775807] } _ (by kernel_rfl) rfl h11 h12 (holds_of rfl ⟨p3, trivial⟩) (fun a6 h14 h15 h16 => ?_)
  refine dgets_done 0 (by kernel_rfl) ?_
  have hN5 := (hN1.trans hn3).trans hn5
  obtain ⟨hm5, he5⟩ := hm.fresh hN5
  have hcr : w5.heap[w.heap.size + 1]? = some (.cells (plainR r.cred.cs) 33 (0, 0)) := by
    have := hs5.cells 1 _ rfl
    rw [map_plain _ rfl] at this
    exact this
  have hc7 : ∀ orc, CRel (env w5 [w.heap.size + 1] noRo) Tryz.f70.ntmps { tl := [(5, .e (.c (.str ((⟨#[117, 105, 100, 61]⟩ : ByteArray) ++ dec r.cred.real_ ++ (⟨#[32, 103, 105, 100, 61]⟩ : ByteArray) ++ dec r.cred.group)))), (4, .e (.c (.p 0 0))), (0, .e (.c (.rp ⟨b, 0, none⟩)))], bs := [⟨33, r.cred.cs⟩], orc := orc } a6 w5 := by
    intro orc
    refine ⟨fun d v hd => ?_, h15, h16.trans (h13.trans (h10.trans (h7.trans (h4.trans hc1.defers)))), rel1 hcr rfl⟩
    simp only [lk] at hd
    split at hd
    · rename_i e; cases hd; subst e; exact h14 5 _ (by rfl)
    · split at hd
      · rename_i e; cases hd; subst e; exact h14 4 (.e (.c (.p 1 0))) (by rfl)
      · split at hd
        · rename_i e; cases hd; subst e; exact h14 0 _ (by rfl)
        · cases hd
  clear hc1 h2 h5 h8 h11 h14
  have hov7 : ∀ {w' : World} {bs : List NB}, bs[0]? = some ⟨33, r.cred.cs⟩ → Rel (env w5 [w.heap.size + 1] noRo) bs w' → New w5 w' := by
    intro w' bs hb hr'
    refine ⟨hr'.os, hr'.tape, hr'.output, by rw [hr'.size]; exact Nat.le_add_right _ _, fun k hk => ?_⟩
    by_cases e : k = w.heap.size + 1
    · subst e
      have := hr'.cells 0 _ hb
      rw [map_plain _ rfl] at this
      rw [hcr]; exact this
    · exact hr'.keep k hk (fun i hi e' => by
        have hi1 : i < 1 := hi
        have : i = 0 := by omega
        subst this
        exact e e'.symm)
  cases hb1 : (r.cred.eff != r.cred.real_) <;> cases hb2 : (r.cred.effGroup != r.cred.group)
  · have qe : ((((⟨#[117, 105, 100, 61]⟩ : ByteArray) ++ dec r.cred.real_ ++ (⟨#[32, 103, 105, 100, 61]⟩ : ByteArray) ++ dec r.cred.group).size + (⟨#[10]⟩ : ByteArray).size : Nat) : Int) ≤ 9223372036854775807 := by
      simp only [ByteArray.size_append, z1, z2, z3, z4, z5]
      omega
    refine gets_run tab_ok 80 (hc7 [false, false]) (holds_of (obs := [fun _ => (r.cred.eff != r.cred.real_) = false, fun _ => (r.cred.effGroup != r.cred.group) = false, fun _ => ((((⟨#[117, 105, 100, 61]⟩ : ByteArray) ++ dec r.cred.real_ ++ (⟨#[32, 103, 105, 100, 61]⟩ : ByteArray) ++ dec r.cred.group).size + (⟨#[10]⟩ : ByteArray).size : Nat) : Int) ≤ 9223372036854775807]) (by kernel_rfl) ⟨hb1, hb2, qe, trivial⟩) (fun a12 w12 hc12 => ?_)
    have hr12 := hc12.mem.bs (bs' := [⟨33, r.cred.cs⟩]) (by kernel_rfl)
    have hn12 := hov7 rfl hr12
    have hN12 := hN5.trans hn12
    obtain ⟨hm12, he12⟩ := hm.fresh hN12
    refine gets_tail (fun w' => MOk B w' b (m.say 1 (idT r.cred false false) .none) ∧ Evo w12 b w') (c := ⟨72, [.c (.rp ⟨b, 0, none⟩), .c (.int .i64 1), .c (.str (idT r.cred false false)), .c (.f 73 [])], [], #[]⟩) hc12 (by kernel_rfl) (by kernel_rfl) ?_ Tryz.func70 rfl (by kernel_rfl) (fun w' h => ⟨rfl, h.1, he12.trans h.2⟩)
    exact say_calls hm12 1 _ (idT_ne _ _ _) .none 73 #[] ⟨rfl, rfl⟩
  · refine gets_run tab_ok 80 (hc7 [false, true]) (holds_of (obs := [fun _ => (r.cred.eff != r.cred.real_) = false, fun _ => (r.cred.effGroup != r.cred.group) = true]) (by kernel_rfl) ⟨hb1, hb2, trivial⟩) (fun a10 w10 hc10 => ?_)
    replace hc10 := hc10.pickx [(0, .e (.c (.rp ⟨b, 0, none⟩))), (4, .e (.c (.p 0 0))), (33, .e (.c (.str ((⟨#[117, 105, 100, 61]⟩ : ByteArray) ++ dec r.cred.real_ ++ (⟨#[32, 103, 105, 100, 61]⟩ : ByteArray) ++ dec r.cred.group)))), (35, .e (.c (.int .i64 r.cred.effGroup)))] [⟨33, r.cred.cs⟩] [] (by kernel_rfl) (by kernel_rfl)
    have hn10 := hov7 rfl hc10.mem
    refine gets_pure (Q := fun _ => True) (c := ⟨71, [.c (.int .i64 r.cred.effGroup)], [], #[]⟩) 36 (.e (.c (.str (dec r.cred.effGroup)))) [] [] hc10 (by kernel_rfl) (by kernel_rfl) (by kernel_rfl) (by kernel_rfl) (itoa_calls (hg.keep ((hN5.trans hn10).keep B)) _ hr.f0 hr.f1) (by kernel_rfl) (by kernel_rfl) (fun a11 w11 hn11 _ hc11 => ?_)
    have qc : (((⟨#[32, 101, 103, 105, 100, 61]⟩ : ByteArray).size + (dec r.cred.effGroup).size : Nat) : Int) ≤ 9223372036854775807 := by
      simp only [ByteArray.size_append, z1, z2, z3, z4, z5]
      omega
    have qd : ((((⟨#[117, 105, 100, 61]⟩ : ByteArray) ++ dec r.cred.real_ ++ (⟨#[32, 103, 105, 100, 61]⟩ : ByteArray) ++ dec r.cred.group).size + ((⟨#[32, 101, 103, 105, 100, 61]⟩ : ByteArray) ++ dec r.cred.effGroup).size : Nat) : Int) ≤ 9223372036854775807 := by
      simp only [ByteArray.size_append, z1, z2, z3, z4, z5]
      omega
    have qe : (((((⟨#[117, 105, 100, 61]⟩ : ByteArray) ++ dec r.cred.real_ ++ (⟨#[32, 103, 105, 100, 61]⟩ : ByteArray) ++ dec r.cred.group) ++ ((⟨#[32, 101, 103, 105, 100, 61]⟩ : ByteArray) ++ dec r.cred.effGroup)).size + (⟨#[10]⟩ : ByteArray).size : Nat) : Int) ≤ 9223372036854775807 := by
      simp only [ByteArray.size_append, z1, z2, z3, z4, z5]
      omega
    refine gets_run tab_ok 80 hc11 (holds_of (obs := [fun _ => (((⟨#[32, 101, 103, 105, 100, 61]⟩ : ByteArray).size + (dec r.cred.effGroup).size : Nat) : Int) ≤ 9223372036854775807, fun _ => ((((⟨#[117, 105, 100, 61]⟩ : ByteArray) ++ dec r.cred.real_ ++ (⟨#[32, 103, 105, 100, 61]⟩ : ByteArray) ++ dec r.cred.group).size + ((⟨#[32, 101, 103, 105, 100, 61]⟩ : ByteArray) ++ dec r.cred.effGroup).size : Nat) : Int) ≤ 9223372036854775807, fun _ => (((((⟨#[117, 105, 100, 61]⟩ : ByteArray) ++ dec r.cred.real_ ++ (⟨#[32, 103, 105, 100, 61]⟩ : ByteArray) ++ dec r.cred.group) ++ ((⟨#[32, 101, 103, 105, 100, 61]⟩ : ByteArray) ++ dec r.cred.effGroup)).size + (⟨#[10]⟩ : ByteArray).size : Nat) : Int) ≤ 9223372036854775807]) (by kernel_rfl) ⟨qc, qd, qe, trivial⟩) (fun a12 w12 hc12 => ?_)
    have hr12 := hc12.mem.bs (bs' := [⟨33, r.cred.cs⟩]) (by kernel_rfl)
    have hn12 := (hn10.trans hn11).trans (hc11.mem.same hr12)
    have hN12 := hN5.trans hn12
    obtain ⟨hm12, he12⟩ := hm.fresh hN12
    refine gets_tail (fun w' => MOk B w' b (m.say 1 (idT r.cred false true) .none) ∧ Evo w12 b w') (c := ⟨72, [.c (.rp ⟨b, 0, none⟩), .c (.int .i64 1), .c (.str (idT r.cred false true)), .c (.f 73 [])], [], #[]⟩) hc12 (by kernel_rfl) (by kernel_rfl) ?_ Tryz.func70 rfl (by kernel_rfl) (fun w' h => ⟨rfl, h.1, he12.trans h.2⟩)
    exact say_calls hm12 1 _ (idT_ne _ _ _) .none 73 #[] ⟨rfl, rfl⟩
  · refine gets_run tab_ok 60 (hc7 [true]) (holds_of (obs := [fun _ => (r.cred.eff != r.cred.real_) = true]) (by kernel_rfl) ⟨hb1, trivial⟩) (fun a8 w8 hc8 => ?_)
    replace hc8 := hc8.pickx [(0, .e (.c (.rp ⟨b, 0, none⟩))), (4, .e (.c (.p 0 0))), (22, .e (.c (.str ((⟨#[117, 105, 100, 61]⟩ : ByteArray) ++ dec r.cred.real_ ++ (⟨#[32, 103, 105, 100, 61]⟩ : ByteArray) ++ dec r.cred.group)))), (24, .e (.c (.int .i64 r.cred.eff)))] [⟨33, r.cred.cs⟩] [] (by kernel_rfl) (by kernel_rfl)
    have hn8 := hov7 rfl hc8.mem
    refine gets_pure (Q := fun _ => True) (c := ⟨71, [.c (.int .i64 r.cred.eff)], [], #[]⟩) 25 (.e (.c (.str (dec r.cred.eff)))) [false] [] hc8 (by kernel_rfl) (by kernel_rfl) (by kernel_rfl) (by kernel_rfl) (itoa_calls (hg.keep ((hN5.trans hn8).keep B)) _ hr.e0 hr.e1) (by kernel_rfl) (by kernel_rfl) (fun a9 w9 hn9 _ hc9 => ?_)
    have hc9x := hc9
    have qa : (((⟨#[32, 101, 117, 105, 100, 61]⟩ : ByteArray).size + (dec r.cred.eff).size : Nat) : Int) ≤ 9223372036854775807 := by
      simp only [ByteArray.size_append, z1, z2, z3, z4, z5]
      omega
    have qb : ((((⟨#[117, 105, 100, 61]⟩ : ByteArray) ++ dec r.cred.real_ ++ (⟨#[32, 103, 105, 100, 61]⟩ : ByteArray) ++ dec r.cred.group).size + ((⟨#[32, 101, 117, 105, 100, 61]⟩ : ByteArray) ++ dec r.cred.eff).size : Nat) : Int) ≤ 9223372036854775807 := by
      simp only [ByteArray.size_append, z1, z2, z3, z4, z5]
      omega
    have qe : (((((⟨#[117, 105, 100, 61]⟩ : ByteArray) ++ dec r.cred.real_ ++ (⟨#[32, 103, 105, 100, 61]⟩ : ByteArray) ++ dec r.cred.group) ++ ((⟨#[32, 101, 117, 105, 100, 61]⟩ : ByteArray) ++ dec r.cred.eff)).size + (⟨#[10]⟩ : ByteArray).size : Nat) : Int) ≤ 9223372036854775807 := by
      simp only [ByteArray.size_append, z1, z2, z3, z4, z5]
      omega
    refine gets_run tab_ok 80 hc9 (holds_of (obs := [fun _ => (((⟨#[32, 101, 117, 105, 100, 61]⟩ : ByteArray).size + (dec r.cred.eff).size : Nat) : Int) ≤ 9223372036854775807, fun _ => ((((⟨#[117, 105, 100, 61]⟩ : ByteArray) ++ dec r.cred.real_ ++ (⟨#[32, 103, 105, 100, 61]⟩ : ByteArray) ++ dec r.cred.group).size + ((⟨#[32, 101, 117, 105, 100, 61]⟩ : ByteArray) ++ dec r.cred.eff).size : Nat) : Int) ≤ 9223372036854775807, fun _ => (r.cred.effGroup != r.cred.group) = false, fun _ => (((((⟨#[117, 105, 100, 61]⟩ : ByteArray) ++ dec r.cred.real_ ++ (⟨#[32, 103, 105, 100, 61]⟩ : ByteArray) ++ dec r.cred.group) ++ ((⟨#[32, 101, 117, 105, 100, 61]⟩ : ByteArray) ++ dec r.cred.eff)).size + (⟨#[10]⟩ : ByteArray).size : Nat) : Int) ≤ 9223372036854775807]) (by kernel_rfl) ⟨qa, qb, hb2, qe, trivial⟩) (fun a12 w12 hc12 => ?_)
    have hr12 := hc12.mem.bs (bs' := [⟨33, r.cred.cs⟩]) (by kernel_rfl)
    have hn12 := (hn8.trans hn9).trans (hc9x.mem.same hr12)
    have hN12 := hN5.trans hn12
    obtain ⟨hm12, he12⟩ := hm.fresh hN12
    refine gets_tail (fun w' => MOk B w' b (m.say 1 (idT r.cred true false) .none) ∧ Evo w12 b w') (c := ⟨72, [.c (.rp ⟨b, 0, none⟩), .c (.int .i64 1), .c (.str (idT r.cred true false)), .c (.f 73 [])], [], #[]⟩) hc12 (by kernel_rfl) (by kernel_rfl) ?_ Tryz.func70 rfl (by kernel_rfl) (fun w' h => ⟨rfl, h.1, he12.trans h.2⟩)
    exact say_calls hm12 1 _ (idT_ne _ _ _) .none 73 #[] ⟨rfl, rfl⟩
  · refine gets_run tab_ok 60 (hc7 [true]) (holds_of (obs := [fun _ => (r.cred.eff != r.cred.real_) = true]) (by kernel_rfl) ⟨hb1, trivial⟩) (fun a8 w8 hc8 => ?_)
    replace hc8 := hc8.pickx [(0, .e (.c (.rp ⟨b, 0, none⟩))), (4, .e (.c (.p 0 0))), (22, .e (.c (.str ((⟨#[117, 105, 100, 61]⟩ : ByteArray) ++ dec r.cred.real_ ++ (⟨#[32, 103, 105, 100, 61]⟩ : ByteArray) ++ dec r.cred.group)))), (24, .e (.c (.int .i64 r.cred.eff)))] [⟨33, r.cred.cs⟩] [] (by kernel_rfl) (by kernel_rfl)
    have hn8 := hov7 rfl hc8.mem
    refine gets_pure (Q := fun _ => True) (c := ⟨71, [.c (.int .i64 r.cred.eff)], [], #[]⟩) 25 (.e (.c (.str (dec r.cred.eff)))) [true] [] hc8 (by kernel_rfl) (by kernel_rfl) (by kernel_rfl) (by kernel_rfl) (itoa_calls (hg.keep ((hN5.trans hn8).keep B)) _ hr.e0 hr.e1) (by kernel_rfl) (by kernel_rfl) (fun a9 w9 hn9 _ hc9 => ?_)
    have hc9x := hc9
    have qa : (((⟨#[32, 101, 117, 105, 100, 61]⟩ : ByteArray).size + (dec r.cred.eff).size : Nat) : Int) ≤ 9223372036854775807 := by
      simp only [ByteArray.size_append, z1, z2, z3, z4, z5]
      omega
    have qb : ((((⟨#[117, 105, 100, 61]⟩ : ByteArray) ++ dec r.cred.real_ ++ (⟨#[32, 103, 105, 100, 61]⟩ : ByteArray) ++ dec r.cred.group).size + ((⟨#[32, 101, 117, 105, 100, 61]⟩ : ByteArray) ++ dec r.cred.eff).size : Nat) : Int) ≤ 9223372036854775807 := by
      simp only [ByteArray.size_append, z1, z2, z3, z4, z5]
      omega
    refine gets_run tab_ok 80 hc9 (holds_of (obs := [fun _ => (((⟨#[32, 101, 117, 105, 100, 61]⟩ : ByteArray).size + (dec r.cred.eff).size : Nat) : Int) ≤ 9223372036854775807, fun _ => ((((⟨#[117, 105, 100, 61]⟩ : ByteArray) ++ dec r.cred.real_ ++ (⟨#[32, 103, 105, 100, 61]⟩ : ByteArray) ++ dec r.cred.group).size + ((⟨#[32, 101, 117, 105, 100, 61]⟩ : ByteArray) ++ dec r.cred.eff).size : Nat) : Int) ≤ 9223372036854775807, fun _ => (r.cred.effGroup != r.cred.group) = true]) (by kernel_rfl) ⟨qa, qb, hb2, trivial⟩) (fun a10 w10 hc10 => ?_)
    replace hc10 := hc10.pickx [(0, .e (.c (.rp ⟨b, 0, none⟩))), (4, .e (.c (.p 0 0))), (33, .e (.c (.str (((⟨#[117, 105, 100, 61]⟩ : ByteArray) ++ dec r.cred.real_ ++ (⟨#[32, 103, 105, 100, 61]⟩ : ByteArray) ++ dec r.cred.group) ++ ((⟨#[32, 101, 117, 105, 100, 61]⟩ : ByteArray) ++ dec r.cred.eff))))), (35, .e (.c (.int .i64 r.cred.effGroup)))] [⟨33, r.cred.cs⟩] [] (by kernel_rfl) (by kernel_rfl)
    have hn10 := (hn8.trans hn9).trans (hc9x.mem.same hc10.mem)
    refine gets_pure (Q := fun _ => True) (c := ⟨71, [.c (.int .i64 r.cred.effGroup)], [], #[]⟩) 36 (.e (.c (.str (dec r.cred.effGroup)))) [] [] hc10 (by kernel_rfl) (by kernel_rfl) (by kernel_rfl) (by kernel_rfl) (itoa_calls (hg.keep ((hN5.trans hn10).keep B)) _ hr.f0 hr.f1) (by kernel_rfl) (by kernel_rfl) (fun a11 w11 hn11 _ hc11 => ?_)
    have qc : (((⟨#[32, 101, 103, 105, 100, 61]⟩ : ByteArray).size + (dec r.cred.effGroup).size : Nat) : Int) ≤ 9223372036854775807 := by
      simp only [ByteArray.size_append, z1, z2, z3, z4, z5]
      omega
    have qd : (((((⟨#[117, 105, 100, 61]⟩ : ByteArray) ++ dec r.cred.real_ ++ (⟨#[32, 103, 105, 100, 61]⟩ : ByteArray) ++ dec r.cred.group) ++ ((⟨#[32, 101, 117, 105, 100, 61]⟩ : ByteArray) ++ dec r.cred.eff)).size + ((⟨#[32, 101, 103, 105, 100, 61]⟩ : ByteArray) ++ dec r.cred.effGroup).size : Nat) : Int) ≤ 9223372036854775807 := by
      simp only [ByteArray.size_append, z1, z2, z3, z4, z5]
      omega
    have qe : ((((((⟨#[117, 105, 100, 61]⟩ : ByteArray) ++ dec r.cred.real_ ++ (⟨#[32, 103, 105, 100, 61]⟩ : ByteArray) ++ dec r.cred.group) ++ ((⟨#[32, 101, 117, 105, 100, 61]⟩ : ByteArray) ++ dec r.cred.eff)) ++ ((⟨#[32, 101, 103, 105, 100, 61]⟩ : ByteArray) ++ dec r.cred.effGroup)).size + (⟨#[10]⟩ : ByteArray).size : Nat) : Int) ≤ 9223372036854775807 := by
      simp only [ByteArray.size_append, z1, z2, z3, z4, z5]
      omega
    refine gets_run tab_ok 80 hc11 (holds_of (obs := [fun _ => (((⟨#[32, 101, 103, 105, 100, 61]⟩ : ByteArray).size + (dec r.cred.effGroup).size : Nat) : Int) ≤ 9223372036854775807, fun _ => (((((⟨#[117, 105, 100, 61]⟩ : ByteArray) ++ dec r.cred.real_ ++ (⟨#[32, 103, 105, 100, 61]⟩ : ByteArray) ++ dec r.cred.group) ++ ((⟨#[32, 101, 117, 105, 100, 61]⟩ : ByteArray) ++ dec r.cred.eff)).size + ((⟨#[32, 101, 103, 105, 100, 61]⟩ : ByteArray) ++ dec r.cred.effGroup).size : Nat) : Int) ≤ 9223372036854775807, fun _ => ((((((⟨#[117, 105, 100, 61]⟩ : ByteArray) ++ dec r.cred.real_ ++ (⟨#[32, 103, 105, 100, 61]⟩ : ByteArray) ++ dec r.cred.group) ++ ((⟨#[32, 101, 117, 105, 100, 61]⟩ : ByteArray) ++ dec r.cred.eff)) ++ ((⟨#[32, 101, 103, 105, 100, 61]⟩ : ByteArray) ++ dec r.cred.effGroup)).size + (⟨#[10]⟩ : ByteArray).size : Nat) : Int) ≤ 9223372036854775807]) (by kernel_rfl) ⟨qc, qd, qe, trivial⟩) (fun a12 w12 hc12 => ?_)
    have hr12 := hc12.mem.bs (bs' := [⟨33, r.cred.cs⟩]) (by kernel_rfl)
    have hn12 := (hn10.trans hn11).trans (hc11.mem.same hr12)
    have hN12 := hN5.trans hn12
    obtain ⟨hm12, he12⟩ := hm.fresh hN12
    refine gets_tail (fun w' => MOk B w' b (m.say 1 (idT r.cred true true) .none) ∧ Evo w12 b w') (c := ⟨72, [.c (.rp ⟨b, 0, none⟩), .c (.int .i64 1), .c (.str (idT r.cred true true)), .c (.f 73 [])], [], #[]⟩) hc12 (by kernel_rfl) (by kernel_rfl) ?_ Tryz.func70 rfl (by kernel_rfl) (fun w' h => ⟨rfl, h.1, he12.trans h.2⟩)
    exact say_calls hm12 1 _ (idT_ne _ _ _) .none 73 #[] ⟨rfl, rfl⟩

end Go.Proofs.YtoihipolfdhhnaaGreatDoor
