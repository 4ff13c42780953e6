/-
  The contracts of the programs, of the steps, of what follows: all together.
-/
import Derived.Test.YtoihipolfdhhnaaGreatDoorClosG
import Derived.Test.YtoihipolfdhhnaaGreatDoorClosI
namespace Go.Proofs.YtoihipolfdhhnaaGreatDoor

theorem none_calls {B : Bd} {w : World} {b : Nat} {m : M} (hm : MOk B w b m) : Calls Tryz.prog 73 #[bp b] w (Does B b w m) :=
  does_end [.e (.c (.rp ⟨b, 0, none⟩))] [] [] 40 [] (obs := []) hm Tryz.func73 rfl rfl rfl (by kernel_rfl) (by kernel_rfl) (by kernel_rfl) rfl trivial

/-- false. -/
theorem fls_calls {B : Bd} {w : World} {b : Nat} {m : M} (hm : MOk B w b m) (a : Option Addr) (n cp : Nat) : Calls Tryz.prog 39 #[bp b, .slice a n cp] w (Does B b w { m with status := 1 }) := by
  have hm0 := hm
  obtain ⟨a1, n1, cp1, th, row, hm⟩ := hm
  refine calls_exec [.e (.c (.p 0 0)), .e (.c (.sl a n cp))] [b] [⟨66, mcells m.prog m.status a1 n1 cp1 (thnC th) m.call m.over⟩] noRo Tryz.func39 rfl rfl rfl (hm.rel noRo (fun _ _ h => by cases h)) ?_
  intro a0 hc
  refine gets_run tab_ok 40 hc (holds_of (obs := []) (by kernel_rfl) trivial) (fun a' w' hc' => ?_)
  refine gets_fin tab_ok (l := []) hc' Tryz.func39 (by kernel_rfl) (by kernel_rfl) ?_
  have hr := hc'.mem.bs (bs' := [⟨66, mcells m.prog 1 a1 n1 cp1 (thnC th) m.call m.over⟩]) (by kernel_rfl)
  have hk := (evo_of_rel (m' := { m with status := 1 }) (th' := th) hm hr rfl).keep hm0
  obtain ⟨h1, h2⟩ := hm.after (m' := { m with status := 1 }) (th' := th) hr rfl rfl (thn_keep hm.thn hk)
  exact ⟨rfl, h1, h2⟩

/-- id. -/
theorem id_calls {B : Bd} {w : World} {b : Nat} {m : M} (hm : MOk B w b m) (a : Option Addr) (n cp : Nat) : Calls Tryz.prog 40 #[bp b, .slice a n cp] w (Does B b w (m.sys { op := 22 } .id)) := by
  refine does_tail [.e (.c (.rp ⟨b, 0, none⟩)), .e (.c (.sl a n cp))] [] [] 40 [] ⟨69, [.c (.rp ⟨b, 0, none⟩), .a ({ op := 22 } : CallD).cs, .c (.f 70 [])], [], #[]⟩ (obs := []) hm Tryz.func40 rfl rfl rfl (by kernel_rfl) (by kernel_rfl) (by kernel_rfl) (by kernel_rfl) rfl (by kernel_rfl) trivial (fun w1 _ hm1 _ => ?_)
  exact sys_calls hm1 { op := 22 } .id 70 _ ⟨rfl, rfl⟩

/-- The last step: Exit with the status. -/
theorem exit0_calls {B : Bd} {w : World} {b : Nat} {m : M} (hm : MOk B w b m) : Calls Tryz.prog 23 #[bp b] w (Does B b w (m.exit m.status)) := by
  have hm0 := hm
  obtain ⟨ap, n1, cp1, th, row, hm⟩ := hm
  refine calls_exec [.e (.c (.p 0 0))] [b] [⟨66, mcells m.prog m.status ap n1 cp1 (thnC th) m.call m.over⟩] noRo Tryz.func23 rfl rfl rfl (hm.rel noRo (fun _ _ h => by cases h)) ?_
  intro a0 hc
  refine gets_run tab_ok 40 hc (holds_of (obs := []) (by kernel_rfl) trivial) (fun a1 w1 hc1 => ?_)
  have hr := hc1.mem.bs (bs' := [⟨66, mcells m.prog m.status ap n1 cp1 (thnC th) m.call m.over⟩]) (by kernel_rfl)
  obtain ⟨hm1, he1⟩ := hm.after hr rfl rfl (thn_keep hm.thn ((evo_of_rel hm hr rfl).keep hm0))
  refine gets_tail (fun w' => MOk B w' b (m.exit m.status) ∧ Evo w1 b w') (c := ⟨24, [.c (.p 0 0), .c (.int .i64 m.status)], [], #[]⟩) hc1 (by kernel_rfl) (by kernel_rfl) ?_ Tryz.func23 rfl (by kernel_rfl) (fun w' h => ⟨rfl, h.1, he1.trans h.2⟩)
  exact exit_calls hm1 m.status

theorem D_calls {B : Bd} {w : World} {b : Nat} {m : M} (hm : MOk B w b m) (d : Dp) (l : List ByteArray) (a : Option Addr) (n cp : Nat) (hl : StrsAt B w a n cp l) (f : FuncId) (c : Array Value) (hk : RepD w d f c) (hok : okD d l m) :
    Calls Tryz.prog f (#[bp b, .slice a n cp] ++ c) w (Does B b w (runD d l m)) := by
  cases d <;> simp only [okD] at hok
  · obtain ⟨rfl, rfl⟩ := hk
    exact fls_calls hm a n cp
  · obtain ⟨rfl, rfl⟩ := hk
    exact id_calls hm a n cp
  · obtain ⟨rfl, rfl⟩ := hk
    cases l with
    | nil => exact absurd rfl hok.1
    | cons s l => exact cat_calls hm s l a n cp hl hok.2

/-- The first step. -/
theorem start_calls {B : Bd} {w : World} {b : Nat} {m : M} (hm : MOk B w b m) (d : Dp) (ws : List ByteArray) (f : FuncId) (c : Array Value) (hk : RepF B w (.start d ws) f c) (hok : okK (.start d ws) m) :
    Calls Tryz.prog f (#[bp b] ++ c) w (Does B b w (runD d ws (m.push .exit0))) := by
  obtain ⟨rfl, k1, k2, df, dc, rfl, h1, h2, a, n, cp, h3, h4⟩ := hk
  refine enter (B := B) tab_ok [.e (.c (.rp ⟨b, 0, none⟩)), .e (.c (.rp ⟨k1, 0, none⟩)), .e (.c (.rp ⟨k2, 0, none⟩))] [] [] 20 Tryz.func21 rfl rfl rfl (obs := []) (by kernel_rfl) trivial (fun a1 w1 hc1 => ?_)
  have hn1 := (Over.env w _).rel hc1.mem
  obtain ⟨hm1, he1⟩ := hm.fresh hn1
  have hk1 := he1.keep hm
  refine gets_evo he1 (gets_does (c := ⟨22, [.c (.rp ⟨b, 0, none⟩), .c (.f 23 [])], [], #[]⟩) 5 [(0, .e (.c (.rp ⟨b, 0, none⟩))), (1, .e (.c (.rp ⟨k1, 0, none⟩))), (2, .e (.c (.rp ⟨k2, 0, none⟩)))] [] [.e (.c (.fv df dc)), .e (.c (.sl a n cp))]
    hc1 (by kernel_rfl) (by kernel_rfl) (by kernel_rfl) rfl (push_calls hm1 hok.1 hm1.le .exit0 23 #[] ⟨rfl, rfl⟩) (fun ρ' => ⟨rfl, rfl, rfl, trivial⟩) (fun a2 w2 hm2 he2 hc2 => ?_))
  have hk2 := hk1.trans (he2.keep hm1)
  refine gets_run tab_ok 20 hc2 (holds_of (obs := [fun ε => ε.ro ⟨k1, 0, none⟩ = some (.func (.func df) #[] dc), fun ε => ε.ro ⟨k2, 0, none⟩ = some (.slice a n cp)]) (by kernel_rfl) ⟨Box.sro (h1.keep hk2), Box.sro (h3.keep hk2), trivial⟩) (fun a3 w3 hc3 => ?_)
  refine gets_evo he2 (gets_last (bs := []) (c := ⟨df, [.c (.rp ⟨b, 0, none⟩), .c (.sl a n cp)], [], dc⟩) hm2 (Over.env w2 _) hc3 (by kernel_rfl) (by kernel_rfl) h2.enters Tryz.func21 rfl (by kernel_rfl) (fun _ hm3 hk3 => ?_))
  rw [callX_fv]
  exact D_calls hm3 d ws a n cp (h4.keep (hk2.trans hk3)) df dc (h2.keep (hk2.trans hk3)) hok.2

theorem E_ok (e : Ef) : EOk e := by
  intro B w b m s f c hm hk hok
  cases e <;> simp only [okE] at hok
  exact cat_word s f c hm hk trivial

/-- What a step does. -/
theorem K_calls {B : Bd} {w : World} {b : Nat} {m : M} (hm : MOk B w b m) (k : Fn) (f : FuncId) (c : Array Value) (hk : RepF B w k f c) (hok : okK k m) : Calls Tryz.prog f (#[bp b] ++ c) w (Does B b w (runK k m)) := by
  cases k with
  | exit0 => obtain ⟨rfl, rfl⟩ := hk; exact exit0_calls hm
  | start d ws => exact start_calls hm d ws f c hk hok
  | none => obtain ⟨rfl, rfl⟩ := hk; exact none_calls hm
  | exit1 => obtain ⟨rfl, rfl⟩ := hk; exact exit1_calls hm
  | each l e => cases l with
    | nil => exact absurd rfl hok.1
    | cons s l => exact each1_calls hm s l e (E_ok e) f c hk hok.2
  | pours s d t => exact pours11_calls hm s d t f c hk
  | closes fds => exact closes1_calls hm fds f c hk
  | goneD p => exact hok.elim
  | entries d names has => exact hok.elim

/-- What follows on an answer. -/
theorem R_calls {B : Bd} {b : Nat} {m : M} (r : Res) (a : Option Addr) (n cp : Nat) : ∀ (t : Rn) {w : World} (_ : MOk B w b m) (f : FuncId) (c : Array Value) (_ : RepR B w t f c) (_ : StrsAt B w a n cp r.names) (_ : okR t r m),
    Calls Tryz.prog f (#[bp b, resV r a n cp] ++ c) w (Does B b w (runR t r m))
  | .say fd text t, w, hm, f, c, hk, _, hok => said_calls hm fd text t f c hk r a n cp (fun tf tc ht w' hk' hm' => K_calls hm' t tf tc (ht.keep hk') hok)
  | .tries p t, w, hm, f, c, hk, hn, hok => tried_calls hm p t f c hk r a n cp hok.1 (fun he tf tc ht w' hk' hm' => R_calls r a n cp t hm' tf tc (ht.keep hk') (hn.keep hk') (hok.2 he))
  | .pours s d t, w, hm, f, c, hk, _, hok => poured_calls hm s d t f c hk r a n cp (fun tf tc ht w' hk' hm' => K_calls hm' t tf tc (ht.keep hk') hok)
  | .closes [], w, hm, f, c, hk, _, hok => absurd rfl hok
  | .closes (fd :: l), w, hm, f, c, hk, _, _ => closes11_calls hm fd l f c hk r a n cp
  | .cat, w, hm, f, c, hk, _, _ => by obtain ⟨rfl, rfl⟩ := hk; exact cat11_calls hm r a n cp
  | .id, w, hm, f, c, hk, _, hok => by obtain ⟨rfl, rfl⟩ := hk; exact id1_calls hm r a n cp hok
  | .who, _, _, _, _, _, _, hok => hok.elim
  | .noop _, _, _, _, _, _, _, hok => hok.elim
  | .gone _ _ _, _, _, _, _, _, _, hok => hok.elim
  | .goneL _ _ _, _, _, _, _, _, _, hok => hok.elim
  | .places _ _ _ _, _, _, _, _, _, _, hok => hok.elim
  | .copies1 _ _, _, _, _, _, _, _, hok => hok.elim
  | .copies2 _ _, _, _, _, _, _, _, hok => hok.elim
  | .copies3 _ _, _, _, _, _, _, _, hok => hok.elim
  | .chmod _ _, _, _, _, _, _, _, hok => hok.elim
  | .chown _ _ _ _, _, _, _, _, _, _, hok => hok.elim
  | .ls1 _ _ _ _, _, _, _, _, _, _, hok => hok.elim
  | .ls2 _ _ _, _, _, _, _, _, _, hok => hok.elim
  | .entry _, _, _, _, _, _, _, hok => hok.elim

end Go.Proofs.YtoihipolfdhhnaaGreatDoor
