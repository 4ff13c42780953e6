/-
  What the executor knows of the program's types, and that the program says so.
-/
import Derived.Test.YtoihipolfdhhnaaGreatDoorProg
import Derived.Test.YtoihipolfdhhnaaGreatDoorSxRun
namespace Go.Proofs.YtoihipolfdhhnaaGreatDoor

theorem TIok.mk' {P : Program} {t : TypeId} {i : TI} (zs : List Value) {d : TypeDesc} (h1 : (P.info? t).map (fun j => (j.size, j.zero.map fun z => z.cells)) = some (i.size, some zs.toArray))
    (h2 : C.ofVs zs = some i.zero) (h4 : (match d with | .struct _ | .array _ _ => true | _ => false) = i.agg) (h3 : P.underlying t = some d) (h5 : i.kd.fits d) : TIok P t i := by
  refine ⟨?_, d, h3, h4, h5⟩
  cases hj : P.info? t with
  | none => rw [hj] at h1; cases h1
  | some j =>
    rw [hj] at h1
    simp only [Option.map_some, Option.some.injEq, Prod.mk.injEq] at h1
    cases hz : j.zero with
    | none => rw [hz] at h1; simp at h1
    | some z =>
      rw [hz] at h1
      simp only [Option.map_some, Option.some.injEq] at h1
      refine ⟨j, rfl, h1.1, z, hz, fun ρ => ?_⟩
      rw [h1.2, C.ofVs_real h2 ρ]

def ti2 : TI := ⟨1, false, [.int .i64 0], .int .i64⟩
theorem ti2_ok : TIok Tryz.prog 2 ti2 :=
  .mk' [.int .i64 0] (by kernel_rfl) rfl rfl Tryz.underlying2 rfl
def ti3 : TI := ⟨1, false, [.int .i64 0], .int .i64⟩
theorem ti3_ok : TIok Tryz.prog 3 ti3 :=
  .mk' [.int .i64 0] (by kernel_rfl) rfl rfl Tryz.underlying3 rfl
def ti4 : TI := ⟨1, false, [.bool false], .bool⟩
theorem ti4_ok : TIok Tryz.prog 4 ti4 :=
  .mk' [.bool false] (by kernel_rfl) rfl rfl Tryz.underlying4 rfl
def ti5 : TI := ⟨1, false, [.int .u8 0], .int .u8⟩
theorem ti5_ok : TIok Tryz.prog 5 ti5 :=
  .mk' [.int .u8 0] (by kernel_rfl) rfl rfl Tryz.underlying5 rfl
def ti9 : TI := ⟨1, false, [.str ⟨#[]⟩], .str⟩
theorem ti9_ok : TIok Tryz.prog 9 ti9 :=
  .mk' [.string ⟨#[]⟩] (by kernel_rfl) rfl rfl Tryz.underlying9 rfl
def ti21 : TI := ⟨1, false, [.int .i32 0], .int .i32⟩
theorem ti21_ok : TIok Tryz.prog 21 ti21 :=
  .mk' [.int .i32 0] (by kernel_rfl) rfl rfl Tryz.underlying21 rfl
def ti22 : TI := ⟨1, false, [.sl none 0 0], .slice 9⟩
theorem ti22_ok : TIok Tryz.prog 22 ti22 :=
  .mk' [.slice none 0 0] (by kernel_rfl) rfl rfl Tryz.underlying22 rfl
def ti23 : TI := ⟨1, false, [.sl none 0 0], .slice 35⟩
theorem ti23_ok : TIok Tryz.prog 23 ti23 :=
  .mk' [.slice none 0 0] (by kernel_rfl) rfl rfl Tryz.underlying23 rfl
def ti26 : TI := ⟨1, false, [.nilp], .ptr⟩
theorem ti26_ok : TIok Tryz.prog 26 ti26 :=
  .mk' [.pointer none] (by kernel_rfl) rfl rfl Tryz.underlying26 ⟨_, rfl⟩
def ti29 : TI := ⟨1, false, [.int .i64 0], .int .i64⟩
theorem ti29_ok : TIok Tryz.prog 29 ti29 :=
  .mk' [.int .i64 0] (by kernel_rfl) rfl rfl Tryz.underlying29 rfl
def ti31 : TI := ⟨8, true, [.int .i64 0, .int .i64 0, .int .i64 0, .int .i64 0, .int .i64 0, .int .i64 0, .int .i64 0, .int .i64 0], .struct [(3, 0), (3, 1), (3, 2), (3, 3), (3, 4), (3, 5), (3, 6), (3, 7)]⟩
theorem ti31_ok : TIok Tryz.prog 31 ti31 :=
  .mk' [.int .i64 0, .int .i64 0, .int .i64 0, .int .i64 0, .int .i64 0, .int .i64 0, .int .i64 0, .int .i64 0] (by kernel_rfl) rfl rfl Tryz.underlying31 ⟨_, rfl, rfl⟩
def ti33 : TI := ⟨5, true, [.int .i64 0, .int .i64 0, .int .i64 0, .int .i64 0, .int .i64 0], .struct [(3, 0), (3, 1), (3, 2), (3, 3), (3, 4)]⟩
theorem ti33_ok : TIok Tryz.prog 33 ti33 :=
  .mk' [.int .i64 0, .int .i64 0, .int .i64 0, .int .i64 0, .int .i64 0] (by kernel_rfl) rfl rfl Tryz.underlying33 ⟨_, rfl, rfl⟩
def ti35 : TI := ⟨19, true, [.int .i64 0, .int .i64 0, .int .i64 0, .str ⟨#[]⟩, .sl none 0 0, .int .i64 0, .int .i64 0, .int .i64 0, .int .i64 0, .int .i64 0, .int .i64 0, .int .i64 0, .int .i64 0, .int .i64 0, .int .i64 0, .int .i64 0, .int .i64 0, .int .i64 0, .int .i64 0], .struct [(29, 0), (3, 1), (3, 2), (9, 3), (22, 4), (31, 5), (3, 13), (33, 14)]⟩
theorem ti35_ok : TIok Tryz.prog 35 ti35 :=
  .mk' [.int .i64 0, .int .i64 0, .int .i64 0, .string ⟨#[]⟩, .slice none 0 0, .int .i64 0, .int .i64 0, .int .i64 0, .int .i64 0, .int .i64 0, .int .i64 0, .int .i64 0, .int .i64 0, .int .i64 0, .int .i64 0, .int .i64 0, .int .i64 0, .int .i64 0, .int .i64 0] (by kernel_rfl) rfl rfl Tryz.underlying35 ⟨_, rfl, rfl⟩
def ti37 : TI := ⟨6, true, [.int .i64 0, .bool false, .bool false, .bool false, .bool false, .int .i64 0], .struct [(3, 0), (4, 1), (4, 2), (4, 3), (4, 4), (3, 5)]⟩
theorem ti37_ok : TIok Tryz.prog 37 ti37 :=
  .mk' [.int .i64 0, .bool false, .bool false, .bool false, .bool false, .int .i64 0] (by kernel_rfl) rfl rfl Tryz.underlying37 ⟨_, rfl, rfl⟩
def ti39 : TI := ⟨20, true, [.int .i64 0, .str ⟨#[]⟩, .str ⟨#[]⟩, .str ⟨#[]⟩, .int .i64 0, .int .i64 0, .int .i64 0, .int .i64 0, .int .i64 0, .int .i64 0, .int .i64 0, .bool false, .bool false, .bool false, .bool false, .int .i64 0, .bool false, .bool false, .sl none 0 0, .sl none 0 0], .struct [(3, 0), (9, 1), (9, 2), (9, 3), (3, 4), (3, 5), (3, 6), (3, 7), (3, 8), (3, 9), (37, 10), (4, 16), (4, 17), (22, 18), (22, 19)]⟩
theorem ti39_ok : TIok Tryz.prog 39 ti39 :=
  .mk' [.int .i64 0, .string ⟨#[]⟩, .string ⟨#[]⟩, .string ⟨#[]⟩, .int .i64 0, .int .i64 0, .int .i64 0, .int .i64 0, .int .i64 0, .int .i64 0, .int .i64 0, .bool false, .bool false, .bool false, .bool false, .int .i64 0, .bool false, .bool false, .slice none 0 0, .slice none 0 0] (by kernel_rfl) rfl rfl Tryz.underlying39 ⟨_, rfl, rfl⟩
def ti44 : TI := ⟨1, false, [.sl none 0 0], .slice 22⟩
theorem ti44_ok : TIok Tryz.prog 44 ti44 :=
  .mk' [.slice none 0 0] (by kernel_rfl) rfl rfl Tryz.underlying44 rfl
def ti47 : TI := ⟨1, false, [.sl none 0 0], .slice 3⟩
theorem ti47_ok : TIok Tryz.prog 47 ti47 :=
  .mk' [.slice none 0 0] (by kernel_rfl) rfl rfl Tryz.underlying47 rfl
def ti55 : TI := ⟨1, false, [.nilf], .func⟩
theorem ti55_ok : TIok Tryz.prog 55 ti55 :=
  .mk' [.nilFunc] (by kernel_rfl) rfl rfl Tryz.underlying55 ⟨_, _, _, rfl⟩
def ti57 : TI := ⟨1, false, [.nilp], .ptr⟩
theorem ti57_ok : TIok Tryz.prog 57 ti57 :=
  .mk' [.pointer none] (by kernel_rfl) rfl rfl Tryz.underlying57 ⟨_, rfl⟩
def ti60 : TI := ⟨2, true, [.str ⟨#[]⟩, .int .i64 0], .struct [(9, 0), (3, 1)]⟩
theorem ti60_ok : TIok Tryz.prog 60 ti60 :=
  .mk' [.string ⟨#[]⟩, .int .i64 0] (by kernel_rfl) rfl rfl Tryz.underlying60 ⟨_, rfl, rfl⟩
def ti63 : TI := ⟨1, false, [.sl none 0 0], .slice 84⟩
theorem ti63_ok : TIok Tryz.prog 63 ti63 :=
  .mk' [.slice none 0 0] (by kernel_rfl) rfl rfl Tryz.underlying63 rfl
def ti64 : TI := ⟨1, false, [.nilf], .func⟩
theorem ti64_ok : TIok Tryz.prog 64 ti64 :=
  .mk' [.nilFunc] (by kernel_rfl) rfl rfl Tryz.underlying64 ⟨_, _, _, rfl⟩
def ti66 : TI := ⟨26, true, [.str ⟨#[]⟩, .int .i64 0, .int .i64 0, .sl none 0 0, .nilf, .int .i64 0, .str ⟨#[]⟩, .str ⟨#[]⟩, .str ⟨#[]⟩, .int .i64 0, .int .i64 0, .int .i64 0, .int .i64 0, .int .i64 0, .int .i64 0, .int .i64 0, .bool false, .bool false, .bool false, .bool false, .int .i64 0, .bool false, .bool false, .sl none 0 0, .sl none 0 0, .bool false], .struct [(60, 0), (3, 2), (63, 3), (64, 4), (39, 5), (4, 25)]⟩
theorem ti66_ok : TIok Tryz.prog 66 ti66 :=
  .mk' [.string ⟨#[]⟩, .int .i64 0, .int .i64 0, .slice none 0 0, .nilFunc, .int .i64 0, .string ⟨#[]⟩, .string ⟨#[]⟩, .string ⟨#[]⟩, .int .i64 0, .int .i64 0, .int .i64 0, .int .i64 0, .int .i64 0, .int .i64 0, .int .i64 0, .bool false, .bool false, .bool false, .bool false, .int .i64 0, .bool false, .bool false, .slice none 0 0, .slice none 0 0, .bool false] (by kernel_rfl) rfl rfl Tryz.underlying66 ⟨_, rfl, rfl⟩
def ti67 : TI := ⟨1, false, [.nilf], .func⟩
theorem ti67_ok : TIok Tryz.prog 67 ti67 :=
  .mk' [.nilFunc] (by kernel_rfl) rfl rfl Tryz.underlying67 ⟨_, _, _, rfl⟩
def ti69 : TI := ⟨1, true, [.nilp], .struct [(57, 0)]⟩
theorem ti69_ok : TIok Tryz.prog 69 ti69 :=
  .mk' [.pointer none] (by kernel_rfl) rfl rfl Tryz.underlying69 ⟨_, rfl, rfl⟩
def ti71 : TI := ⟨1, false, [.nilp], .ptr⟩
theorem ti71_ok : TIok Tryz.prog 71 ti71 :=
  .mk' [.pointer none] (by kernel_rfl) rfl rfl Tryz.underlying71 ⟨_, rfl⟩
def ti73 : TI := ⟨25, true, [.sl none 0 0, .int .i64 0, .int .i64 0, .str ⟨#[]⟩, .str ⟨#[]⟩, .str ⟨#[]⟩, .int .i64 0, .int .i64 0, .int .i64 0, .int .i64 0, .int .i64 0, .int .i64 0, .int .i64 0, .bool false, .bool false, .bool false, .bool false, .int .i64 0, .bool false, .bool false, .sl none 0 0, .sl none 0 0, .bool false, .str ⟨#[]⟩, .int .i64 0], .struct [(23, 0), (3, 1), (39, 2), (4, 22), (9, 23), (3, 24)]⟩
theorem ti73_ok : TIok Tryz.prog 73 ti73 :=
  .mk' [.slice none 0 0, .int .i64 0, .int .i64 0, .string ⟨#[]⟩, .string ⟨#[]⟩, .string ⟨#[]⟩, .int .i64 0, .int .i64 0, .int .i64 0, .int .i64 0, .int .i64 0, .int .i64 0, .int .i64 0, .bool false, .bool false, .bool false, .bool false, .int .i64 0, .bool false, .bool false, .slice none 0 0, .slice none 0 0, .bool false, .string ⟨#[]⟩, .int .i64 0] (by kernel_rfl) rfl rfl Tryz.underlying73 ⟨_, rfl, rfl⟩
def ti75 : TI := ⟨1, false, [.int .u64 0], .int .u64⟩
theorem ti75_ok : TIok Tryz.prog 75 ti75 :=
  .mk' [.int .u64 0] (by kernel_rfl) rfl rfl Tryz.underlying75 rfl
def ti76 : TI := ⟨1, false, [.sl none 0 0], .slice 5⟩
theorem ti76_ok : TIok Tryz.prog 76 ti76 :=
  .mk' [.slice none 0 0] (by kernel_rfl) rfl rfl Tryz.underlying76 rfl
def ti79 : TI := ⟨1, false, [.nilf], .func⟩
theorem ti79_ok : TIok Tryz.prog 79 ti79 :=
  .mk' [.nilFunc] (by kernel_rfl) rfl rfl Tryz.underlying79 ⟨_, _, _, rfl⟩
def ti81 : TI := ⟨1, false, [.nilf], .func⟩
theorem ti81_ok : TIok Tryz.prog 81 ti81 :=
  .mk' [.nilFunc] (by kernel_rfl) rfl rfl Tryz.underlying81 ⟨_, _, _, rfl⟩
def ti84 : TI := ⟨2, true, [.nilf, .bool false], .struct [(67, 0), (4, 1)]⟩
theorem ti84_ok : TIok Tryz.prog 84 ti84 :=
  .mk' [.nilFunc, .bool false] (by kernel_rfl) rfl rfl Tryz.underlying84 ⟨_, rfl, rfl⟩
def ti117 : TI := ⟨1, false, [.nilf], .func⟩
theorem ti117_ok : TIok Tryz.prog 117 ti117 :=
  .mk' [.nilFunc] (by kernel_rfl) rfl rfl Tryz.underlying117 ⟨_, _, _, rfl⟩

def Tab : TypeId → Option TI
  | 2 => some ti2
  | 3 => some ti3
  | 4 => some ti4
  | 5 => some ti5
  | 9 => some ti9
  | 21 => some ti21
  | 22 => some ti22
  | 23 => some ti23
  | 26 => some ti26
  | 29 => some ti29
  | 31 => some ti31
  | 33 => some ti33
  | 35 => some ti35
  | 37 => some ti37
  | 39 => some ti39
  | 44 => some ti44
  | 47 => some ti47
  | 55 => some ti55
  | 57 => some ti57
  | 60 => some ti60
  | 63 => some ti63
  | 64 => some ti64
  | 66 => some ti66
  | 67 => some ti67
  | 69 => some ti69
  | 71 => some ti71
  | 73 => some ti73
  | 75 => some ti75
  | 76 => some ti76
  | 79 => some ti79
  | 81 => some ti81
  | 84 => some ti84
  | 117 => some ti117
  | _ => none

theorem tab_ok : Tabs Tryz.prog Tab := by
  intro t i h
  unfold Tab at h
  split at h <;> first | (cases h; done) | skip
  · cases h; exact ti2_ok
  · cases h; exact ti3_ok
  · cases h; exact ti4_ok
  · cases h; exact ti5_ok
  · cases h; exact ti9_ok
  · cases h; exact ti21_ok
  · cases h; exact ti22_ok
  · cases h; exact ti23_ok
  · cases h; exact ti26_ok
  · cases h; exact ti29_ok
  · cases h; exact ti31_ok
  · cases h; exact ti33_ok
  · cases h; exact ti35_ok
  · cases h; exact ti37_ok
  · cases h; exact ti39_ok
  · cases h; exact ti44_ok
  · cases h; exact ti47_ok
  · cases h; exact ti55_ok
  · cases h; exact ti57_ok
  · cases h; exact ti60_ok
  · cases h; exact ti63_ok
  · cases h; exact ti64_ok
  · cases h; exact ti66_ok
  · cases h; exact ti67_ok
  · cases h; exact ti69_ok
  · cases h; exact ti71_ok
  · cases h; exact ti73_ok
  · cases h; exact ti75_ok
  · cases h; exact ti76_ok
  · cases h; exact ti79_ok
  · cases h; exact ti81_ok
  · cases h; exact ti84_ok
  · cases h; exact ti117_ok

end Go.Proofs.YtoihipolfdhhnaaGreatDoor
