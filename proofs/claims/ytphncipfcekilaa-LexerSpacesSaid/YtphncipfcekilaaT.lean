/- Closed facts on the types of this program. Laid by a small program of my own. -/
import Derived.Test.YtphncipfcekilaaProg
import Derived.Test.YtphncipfcekilaaR
namespace Go.Proofs
open Go.Sx
set_option maxRecDepth 100000
instance : IsOne Try.prog 1 := ⟨fun _ => by kernel_rfl⟩
instance : Size Try.prog 1 1 := ⟨fun _ => by kernel_rfl⟩
instance : Zero Try.prog 1 [.nilFunc] := ⟨fun _ => by kernel_rfl⟩
instance : IsOne Try.prog 2 := ⟨fun _ => by kernel_rfl⟩
instance : Size Try.prog 2 1 := ⟨fun _ => by kernel_rfl⟩
instance : Zero Try.prog 2 [.int .i64 0] := ⟨fun _ => by kernel_rfl⟩
instance : IsOne Try.prog 3 := ⟨fun _ => by kernel_rfl⟩
instance : Size Try.prog 3 1 := ⟨fun _ => by kernel_rfl⟩
instance : Zero Try.prog 3 [.int .i64 0] := ⟨fun _ => by kernel_rfl⟩
instance : IsOne Try.prog 4 := ⟨fun _ => by kernel_rfl⟩
instance : Size Try.prog 4 1 := ⟨fun _ => by kernel_rfl⟩
instance : Zero Try.prog 4 [.bool false] := ⟨fun _ => by kernel_rfl⟩
instance : IsOne Try.prog 5 := ⟨fun _ => by kernel_rfl⟩
instance : Size Try.prog 5 1 := ⟨fun _ => by kernel_rfl⟩
instance : Zero Try.prog 5 [.int .u8 0] := ⟨fun _ => by kernel_rfl⟩
instance : IsOne Try.prog 6 := ⟨fun _ => by kernel_rfl⟩
instance : Size Try.prog 6 1 := ⟨fun _ => by kernel_rfl⟩
instance : Zero Try.prog 6 [.int .u8 0] := ⟨fun _ => by kernel_rfl⟩
instance : IsAgg Try.prog 7 := ⟨fun _ => by kernel_rfl⟩
instance : Fld Try.prog 7 0 0 := ⟨fun _ _ => by kernel_rfl⟩
instance : Fld Try.prog 7 1 1 := ⟨fun _ _ => by kernel_rfl⟩
instance : Fld Try.prog 7 2 2 := ⟨fun _ _ => by kernel_rfl⟩
instance : Fld Try.prog 7 3 3 := ⟨fun _ _ => by kernel_rfl⟩
instance : Size Try.prog 7 4 := ⟨fun _ => by kernel_rfl⟩
instance : Zero Try.prog 7 [.int .i64 0, .int .i64 0, .bool false, .int .u8 0] := ⟨fun _ => by kernel_rfl⟩
instance : IsAgg Try.prog 8 := ⟨fun _ => by kernel_rfl⟩
instance : Fld Try.prog 8 0 0 := ⟨fun _ _ => by kernel_rfl⟩
instance : Fld Try.prog 8 1 1 := ⟨fun _ _ => by kernel_rfl⟩
instance : Fld Try.prog 8 2 2 := ⟨fun _ _ => by kernel_rfl⟩
instance : Fld Try.prog 8 3 3 := ⟨fun _ _ => by kernel_rfl⟩
instance : Size Try.prog 8 4 := ⟨fun _ => by kernel_rfl⟩
instance : Zero Try.prog 8 [.int .i64 0, .int .i64 0, .bool false, .int .u8 0] := ⟨fun _ => by kernel_rfl⟩
instance : IsOne Try.prog 9 := ⟨fun _ => by kernel_rfl⟩
instance : IsStr Try.prog 9 := ⟨Try.underlying9⟩
instance : Size Try.prog 9 1 := ⟨fun _ => by kernel_rfl⟩
instance : Zero Try.prog 9 [.string ⟨#[]⟩] := ⟨fun _ => by kernel_rfl⟩
instance : IsOne Try.prog 10 := ⟨fun _ => by kernel_rfl⟩
instance : IsStr Try.prog 10 := ⟨Try.underlying10⟩
instance : Size Try.prog 10 1 := ⟨fun _ => by kernel_rfl⟩
instance : Zero Try.prog 10 [.string ⟨#[]⟩] := ⟨fun _ => by kernel_rfl⟩
instance : IsOne Try.prog 11 := ⟨fun _ => by kernel_rfl⟩
instance : IsStr Try.prog 11 := ⟨Try.underlying11⟩
instance : Size Try.prog 11 1 := ⟨fun _ => by kernel_rfl⟩
instance : Zero Try.prog 11 [.string ⟨#[]⟩] := ⟨fun _ => by kernel_rfl⟩
instance : IsOne Try.prog 12 := ⟨fun _ => by kernel_rfl⟩
instance : Size Try.prog 12 1 := ⟨fun _ => by kernel_rfl⟩
instance : Zero Try.prog 12 [.int .u64 0] := ⟨fun _ => by kernel_rfl⟩
instance : IsAgg Try.prog 13 := ⟨fun _ => by kernel_rfl⟩
instance : Fld Try.prog 13 0 0 := ⟨fun _ _ => by kernel_rfl⟩
instance : Fld Try.prog 13 1 1 := ⟨fun _ _ => by kernel_rfl⟩
instance : Size Try.prog 13 2 := ⟨fun _ => by kernel_rfl⟩
instance : Zero Try.prog 13 [.string ⟨#[]⟩, .int .u64 0] := ⟨fun _ => by kernel_rfl⟩
instance : IsAgg Try.prog 14 := ⟨fun _ => by kernel_rfl⟩
instance : Fld Try.prog 14 0 0 := ⟨fun _ _ => by kernel_rfl⟩
instance : Fld Try.prog 14 1 1 := ⟨fun _ _ => by kernel_rfl⟩
instance : Size Try.prog 14 2 := ⟨fun _ => by kernel_rfl⟩
instance : Zero Try.prog 14 [.string ⟨#[]⟩, .int .u64 0] := ⟨fun _ => by kernel_rfl⟩
instance : IsOne Try.prog 15 := ⟨fun _ => by kernel_rfl⟩
instance : Size Try.prog 15 1 := ⟨fun _ => by kernel_rfl⟩
instance : Zero Try.prog 15 [.pointer none] := ⟨fun _ => by kernel_rfl⟩
instance : IsOne Try.prog 16 := ⟨fun _ => by kernel_rfl⟩
instance : Size Try.prog 16 1 := ⟨fun _ => by kernel_rfl⟩
instance : Zero Try.prog 16 [.pointer none] := ⟨fun _ => by kernel_rfl⟩
instance : IsOne Try.prog 17 := ⟨fun _ => by kernel_rfl⟩
instance : Size Try.prog 17 1 := ⟨fun _ => by kernel_rfl⟩
instance : Zero Try.prog 17 [.pointer none] := ⟨fun _ => by kernel_rfl⟩
instance : IsAgg Try.prog 18 := ⟨fun _ => by kernel_rfl⟩
instance : Fld Try.prog 18 0 0 := ⟨fun _ _ => by kernel_rfl⟩
instance : Size Try.prog 18 1 := ⟨fun _ => by kernel_rfl⟩
instance : Zero Try.prog 18 [.pointer none] := ⟨fun _ => by kernel_rfl⟩
instance : IsAgg Try.prog 19 := ⟨fun _ => by kernel_rfl⟩
instance : Fld Try.prog 19 0 0 := ⟨fun _ _ => by kernel_rfl⟩
instance : Size Try.prog 19 1 := ⟨fun _ => by kernel_rfl⟩
instance : Zero Try.prog 19 [.pointer none] := ⟨fun _ => by kernel_rfl⟩
instance : IsOne Try.prog 20 := ⟨fun _ => by kernel_rfl⟩
instance : Size Try.prog 20 1 := ⟨fun _ => by kernel_rfl⟩
instance : Zero Try.prog 20 [.nilIface] := ⟨fun _ => by kernel_rfl⟩
instance : IsOne Try.prog 21 := ⟨fun _ => by kernel_rfl⟩
instance : Size Try.prog 21 1 := ⟨fun _ => by kernel_rfl⟩
instance : Zero Try.prog 21 [.int .i32 0] := ⟨fun _ => by kernel_rfl⟩
instance : IsOne Try.prog 22 := ⟨fun _ => by kernel_rfl⟩
instance : Size Try.prog 22 1 := ⟨fun _ => by kernel_rfl⟩
instance : Zero Try.prog 22 [.slice none 0 0] := ⟨fun _ => by kernel_rfl⟩
instance : IsOne Try.prog 23 := ⟨fun _ => by kernel_rfl⟩
instance : Size Try.prog 23 1 := ⟨fun _ => by kernel_rfl⟩
instance : Zero Try.prog 23 [.int .i64 0] := ⟨fun _ => by kernel_rfl⟩
instance : IsOne Try.prog 25 := ⟨fun _ => by kernel_rfl⟩
instance : Size Try.prog 25 1 := ⟨fun _ => by kernel_rfl⟩
instance : Zero Try.prog 25 [.nilFunc] := ⟨fun _ => by kernel_rfl⟩
instance : IsOne Try.prog 26 := ⟨fun _ => by kernel_rfl⟩
instance : Size Try.prog 26 1 := ⟨fun _ => by kernel_rfl⟩
instance : Zero Try.prog 26 [.nilFunc] := ⟨fun _ => by kernel_rfl⟩
instance : IsOne Try.prog 27 := ⟨fun _ => by kernel_rfl⟩
instance : Size Try.prog 27 1 := ⟨fun _ => by kernel_rfl⟩
instance : Zero Try.prog 27 [.nilFunc] := ⟨fun _ => by kernel_rfl⟩
instance : IsOne Try.prog 28 := ⟨fun _ => by kernel_rfl⟩
instance : Size Try.prog 28 1 := ⟨fun _ => by kernel_rfl⟩
instance : Zero Try.prog 28 [.nilFunc] := ⟨fun _ => by kernel_rfl⟩
instance : IsOne Try.prog 29 := ⟨fun _ => by kernel_rfl⟩
instance : Size Try.prog 29 1 := ⟨fun _ => by kernel_rfl⟩
instance : Zero Try.prog 29 [.nilFunc] := ⟨fun _ => by kernel_rfl⟩
instance : IsAgg Try.prog 30 := ⟨fun _ => by kernel_rfl⟩
instance : Fld Try.prog 30 0 0 := ⟨fun _ _ => by kernel_rfl⟩
instance : Fld Try.prog 30 1 1 := ⟨fun _ _ => by kernel_rfl⟩
instance : Fld Try.prog 30 2 2 := ⟨fun _ _ => by kernel_rfl⟩
instance : Fld Try.prog 30 3 3 := ⟨fun _ _ => by kernel_rfl⟩
instance : Size Try.prog 30 4 := ⟨fun _ => by kernel_rfl⟩
instance : Zero Try.prog 30 [.int .i64 0, .int .i64 0, .string ⟨#[]⟩, .int .i64 0] := ⟨fun _ => by kernel_rfl⟩
instance : IsAgg Try.prog 31 := ⟨fun _ => by kernel_rfl⟩
instance : Fld Try.prog 31 0 0 := ⟨fun _ _ => by kernel_rfl⟩
instance : Fld Try.prog 31 1 1 := ⟨fun _ _ => by kernel_rfl⟩
instance : Fld Try.prog 31 2 2 := ⟨fun _ _ => by kernel_rfl⟩
instance : Fld Try.prog 31 3 3 := ⟨fun _ _ => by kernel_rfl⟩
instance : Size Try.prog 31 4 := ⟨fun _ => by kernel_rfl⟩
instance : Zero Try.prog 31 [.int .i64 0, .int .i64 0, .string ⟨#[]⟩, .int .i64 0] := ⟨fun _ => by kernel_rfl⟩
instance : IsOne Try.prog 32 := ⟨fun _ => by kernel_rfl⟩
instance : Size Try.prog 32 1 := ⟨fun _ => by kernel_rfl⟩
instance : Zero Try.prog 32 [.nilFunc] := ⟨fun _ => by kernel_rfl⟩
instance : IsOne Try.prog 33 := ⟨fun _ => by kernel_rfl⟩
instance : Size Try.prog 33 1 := ⟨fun _ => by kernel_rfl⟩
instance : Zero Try.prog 33 [.nilFunc] := ⟨fun _ => by kernel_rfl⟩
instance : IsOne Try.prog 34 := ⟨fun _ => by kernel_rfl⟩
instance : Size Try.prog 34 1 := ⟨fun _ => by kernel_rfl⟩
instance : Zero Try.prog 34 [.nilFunc] := ⟨fun _ => by kernel_rfl⟩
instance : IsOne Try.prog 35 := ⟨fun _ => by kernel_rfl⟩
instance : Size Try.prog 35 1 := ⟨fun _ => by kernel_rfl⟩
instance : Zero Try.prog 35 [.nilFunc] := ⟨fun _ => by kernel_rfl⟩
instance : IsOne Try.prog 36 := ⟨fun _ => by kernel_rfl⟩
instance : Size Try.prog 36 1 := ⟨fun _ => by kernel_rfl⟩
instance : Zero Try.prog 36 [.nilFunc] := ⟨fun _ => by kernel_rfl⟩
instance : IsOne Try.prog 38 := ⟨fun _ => by kernel_rfl⟩
instance : Size Try.prog 38 1 := ⟨fun _ => by kernel_rfl⟩
instance : Zero Try.prog 38 [.nilFunc] := ⟨fun _ => by kernel_rfl⟩
instance : IsOne Try.prog 39 := ⟨fun _ => by kernel_rfl⟩
instance : Size Try.prog 39 1 := ⟨fun _ => by kernel_rfl⟩
instance : Zero Try.prog 39 [.nilFunc] := ⟨fun _ => by kernel_rfl⟩
instance : IsOne Try.prog 40 := ⟨fun _ => by kernel_rfl⟩
instance : Size Try.prog 40 1 := ⟨fun _ => by kernel_rfl⟩
instance : Zero Try.prog 40 [.nilFunc] := ⟨fun _ => by kernel_rfl⟩
instance : IsOne Try.prog 41 := ⟨fun _ => by kernel_rfl⟩
instance : Size Try.prog 41 1 := ⟨fun _ => by kernel_rfl⟩
instance : Zero Try.prog 41 [.nilFunc] := ⟨fun _ => by kernel_rfl⟩
instance : IsOne Try.prog 42 := ⟨fun _ => by kernel_rfl⟩
instance : Size Try.prog 42 1 := ⟨fun _ => by kernel_rfl⟩
instance : Zero Try.prog 42 [.nilFunc] := ⟨fun _ => by kernel_rfl⟩
instance : IsOne Try.prog 43 := ⟨fun _ => by kernel_rfl⟩
instance : Size Try.prog 43 1 := ⟨fun _ => by kernel_rfl⟩
instance : Zero Try.prog 43 [.nilFunc] := ⟨fun _ => by kernel_rfl⟩
instance : IsAgg Try.prog 44 := ⟨fun _ => by kernel_rfl⟩
instance : Fld Try.prog 44 0 0 := ⟨fun _ _ => by kernel_rfl⟩
instance : Fld Try.prog 44 1 1 := ⟨fun _ _ => by kernel_rfl⟩
instance : Fld Try.prog 44 2 2 := ⟨fun _ _ => by kernel_rfl⟩
instance : Fld Try.prog 44 3 3 := ⟨fun _ _ => by kernel_rfl⟩
instance : Size Try.prog 44 4 := ⟨fun _ => by kernel_rfl⟩
instance : Zero Try.prog 44 [.pointer none, .pointer none, .pointer none, .string ⟨#[]⟩] := ⟨fun _ => by kernel_rfl⟩
instance : IsAgg Try.prog 45 := ⟨fun _ => by kernel_rfl⟩
instance : Fld Try.prog 45 0 0 := ⟨fun _ _ => by kernel_rfl⟩
instance : Fld Try.prog 45 1 1 := ⟨fun _ _ => by kernel_rfl⟩
instance : Fld Try.prog 45 2 2 := ⟨fun _ _ => by kernel_rfl⟩
instance : Fld Try.prog 45 3 3 := ⟨fun _ _ => by kernel_rfl⟩
instance : Size Try.prog 45 4 := ⟨fun _ => by kernel_rfl⟩
instance : Zero Try.prog 45 [.pointer none, .pointer none, .pointer none, .string ⟨#[]⟩] := ⟨fun _ => by kernel_rfl⟩
instance : IsOne Try.prog 49 := ⟨fun _ => by kernel_rfl⟩
instance : Size Try.prog 49 1 := ⟨fun _ => by kernel_rfl⟩
instance : Zero Try.prog 49 [.nilFunc] := ⟨fun _ => by kernel_rfl⟩
instance : IsOne Try.prog 50 := ⟨fun _ => by kernel_rfl⟩
instance : Size Try.prog 50 1 := ⟨fun _ => by kernel_rfl⟩
instance : Zero Try.prog 50 [.int .u32 0] := ⟨fun _ => by kernel_rfl⟩
instance : IsOne Try.prog 51 := ⟨fun _ => by kernel_rfl⟩
instance : Size Try.prog 51 1 := ⟨fun _ => by kernel_rfl⟩
instance : Zero Try.prog 51 [.int .u8 0] := ⟨fun _ => by kernel_rfl⟩
instance : IsOne Try.prog 52 := ⟨fun _ => by kernel_rfl⟩
instance : Size Try.prog 52 1 := ⟨fun _ => by kernel_rfl⟩
instance : Zero Try.prog 52 [.int .u8 0] := ⟨fun _ => by kernel_rfl⟩
instance : IsOne Try.prog 53 := ⟨fun _ => by kernel_rfl⟩
instance : Size Try.prog 53 1 := ⟨fun _ => by kernel_rfl⟩
instance : Zero Try.prog 53 [.nilFunc] := ⟨fun _ => by kernel_rfl⟩
instance : IsOne Try.prog 54 := ⟨fun _ => by kernel_rfl⟩
instance : Size Try.prog 54 1 := ⟨fun _ => by kernel_rfl⟩
instance : Zero Try.prog 54 [.pointer none] := ⟨fun _ => by kernel_rfl⟩
instance : IsOne Try.prog 55 := ⟨fun _ => by kernel_rfl⟩
instance : Size Try.prog 55 1 := ⟨fun _ => by kernel_rfl⟩
instance : Zero Try.prog 55 [.int .i32 0] := ⟨fun _ => by kernel_rfl⟩
instance : IsOne Try.prog 56 := ⟨fun _ => by kernel_rfl⟩
instance : Size Try.prog 56 1 := ⟨fun _ => by kernel_rfl⟩
instance : Zero Try.prog 56 [.int .i32 0] := ⟨fun _ => by kernel_rfl⟩
instance : IsAgg Try.prog 57 := ⟨fun _ => by kernel_rfl⟩
instance : Fld Try.prog 57 0 0 := ⟨fun _ _ => by kernel_rfl⟩
instance : Fld Try.prog 57 1 1 := ⟨fun _ _ => by kernel_rfl⟩
instance : Fld Try.prog 57 2 2 := ⟨fun _ _ => by kernel_rfl⟩
instance : Fld Try.prog 57 3 3 := ⟨fun _ _ => by kernel_rfl⟩
instance : Fld Try.prog 57 4 4 := ⟨fun _ _ => by kernel_rfl⟩
instance : Fld Try.prog 57 5 5 := ⟨fun _ _ => by kernel_rfl⟩
instance : Fld Try.prog 57 6 6 := ⟨fun _ _ => by kernel_rfl⟩
instance : Fld Try.prog 57 7 7 := ⟨fun _ _ => by kernel_rfl⟩
instance : Fld Try.prog 57 8 8 := ⟨fun _ _ => by kernel_rfl⟩
instance : Fld Try.prog 57 9 9 := ⟨fun _ _ => by kernel_rfl⟩
instance : Fld Try.prog 57 10 10 := ⟨fun _ _ => by kernel_rfl⟩
instance : Size Try.prog 57 11 := ⟨fun _ => by kernel_rfl⟩
instance : Zero Try.prog 57 [.int .u64 0, .int .u64 0, .int .u32 0, .int .u8 0, .int .u8 0, .int .u8 0, .int .u8 0, .nilFunc, .pointer none, .int .i32 0, .int .i32 0] := ⟨fun _ => by kernel_rfl⟩
instance : IsAgg Try.prog 58 := ⟨fun _ => by kernel_rfl⟩
instance : Fld Try.prog 58 0 0 := ⟨fun _ _ => by kernel_rfl⟩
instance : Fld Try.prog 58 1 1 := ⟨fun _ _ => by kernel_rfl⟩
instance : Fld Try.prog 58 2 2 := ⟨fun _ _ => by kernel_rfl⟩
instance : Fld Try.prog 58 3 3 := ⟨fun _ _ => by kernel_rfl⟩
instance : Fld Try.prog 58 4 4 := ⟨fun _ _ => by kernel_rfl⟩
instance : Fld Try.prog 58 5 5 := ⟨fun _ _ => by kernel_rfl⟩
instance : Fld Try.prog 58 6 6 := ⟨fun _ _ => by kernel_rfl⟩
instance : Fld Try.prog 58 7 7 := ⟨fun _ _ => by kernel_rfl⟩
instance : Fld Try.prog 58 8 8 := ⟨fun _ _ => by kernel_rfl⟩
instance : Fld Try.prog 58 9 9 := ⟨fun _ _ => by kernel_rfl⟩
instance : Fld Try.prog 58 10 10 := ⟨fun _ _ => by kernel_rfl⟩
instance : Size Try.prog 58 11 := ⟨fun _ => by kernel_rfl⟩
instance : Zero Try.prog 58 [.int .u64 0, .int .u64 0, .int .u32 0, .int .u8 0, .int .u8 0, .int .u8 0, .int .u8 0, .nilFunc, .pointer none, .int .i32 0, .int .i32 0] := ⟨fun _ => by kernel_rfl⟩
instance : IsOne Try.prog 59 := ⟨fun _ => by kernel_rfl⟩
instance : Size Try.prog 59 1 := ⟨fun _ => by kernel_rfl⟩
instance : Zero Try.prog 59 [.pointer none] := ⟨fun _ => by kernel_rfl⟩
instance elem22 : Elem Try.prog 22 31 4 40 := ⟨Try.underlying22, by kernel_rfl, ⟨.agg #[.int .i64 0, .int .i64 0, .string ⟨#[]⟩, .int .i64 0], by kernel_rfl, rfl⟩, by decide⟩
instance : Mixed Try.prog := ⟨by kernel_rfl⟩
instance (x0 y0 : Int) (x1 y1 : Int) (x2 y2 : ByteArray) (x3 y3 : Int) : AggEq Try.prog 31 [.int .i64 x0, .int .i64 x1, .string x2, .int .i64 x3] [.int .i64 y0, .int .i64 y1, .string y2, .int .i64 y3] (decide (x0 = y0 ∧ x1 = y1 ∧ x2 = y2 ∧ x3 = y3)) := ⟨by kernel_rfl, fun w => by
  simp [go_sem, toList_inj]
  repeat (first | rfl | (split <;> simp_all))⟩
end Go.Proofs
