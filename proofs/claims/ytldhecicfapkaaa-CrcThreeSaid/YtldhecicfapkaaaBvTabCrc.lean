/- Part of the lift: an abstract walk of the program's code, proved sound, and what it shows of this program. -/
import Derived.Test.YtldhecicfapkaaaBvOps
import Derived.Test.YtldhecicfapkaaaChecked
namespace Go.Bv
open Go Go.Proofs
set_option maxRecDepth 100000 in
def crc.tbl : List (Option TI) := [
  (some ⟨.leaf, 0, .other, .undef⟩),
  (some ⟨.leaf, 8, .other, .nilfn⟩),
  (some ⟨.leaf, 8, (.int .i64), (.int .i64 0)⟩),
  (some ⟨.leaf, 8, (.int .i64), (.int .i64 0)⟩),
  (some ⟨.leaf, 1, .bool, (.bool false)⟩),
  (some ⟨.leaf, 1, (.int .u8), (.int .u8 0)⟩),
  (some ⟨.leaf, 1, (.int .u8), (.int .u8 0)⟩),
  (some ⟨(.agg 4), 24, (.struct ((0, .leaf) :: ((1, .leaf) :: ((2, .leaf) :: ((3, .leaf) :: [])))) (some (0 :: (0 :: (2 :: (0 :: [])))))), (.agg ((.int .i64 0) :: ((.int .i64 0) :: ((.bool false) :: ((.int .u8 0) :: [])))))⟩),
  (some ⟨(.agg 4), 24, (.struct ((0, .leaf) :: ((1, .leaf) :: ((2, .leaf) :: ((3, .leaf) :: [])))) (some (0 :: (0 :: (2 :: (0 :: [])))))), (.agg ((.int .i64 0) :: ((.int .i64 0) :: ((.bool false) :: ((.int .u8 0) :: [])))))⟩),
  (some ⟨.leaf, 16, .str, (.str [])⟩),
  (some ⟨.leaf, 16, .str, (.str [])⟩),
  (some ⟨.leaf, 16, .str, (.str [])⟩),
  (some ⟨.leaf, 8, (.int .u64), (.int .u64 0)⟩),
  (some ⟨(.agg 2), 24, (.struct ((0, .leaf) :: ((1, .leaf) :: [])) none), (.agg ((.str []) :: ((.int .u64 0) :: [])))⟩),
  (some ⟨(.agg 2), 24, (.struct ((0, .leaf) :: ((1, .leaf) :: [])) none), (.agg ((.str []) :: ((.int .u64 0) :: [])))⟩),
  (some ⟨.leaf, 8, .other, .undef⟩),
  (some ⟨.leaf, 8, .other, .undef⟩),
  (some ⟨.leaf, 8, .other, .undef⟩),
  (some ⟨(.agg 1), 8, (.struct ((0, .leaf) :: []) none), (.agg (.undef :: []))⟩),
  (some ⟨(.agg 1), 8, (.struct ((0, .leaf) :: []) none), (.agg (.undef :: []))⟩),
  (some ⟨.leaf, 16, .other, .undef⟩),
  (some ⟨.leaf, 4, (.int .i32), (.int .i32 0)⟩),
  (some ⟨.leaf, 24, (.slice 5), .nils⟩),
  (some ⟨.leaf, 8, .other, .nilfn⟩),
  (some ⟨.leaf, 4, (.int .u32), (.int .u32 0)⟩),
  (some ⟨.leaf, 8, .other, .nilfn⟩),
  (some ⟨.leaf, 8, .other, .nilfn⟩),
  (some ⟨.leaf, 8, .other, .nilfn⟩),
  (some ⟨.leaf, 8, .other, .nilfn⟩),
  (some ⟨.leaf, 8, .other, .nilfn⟩),
  (some ⟨.leaf, 8, .other, .nilfn⟩),
  (some ⟨.leaf, 8, .other, .nilfn⟩),
  (some ⟨.leaf, 8, .other, .nilfn⟩),
  (some ⟨.leaf, 8, (.int .u64), (.int .u64 0)⟩),
  (some ⟨.leaf, 8, (.int .u64), (.int .u64 0)⟩),
  (some ⟨.leaf, 8, .other, .nilfn⟩),
  (some ⟨(.agg 4), 40, (.struct ((0, .leaf) :: ((1, .leaf) :: ((2, .leaf) :: ((3, .leaf) :: [])))) none), (.agg (.undef :: (.undef :: (.undef :: ((.str []) :: [])))))⟩),
  (some ⟨(.agg 4), 40, (.struct ((0, .leaf) :: ((1, .leaf) :: ((2, .leaf) :: ((3, .leaf) :: [])))) none), (.agg (.undef :: (.undef :: (.undef :: ((.str []) :: [])))))⟩),
  (some ⟨(.agg 0), 0, (.array 0 16), (.agg [])⟩),
  (some ⟨(.agg 0), 0, (.struct ((0, (.agg 0)) :: []) none), (.agg [])⟩),
  (some ⟨(.agg 0), 0, (.struct ((0, (.agg 0)) :: []) none), (.agg [])⟩),
  (some ⟨.leaf, 8, .other, .nilfn⟩),
  (some ⟨.leaf, 1, (.int .u8), (.int .u8 0)⟩),
  (some ⟨.leaf, 1, (.int .u8), (.int .u8 0)⟩),
  (some ⟨.leaf, 8, .other, .nilfn⟩),
  (some ⟨.leaf, 8, .other, .undef⟩),
  (some ⟨.leaf, 4, (.int .i32), (.int .i32 0)⟩),
  (some ⟨.leaf, 4, (.int .i32), (.int .i32 0)⟩),
  (some ⟨(.agg 11), 48, (.struct ((0, .leaf) :: ((1, .leaf) :: ((2, .leaf) :: ((3, .leaf) :: ((4, .leaf) :: ((5, .leaf) :: ((6, .leaf) :: ((7, .leaf) :: ((8, .leaf) :: ((9, .leaf) :: ((10, .leaf) :: []))))))))))) none), (.agg ((.int .u64 0) :: ((.int .u64 0) :: ((.int .u32 0) :: ((.int .u8 0) :: ((.int .u8 0) :: ((.int .u8 0) :: ((.int .u8 0) :: (.nilfn :: (.undef :: ((.int .i32 0) :: ((.int .i32 0) :: []))))))))))))⟩),
  (some ⟨(.agg 11), 48, (.struct ((0, .leaf) :: ((1, .leaf) :: ((2, .leaf) :: ((3, .leaf) :: ((4, .leaf) :: ((5, .leaf) :: ((6, .leaf) :: ((7, .leaf) :: ((8, .leaf) :: ((9, .leaf) :: ((10, .leaf) :: []))))))))))) none), (.agg ((.int .u64 0) :: ((.int .u64 0) :: ((.int .u32 0) :: ((.int .u8 0) :: ((.int .u8 0) :: ((.int .u8 0) :: ((.int .u8 0) :: (.nilfn :: (.undef :: ((.int .i32 0) :: ((.int .i32 0) :: []))))))))))))⟩),
  (some ⟨.leaf, 8, .other, .undef⟩)]
theorem crc.eq : crc.tbl = (List.range 51).map fun t => tiOf Try.prog t := by kernel_rfl
def crc : Tab Try.prog := ⟨crc.tbl, fun t ti h => by
  rw [crc.eq, List.getElem?_map] at h
  rcases Nat.lt_or_ge t 51 with hlt | hge
  · rw [List.getElem?_range hlt] at h; simpa using h
  · rw [List.getElem?_eq_none (by simpa using hge)] at h; simp at h⟩
end Go.Bv
