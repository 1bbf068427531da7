/- The table of the types of this translation. -/
import Derived.Test.YtflmcnpfeikoeaaGreatDoorK09
import Derived.Test.YtflmcnpfeikoeaaGreatDoorProg
import Derived.KernelRfl
import Derived.Laws.LoneSync
import Derived.Lib.Builder
import Derived.Lib.AppendStr
import Derived.Lib.UnsafeStr
import Derived.Laws.BytesArg
import Derived.LaidEqlPtr
namespace Go.Cel
def tab : List Ty := [
  .none,
  ⟨.fn, 1, 8, [.nilfn]⟩,
  ⟨(.int .i64), 1, 8, [.int .i64 0]⟩,
  ⟨(.int .i64), 1, 8, [.int .i64 0]⟩,
  ⟨.bool, 1, 1, [.bool false]⟩,
  ⟨(.int .u8), 1, 1, [.int .u8 0]⟩,
  ⟨(.int .u8), 1, 1, [.int .u8 0]⟩,
  ⟨(.struct [(0, 2), (1, 3), (2, 4), (3, 6)]), 4, 24, [.int .i64 0, .int .i64 0, .bool false, .int .u8 0]⟩,
  ⟨(.struct [(0, 2), (1, 3), (2, 4), (3, 6)]), 4, 24, [.int .i64 0, .int .i64 0, .bool false, .int .u8 0]⟩,
  ⟨.str, 1, 16, [.str ⟨#[]⟩]⟩,
  ⟨.str, 1, 16, [.str ⟨#[]⟩]⟩,
  ⟨.str, 1, 16, [.str ⟨#[]⟩]⟩,
  ⟨(.int .u64), 1, 8, [.int .u64 0]⟩,
  ⟨(.struct [(0, 9), (1, 12)]), 2, 24, [.str ⟨#[]⟩, .int .u64 0]⟩,
  ⟨(.struct [(0, 9), (1, 12)]), 2, 24, [.str ⟨#[]⟩, .int .u64 0]⟩,
  ⟨(.ptr 282), 1, 8, [.nilp]⟩,
  ⟨(.ptr 285), 1, 8, [.nilp]⟩,
  ⟨(.ptr 292), 1, 8, [.nilp]⟩,
  ⟨(.struct [(0, 17)]), 1, 8, [.nilp]⟩,
  ⟨(.struct [(0, 17)]), 1, 8, [.nilp]⟩,
  .none,
  ⟨(.int .i32), 1, 4, [.int .i32 0]⟩,
  ⟨(.slice 56), 1, 24, [.nilsl]⟩,
  ⟨(.slice 101), 1, 24, [.nilsl]⟩,
  ⟨(.int .u64), 1, 8, [.int .u64 0]⟩,
  ⟨(.struct [(0, 9), (1, 3), (2, 22), (3, 23), (4, 24)]), 5, 80, [.str ⟨#[]⟩, .int .i64 0, .nilsl, .nilsl, .int .u64 0]⟩,
  ⟨(.struct [(0, 9), (1, 3), (2, 22), (3, 23), (4, 24)]), 5, 80, [.str ⟨#[]⟩, .int .i64 0, .nilsl, .nilsl, .int .u64 0]⟩,
  ⟨(.slice 9), 1, 24, [.nilsl]⟩,
  ⟨.fn, 1, 8, [.nilfn]⟩,
  ⟨.fn, 1, 8, [.nilfn]⟩,
  ⟨(.int .i64), 1, 8, [.int .i64 0]⟩,
  .none,
  ⟨.fn, 1, 8, [.nilfn]⟩,
  ⟨.fn, 1, 8, [.nilfn]⟩,
  ⟨.fn, 1, 8, [.nilfn]⟩,
  ⟨(.slice 43), 1, 24, [.nilsl]⟩,
  ⟨(.int .u32), 1, 4, [.int .u32 0]⟩,
  .none,
  ⟨.fn, 1, 8, [.nilfn]⟩,
  ⟨(.struct [(0, 3), (1, 9)]), 2, 24, [.int .i64 0, .str ⟨#[]⟩]⟩,
  ⟨(.struct [(0, 3), (1, 9)]), 2, 24, [.int .i64 0, .str ⟨#[]⟩]⟩,
  ⟨.fn, 1, 8, [.nilfn]⟩,
  ⟨(.struct [(0, 3), (1, 36)]), 2, 16, [.int .i64 0, .int .u32 0]⟩,
  ⟨(.struct [(0, 3), (1, 36)]), 2, 16, [.int .i64 0, .int .u32 0]⟩,
  .none,
  ⟨.fn, 1, 8, [.nilfn]⟩,
  ⟨(.struct [(0, 24), (1, 9), (2, 4), (3, 3)]), 4, 40, [.int .u64 0, .str ⟨#[]⟩, .bool false, .int .i64 0]⟩,
  ⟨(.struct [(0, 24), (1, 9), (2, 4), (3, 3)]), 4, 40, [.int .u64 0, .str ⟨#[]⟩, .bool false, .int .i64 0]⟩,
  .none,
  ⟨.fn, 1, 8, [.nilfn]⟩,
  ⟨.fn, 1, 8, [.nilfn]⟩,
  ⟨.fn, 1, 8, [.nilfn]⟩,
  ⟨.fn, 1, 8, [.nilfn]⟩,
  ⟨.fn, 1, 8, [.nilfn]⟩,
  ⟨(.slice 47), 1, 24, [.nilsl]⟩,
  ⟨(.struct [(0, 9), (1, 54)]), 2, 40, [.str ⟨#[]⟩, .nilsl]⟩,
  ⟨(.struct [(0, 9), (1, 54)]), 2, 40, [.str ⟨#[]⟩, .nilsl]⟩,
  ⟨.fn, 1, 8, [.nilfn]⟩,
  ⟨(.struct [(0, 5), (1, 9), (2, 9), (3, 24), (4, 3), (5, 3), (6, 35)]), 7, 88, [.int .u8 0, .str ⟨#[]⟩, .str ⟨#[]⟩, .int .u64 0, .int .i64 0, .int .i64 0, .nilsl]⟩,
  ⟨(.struct [(0, 5), (1, 9), (2, 9), (3, 24), (4, 3), (5, 3), (6, 35)]), 7, 88, [.int .u8 0, .str ⟨#[]⟩, .str ⟨#[]⟩, .int .u64 0, .int .i64 0, .int .i64 0, .nilsl]⟩,
  ⟨.fn, 1, 8, [.nilfn]⟩,
  ⟨(.struct [(0, 26), (5, 24), (6, 9), (7, 30)]), 8, 112, [.str ⟨#[]⟩, .int .i64 0, .nilsl, .nilsl, .int .u64 0, .int .u64 0, .str ⟨#[]⟩, .int .i64 0]⟩,
  ⟨(.struct [(0, 26), (5, 24), (6, 9), (7, 30)]), 8, 112, [.str ⟨#[]⟩, .int .i64 0, .nilsl, .nilsl, .int .u64 0, .int .u64 0, .str ⟨#[]⟩, .int .i64 0]⟩,
  ⟨.fn, 1, 8, [.nilfn]⟩,
  ⟨.fn, 1, 8, [.nilfn]⟩,
  ⟨.fn, 1, 8, [.nilfn]⟩,
  ⟨(.slice 59), 1, 24, [.nilsl]⟩,
  .none,
  ⟨.fn, 1, 8, [.nilfn]⟩,
  ⟨(.map 24 4), 1, 8, [.nilmap]⟩,
  ⟨.fn, 1, 8, [.nilfn]⟩,
  ⟨(.map 9 9), 1, 8, [.nilmap]⟩,
  .none,
  ⟨.fn, 1, 8, [.nilfn]⟩,
  ⟨.fn, 1, 8, [.nilfn]⟩,
  ⟨(.map 78 47), 1, 8, [.nilmap]⟩,
  ⟨.fn, 1, 8, [.nilfn]⟩,
  ⟨(.struct [(0, 9), (1, 24)]), 2, 24, [.str ⟨#[]⟩, .int .u64 0]⟩,
  ⟨(.struct [(0, 9), (1, 24)]), 2, 24, [.str ⟨#[]⟩, .int .u64 0]⟩,
  ⟨.fn, 1, 8, [.nilfn]⟩,
  ⟨.fn, 1, 8, [.nilfn]⟩,
  ⟨.fn, 1, 8, [.nilfn]⟩,
  ⟨.fn, 1, 8, [.nilfn]⟩,
  ⟨(.ptr 87), 1, 8, [.nilp]⟩,
  ⟨.fn, 1, 8, [.nilfn]⟩,
  ⟨.fn, 1, 8, [.nilfn]⟩,
  ⟨(.struct [(0, 26), (5, 30)]), 6, 88, [.str ⟨#[]⟩, .int .i64 0, .nilsl, .nilsl, .int .u64 0, .int .i64 0]⟩,
  ⟨(.struct [(0, 26), (5, 30)]), 6, 88, [.str ⟨#[]⟩, .int .i64 0, .nilsl, .nilsl, .int .u64 0, .int .i64 0]⟩,
  ⟨.fn, 1, 8, [.nilfn]⟩,
  .none,
  ⟨.fn, 1, 8, [.nilfn]⟩,
  ⟨.fn, 1, 8, [.nilfn]⟩,
  ⟨.fn, 1, 8, [.nilfn]⟩,
  ⟨.fn, 1, 8, [.nilfn]⟩,
  ⟨.fn, 1, 8, [.nilfn]⟩,
  ⟨.fn, 1, 8, [.nilfn]⟩,
  .none,
  ⟨.fn, 1, 8, [.nilfn]⟩,
  ⟨.fn, 1, 8, [.nilfn]⟩,
  ⟨(.slice 40), 1, 24, [.nilsl]⟩,
  ⟨(.struct [(0, 24), (1, 9), (2, 99)]), 3, 48, [.int .u64 0, .str ⟨#[]⟩, .nilsl]⟩,
  ⟨(.struct [(0, 24), (1, 9), (2, 99)]), 3, 48, [.int .u64 0, .str ⟨#[]⟩, .nilsl]⟩,
  .none,
  ⟨.fn, 1, 8, [.nilfn]⟩,
  ⟨.fn, 1, 8, [.nilfn]⟩,
  .none,
  ⟨.fn, 1, 8, [.nilfn]⟩,
  ⟨.fn, 1, 8, [.nilfn]⟩,
  ⟨.fn, 1, 8, [.nilfn]⟩,
  ⟨.fn, 1, 8, [.nilfn]⟩,
  ⟨.fn, 1, 8, [.nilfn]⟩,
  .none,
  ⟨.fn, 1, 8, [.nilfn]⟩,
  ⟨.fn, 1, 8, [.nilfn]⟩,
  ⟨.fn, 1, 8, [.nilfn]⟩,
  ⟨.fn, 1, 8, [.nilfn]⟩,
  ⟨.fn, 1, 8, [.nilfn]⟩,
  ⟨.fn, 1, 8, [.nilfn]⟩,
  ⟨.fn, 1, 8, [.nilfn]⟩,
  ⟨.fn, 1, 8, [.nilfn]⟩,
  .none,
  ⟨.fn, 1, 8, [.nilfn]⟩,
  .none,
  ⟨.fn, 1, 8, [.nilfn]⟩,
  ⟨.fn, 1, 8, [.nilfn]⟩,
  ⟨.fn, 1, 8, [.nilfn]⟩,
  .none,
  ⟨.fn, 1, 8, [.nilfn]⟩,
  ⟨.fn, 1, 8, [.nilfn]⟩,
  .none,
  ⟨.fn, 1, 8, [.nilfn]⟩,
  ⟨.fn, 1, 8, [.nilfn]⟩,
  ⟨.fn, 1, 8, [.nilfn]⟩,
  ⟨.fn, 1, 8, [.nilfn]⟩,
  ⟨.fn, 1, 8, [.nilfn]⟩,
  ⟨.fn, 1, 8, [.nilfn]⟩,
  ⟨.fn, 1, 8, [.nilfn]⟩,
  ⟨.fn, 1, 8, [.nilfn]⟩,
  ⟨.fn, 1, 8, [.nilfn]⟩,
  ⟨.fn, 1, 8, [.nilfn]⟩,
  ⟨.fn, 1, 8, [.nilfn]⟩,
  ⟨.fn, 1, 8, [.nilfn]⟩,
  ⟨.fn, 1, 8, [.nilfn]⟩,
  ⟨.fn, 1, 8, [.nilfn]⟩,
  ⟨.fn, 1, 8, [.nilfn]⟩,
  .none,
  ⟨.fn, 1, 8, [.nilfn]⟩,
  ⟨.fn, 1, 8, [.nilfn]⟩,
  .none,
  ⟨.fn, 1, 8, [.nilfn]⟩,
  ⟨.fn, 1, 8, [.nilfn]⟩,
  ⟨.fn, 1, 8, [.nilfn]⟩,
  ⟨.fn, 1, 8, [.nilfn]⟩,
  ⟨(.struct [(0, 24), (1, 9), (2, 99)]), 3, 48, [.int .u64 0, .str ⟨#[]⟩, .nilsl]⟩,
  ⟨.fn, 1, 8, [.nilfn]⟩,
  ⟨.fn, 1, 8, [.nilfn]⟩,
  ⟨(.ptr 159), 1, 8, [.nilp]⟩,
  ⟨(.slice 5), 1, 24, [.nilsl]⟩,
  ⟨(.struct [(0, 156), (1, 157)]), 2, 32, [.nilp, .nilsl]⟩,
  ⟨(.struct [(0, 156), (1, 157)]), 2, 32, [.nilp, .nilsl]⟩,
  ⟨(.slice 36), 1, 24, [.nilsl]⟩,
  ⟨.fn, 1, 8, [.nilfn]⟩,
  .none,
  .none,
  .none,
  ⟨.fn, 1, 8, [.nilfn]⟩,
  ⟨.fn, 1, 8, [.nilfn]⟩,
  .none,
  ⟨.fn, 1, 8, [.nilfn]⟩,
  ⟨.fn, 1, 8, [.nilfn]⟩,
  ⟨.fn, 1, 8, [.nilfn]⟩,
  ⟨.fn, 1, 8, [.nilfn]⟩,
  ⟨.fn, 1, 8, [.nilfn]⟩,
  ⟨.fn, 1, 8, [.nilfn]⟩,
  ⟨.fn, 1, 8, [.nilfn]⟩,
  ⟨(.slice 47), 1, 24, [.nilsl]⟩,
  ⟨(.map 3 173), 1, 8, [.nilmap]⟩,
  .none,
  ⟨.fn, 1, 8, [.nilfn]⟩,
  .none,
  ⟨.fn, 1, 8, [.nilfn]⟩,
  .none,
  ⟨.fn, 1, 8, [.nilfn]⟩,
  ⟨.fn, 1, 8, [.nilfn]⟩,
  ⟨.fn, 1, 8, [.nilfn]⟩,
  ⟨.fn, 1, 8, [.nilfn]⟩,
  .none,
  ⟨.fn, 1, 8, [.nilfn]⟩,
  .none,
  ⟨.fn, 1, 8, [.nilfn]⟩,
  ⟨.fn, 1, 8, [.nilfn]⟩,
  .none,
  ⟨.fn, 1, 8, [.nilfn]⟩,
  .none,
  ⟨.fn, 1, 8, [.nilfn]⟩,
  ⟨.fn, 1, 8, [.nilfn]⟩,
  ⟨(.struct [(0, 3), (1, 3), (2, 195)]), 3, 24, [.int .i64 0, .int .i64 0, .nilfn]⟩,
  ⟨(.struct [(0, 3), (1, 3), (2, 195)]), 3, 24, [.int .i64 0, .int .i64 0, .nilfn]⟩,
  .none,
  ⟨.fn, 1, 8, [.nilfn]⟩,
  ⟨.fn, 1, 8, [.nilfn]⟩,
  ⟨.fn, 1, 8, [.nilfn]⟩,
  ⟨.fn, 1, 8, [.nilfn]⟩,
  .none,
  ⟨.fn, 1, 8, [.nilfn]⟩,
  ⟨.fn, 1, 8, [.nilfn]⟩,
  ⟨(.int .u64), 1, 8, [.int .u64 0]⟩,
  ⟨.fn, 1, 8, [.nilfn]⟩,
  ⟨.fn, 1, 8, [.nilfn]⟩,
  ⟨.fn, 1, 8, [.nilfn]⟩,
  ⟨.fn, 1, 8, [.nilfn]⟩,
  ⟨.fn, 1, 8, [.nilfn]⟩,
  ⟨.fn, 1, 8, [.nilfn]⟩,
  ⟨(.ptr 5), 1, 8, [.nilp]⟩,
  ⟨.fn, 1, 8, [.nilfn]⟩,
  ⟨.fn, 1, 8, [.nilfn]⟩,
  ⟨.fn, 1, 8, [.nilfn]⟩,
  ⟨.fn, 1, 8, [.nilfn]⟩,
  ⟨.fn, 1, 8, [.nilfn]⟩,
  ⟨.fn, 1, 8, [.nilfn]⟩,
  .none,
  ⟨.fn, 1, 8, [.nilfn]⟩,
  ⟨.fn, 1, 8, [.nilfn]⟩,
  ⟨.fn, 1, 8, [.nilfn]⟩,
  ⟨.fn, 1, 8, [.nilfn]⟩,
  .none,
  .none,
  .none,
  .none,
  .none,
  ⟨(.struct [(0, 21), (1, 36)]), 2, 8, [.int .i32 0, .int .u32 0]⟩,
  ⟨(.struct [(0, 21), (1, 36)]), 2, 8, [.int .i32 0, .int .u32 0]⟩,
  .none,
  .none,
  .none,
  .none,
  ⟨(.arr 256 36), 256, 1024, [.int .u32 0, .int .u32 0, .int .u32 0, .int .u32 0, .int .u32 0, .int .u32 0, .int .u32 0, .int .u32 0, .int .u32 0, .int .u32 0, .int .u32 0, .int .u32 0, .int .u32 0, .int .u32 0, .int .u32 0, .int .u32 0, .int .u32 0, .int .u32 0, .int .u32 0, .int .u32 0, .int .u32 0, .int .u32 0, .int .u32 0, .int .u32 0, .int .u32 0, .int .u32 0, .int .u32 0, .int .u32 0, .int .u32 0, .int .u32 0, .int .u32 0, .int .u32 0, .int .u32 0, .int .u32 0, .int .u32 0, .int .u32 0, .int .u32 0, .int .u32 0, .int .u32 0, .int .u32 0, .int .u32 0, .int .u32 0, .int .u32 0, .int .u32 0, .int .u32 0, .int .u32 0, .int .u32 0, .int .u32 0, .int .u32 0, .int .u32 0, .int .u32 0, .int .u32 0, .int .u32 0, .int .u32 0, .int .u32 0, .int .u32 0, .int .u32 0, .int .u32 0, .int .u32 0, .int .u32 0, .int .u32 0, .int .u32 0, .int .u32 0, .int .u32 0, .int .u32 0, .int .u32 0, .int .u32 0, .int .u32 0, .int .u32 0, .int .u32 0, .int .u32 0, .int .u32 0, .int .u32 0, .int .u32 0, .int .u32 0, .int .u32 0, .int .u32 0, .int .u32 0, .int .u32 0, .int .u32 0, .int .u32 0, .int .u32 0, .int .u32 0, .int .u32 0, .int .u32 0, .int .u32 0, .int .u32 0, .int .u32 0, .int .u32 0, .int .u32 0, .int .u32 0, .int .u32 0, .int .u32 0, .int .u32 0, .int .u32 0, .int .u32 0, .int .u32 0, .int .u32 0, .int .u32 0, .int .u32 0, .int .u32 0, .int .u32 0, .int .u32 0, .int .u32 0, .int .u32 0, .int .u32 0, .int .u32 0, .int .u32 0, .int .u32 0, .int .u32 0, .int .u32 0, .int .u32 0, .int .u32 0, .int .u32 0, .int .u32 0, .int .u32 0, .int .u32 0, .int .u32 0, .int .u32 0, .int .u32 0, .int .u32 0, .int .u32 0, .int .u32 0, .int .u32 0, .int .u32 0, .int .u32 0, .int .u32 0, .int .u32 0, .int .u32 0, .int .u32 0, .int .u32 0, .int .u32 0, .int .u32 0, .int .u32 0, .int .u32 0, .int .u32 0, .int .u32 0, .int .u32 0, .int .u32 0, .int .u32 0, .int .u32 0, .int .u32 0, .int .u32 0, .int .u32 0, .int .u32 0, .int .u32 0, .int .u32 0, .int .u32 0, .int .u32 0, .int .u32 0, .int .u32 0, .int .u32 0, .int .u32 0, .int .u32 0, .int .u32 0, .int .u32 0, .int .u32 0, .int .u32 0, .int .u32 0, .int .u32 0, .int .u32 0, .int .u32 0, .int .u32 0, .int .u32 0, .int .u32 0, .int .u32 0, .int .u32 0, .int .u32 0, .int .u32 0, .int .u32 0, .int .u32 0, .int .u32 0, .int .u32 0, .int .u32 0, .int .u32 0, .int .u32 0, .int .u32 0, .int .u32 0, .int .u32 0, .int .u32 0, .int .u32 0, .int .u32 0, .int .u32 0, .int .u32 0, .int .u32 0, .int .u32 0, .int .u32 0, .int .u32 0, .int .u32 0, .int .u32 0, .int .u32 0, .int .u32 0, .int .u32 0, .int .u32 0, .int .u32 0, .int .u32 0, .int .u32 0, .int .u32 0, .int .u32 0, .int .u32 0, .int .u32 0, .int .u32 0, .int .u32 0, .int .u32 0, .int .u32 0, .int .u32 0, .int .u32 0, .int .u32 0, .int .u32 0, .int .u32 0, .int .u32 0, .int .u32 0, .int .u32 0, .int .u32 0, .int .u32 0, .int .u32 0, .int .u32 0, .int .u32 0, .int .u32 0, .int .u32 0, .int .u32 0, .int .u32 0, .int .u32 0, .int .u32 0, .int .u32 0, .int .u32 0, .int .u32 0, .int .u32 0, .int .u32 0, .int .u32 0, .int .u32 0, .int .u32 0, .int .u32 0, .int .u32 0, .int .u32 0, .int .u32 0, .int .u32 0, .int .u32 0, .int .u32 0, .int .u32 0, .int .u32 0, .int .u32 0, .int .u32 0, .int .u32 0, .int .u32 0, .int .u32 0, .int .u32 0, .int .u32 0, .int .u32 0, .int .u32 0, .int .u32 0, .int .u32 0, .int .u32 0, .int .u32 0, .int .u32 0, .int .u32 0]⟩,
  .none,
  .none,
  ⟨(.ptr 236), 1, 8, [.nilp]⟩,
  ⟨.fn, 1, 8, [.nilfn]⟩,
  ⟨.fn, 1, 8, [.nilfn]⟩,
  .none,
  ⟨.fn, 1, 8, [.nilfn]⟩,
  ⟨(.arr 8 5), 8, 8, [.int .u8 0, .int .u8 0, .int .u8 0, .int .u8 0, .int .u8 0, .int .u8 0, .int .u8 0, .int .u8 0]⟩,
  ⟨.fn, 1, 8, [.nilfn]⟩,
  ⟨.fn, 1, 8, [.nilfn]⟩,
  ⟨(.ptr 238), 1, 8, [.nilp]⟩,
  ⟨.fn, 1, 8, [.nilfn]⟩,
  ⟨.fn, 1, 8, [.nilfn]⟩,
  ⟨(.ptr 235), 1, 8, [.nilp]⟩,
  ⟨(.arr 24 5), 24, 24, [.int .u8 0, .int .u8 0, .int .u8 0, .int .u8 0, .int .u8 0, .int .u8 0, .int .u8 0, .int .u8 0, .int .u8 0, .int .u8 0, .int .u8 0, .int .u8 0, .int .u8 0, .int .u8 0, .int .u8 0, .int .u8 0, .int .u8 0, .int .u8 0, .int .u8 0, .int .u8 0, .int .u8 0, .int .u8 0, .int .u8 0, .int .u8 0]⟩,
  ⟨.fn, 1, 8, [.nilfn]⟩,
  .none,
  ⟨.fn, 1, 8, [.nilfn]⟩,
  ⟨.fn, 1, 8, [.nilfn]⟩,
  ⟨(.ptr 229), 1, 8, [.nilp]⟩,
  ⟨.fn, 1, 8, [.nilfn]⟩,
  ⟨(.ptr 36), 1, 8, [.nilp]⟩,
  ⟨.fn, 1, 8, [.nilfn]⟩,
  ⟨.fn, 1, 8, [.nilfn]⟩,
  ⟨.fn, 1, 8, [.nilfn]⟩,
  ⟨(.arr 20 24), 20, 160, [.int .u64 0, .int .u64 0, .int .u64 0, .int .u64 0, .int .u64 0, .int .u64 0, .int .u64 0, .int .u64 0, .int .u64 0, .int .u64 0, .int .u64 0, .int .u64 0, .int .u64 0, .int .u64 0, .int .u64 0, .int .u64 0, .int .u64 0, .int .u64 0, .int .u64 0, .int .u64 0]⟩,
  ⟨(.arr 65 5), 65, 65, [.int .u8 0, .int .u8 0, .int .u8 0, .int .u8 0, .int .u8 0, .int .u8 0, .int .u8 0, .int .u8 0, .int .u8 0, .int .u8 0, .int .u8 0, .int .u8 0, .int .u8 0, .int .u8 0, .int .u8 0, .int .u8 0, .int .u8 0, .int .u8 0, .int .u8 0, .int .u8 0, .int .u8 0, .int .u8 0, .int .u8 0, .int .u8 0, .int .u8 0, .int .u8 0, .int .u8 0, .int .u8 0, .int .u8 0, .int .u8 0, .int .u8 0, .int .u8 0, .int .u8 0, .int .u8 0, .int .u8 0, .int .u8 0, .int .u8 0, .int .u8 0, .int .u8 0, .int .u8 0, .int .u8 0, .int .u8 0, .int .u8 0, .int .u8 0, .int .u8 0, .int .u8 0, .int .u8 0, .int .u8 0, .int .u8 0, .int .u8 0, .int .u8 0, .int .u8 0, .int .u8 0, .int .u8 0, .int .u8 0, .int .u8 0, .int .u8 0, .int .u8 0, .int .u8 0, .int .u8 0, .int .u8 0, .int .u8 0, .int .u8 0, .int .u8 0, .int .u8 0]⟩,
  ⟨.fn, 1, 8, [.nilfn]⟩,
  ⟨.fn, 1, 8, [.nilfn]⟩,
  ⟨(.ptr 233), 1, 8, [.nilp]⟩,
  ⟨.fn, 1, 8, [.nilfn]⟩,
  ⟨.fn, 1, 8, [.nilfn]⟩,
  ⟨.fn, 1, 8, [.nilfn]⟩,
  ⟨(.ptr 231), 1, 8, [.nilp]⟩,
  ⟨.fn, 1, 8, [.nilfn]⟩,
  ⟨(.ptr 21), 1, 8, [.nilp]⟩,
  ⟨.fn, 1, 8, [.nilfn]⟩,
  ⟨.fn, 1, 8, [.nilfn]⟩,
  ⟨.fn, 1, 8, [.nilfn]⟩,
  ⟨(.arr 32 5), 32, 32, [.int .u8 0, .int .u8 0, .int .u8 0, .int .u8 0, .int .u8 0, .int .u8 0, .int .u8 0, .int .u8 0, .int .u8 0, .int .u8 0, .int .u8 0, .int .u8 0, .int .u8 0, .int .u8 0, .int .u8 0, .int .u8 0, .int .u8 0, .int .u8 0, .int .u8 0, .int .u8 0, .int .u8 0, .int .u8 0, .int .u8 0, .int .u8 0, .int .u8 0, .int .u8 0, .int .u8 0, .int .u8 0, .int .u8 0, .int .u8 0, .int .u8 0, .int .u8 0]⟩,
  ⟨(.arr 64 5), 64, 64, [.int .u8 0, .int .u8 0, .int .u8 0, .int .u8 0, .int .u8 0, .int .u8 0, .int .u8 0, .int .u8 0, .int .u8 0, .int .u8 0, .int .u8 0, .int .u8 0, .int .u8 0, .int .u8 0, .int .u8 0, .int .u8 0, .int .u8 0, .int .u8 0, .int .u8 0, .int .u8 0, .int .u8 0, .int .u8 0, .int .u8 0, .int .u8 0, .int .u8 0, .int .u8 0, .int .u8 0, .int .u8 0, .int .u8 0, .int .u8 0, .int .u8 0, .int .u8 0, .int .u8 0, .int .u8 0, .int .u8 0, .int .u8 0, .int .u8 0, .int .u8 0, .int .u8 0, .int .u8 0, .int .u8 0, .int .u8 0, .int .u8 0, .int .u8 0, .int .u8 0, .int .u8 0, .int .u8 0, .int .u8 0, .int .u8 0, .int .u8 0, .int .u8 0, .int .u8 0, .int .u8 0, .int .u8 0, .int .u8 0, .int .u8 0, .int .u8 0, .int .u8 0, .int .u8 0, .int .u8 0, .int .u8 0, .int .u8 0, .int .u8 0, .int .u8 0]⟩,
  ⟨.fn, 1, 8, [.nilfn]⟩,
  ⟨.fn, 1, 8, [.nilfn]⟩,
  ⟨.fn, 1, 8, [.nilfn]⟩,
  ⟨(.struct [(0, 17), (1, 17), (2, 17), (3, 9)]), 4, 40, [.nilp, .nilp, .nilp, .str ⟨#[]⟩]⟩,
  ⟨(.struct [(0, 17), (1, 17), (2, 17), (3, 9)]), 4, 40, [.nilp, .nilp, .nilp, .str ⟨#[]⟩]⟩,
  ⟨(.arr 0 16), 0, 0, []⟩,
  .none,
  .none,
  ⟨(.int .u8), 1, 1, [.int .u8 0]⟩,
  ⟨(.int .u8), 1, 1, [.int .u8 0]⟩,
  ⟨.fn, 1, 8, [.nilfn]⟩,
  ⟨(.int .i32), 1, 4, [.int .i32 0]⟩,
  ⟨(.int .i32), 1, 4, [.int .i32 0]⟩,
  ⟨(.struct [(0, 12), (1, 12), (2, 36), (3, 286), (4, 5), (5, 5), (6, 287), (7, 288), (8, 213), (9, 289), (10, 290)]), 11, 48, [.int .u64 0, .int .u64 0, .int .u32 0, .int .u8 0, .int .u8 0, .int .u8 0, .int .u8 0, .nilfn, .nilp, .int .i32 0, .int .i32 0]⟩,
  ⟨(.struct [(0, 12), (1, 12), (2, 36), (3, 286), (4, 5), (5, 5), (6, 287), (7, 288), (8, 213), (9, 289), (10, 290)]), 11, 48, [.int .u64 0, .int .u64 0, .int .u32 0, .int .u8 0, .int .u8 0, .int .u8 0, .int .u8 0, .nilfn, .nilp, .int .i32 0, .int .i32 0]⟩]
def T (t : Nat) : Ty := tab.getD t .none
theorem tab_is : tabIs Go.Proofs.Tryz.prog 0 tab = true := by kernel_rfl
theorem hT : TabOK Go.Proofs.Tryz.prog T := tabOK_of tab_is
end Go.Cel

set_option linter.unusedVariables false
set_option linter.unusedSimpArgs false
namespace Go.Cel
variable {P : Program} {T : Nat → Ty} {X : CtxD} {ρ : Rho} {M : Imm} {r s s' : St} {a : Act} {W : World} {p : Path} {o : Oper} {v : A}

def fieldOff (P : Program) (t f : Nat) : Option Nat :=
  match P.underlying t with
  | some (.struct fields) => match fields[f]? with
    | some fd => match P.info? fd.type with
      | some i => bif Nat.beq i.size 0 then none else some fd.offset
      | none => none
    | none => none
  | _ => none
theorem run_fieldOff {t f off : Nat} (h : fieldOff P t f = some off) (ad : Addr) : (Instr.fieldAt t (.pointer (some ad)) f).run P W = .ok (.pointer (some (ad.add off))) W := by
  unfold fieldOff at h
  split at h
  · rename_i fields hu
    split at h
    · rename_i fd hfd
      split at h
      · rename_i i hi
        cases hz : Nat.beq i.size 0 with
        | true => rw [hz] at h; cases h
        | false =>
          rw [hz] at h
          simp at h; subst h
          have hne : i.size ≠ 0 := fun e => by rw [e] at hz; cases hz
          have hsz : (sizeOf fd.type).run P W = .ok i.size W := by simp [sizeOf, typeInfo, hi]
          unfold Instr.fieldAt
          simp only [Sem.run_bind, run_underlying hu, Result.andThen_ok]
          rw [hfd]
          simp only [Sem.run_bind, Instr.sureAddr, Sem.run_pure, Result.andThen_ok, fieldPlace, hsz, hne, if_false]
      · cases h
    · cases h
  · cases h

theorem yl_fieldAddrN {t f id o' off n : Nat} {x : Operand} (ho : o.op = .fieldAddr t x f) (hx : ev r p x = some (.b (.l (.ptr id o')))) (hf : fieldOff P t f = some off) (hn : n = o' + off) (hp : pin r p = true) : Yl P o r p (.b (.l (.ptr id n))) := by
  refine .of hp fun X ρ M a W g hh => ?_
  subst hn
  obtain ⟨gb, h1, h2⟩ := ev_den hx g hh
  exact ⟨.pointer (some ⟨gb, o' + off, none⟩), by simp [execOp, ho, h2, run_fieldOff hf, Addr.add_lit], gb, h1, rfl⟩
theorem yl_fieldAddrNe {t f off : Nat} {x : Operand} {cs cs' : List D} (ho : o.op = .fieldAddr t x f) (hx : ev r p x = some (dl (.eptr cs))) (hf : fieldOff P t f = some off) (hn : cs.drop off = cs') (hp : pin r p = true) : Yl P o r p (dl (.eptr cs')) := by
  refine .of hp fun X ρ M a W g hh => ?_
  subst hn
  have hd := den_inv (ev_den hx g hh)
  generalize hxe : a.eval x = xv at hd
  cases hd with
  | eptr _ ad f2 hcell hden =>
    refine ⟨.pointer (some (ad.add off)), by simp [execOp, ho, hxe, run_fieldOff hf], ?_⟩
    refine DenD.eptr _ _ (fun j => f2 (off + j)) (fun j x hj => ?_) fun j x hj => ?_
    · rw [Addr.add_add]; exact hcell _ x (by simpa using hj)
    · exact hden _ x (by simpa using hj)

def zeroNow (P : Program) (t : Nat) (zs : List D) : Bool :=
  match P.info? t with
  | some i => match i.zero with
    | some z => zeroIs zs z.cells.toList
    | none => false
  | none => false
theorem tl_allocN {t d n : Nat} {zs : List D} (ho : o.op = .alloc t) (hd : o.dst = some d) (hz : Nat.blt d r.sz = true) (hk : zeroNow P t zs = true) : Tl P o (recNew r d (.ptr n 0) n (.cells (zs.map L.d) t) []) := by
  refine tl_new hd hz fun X ρ M s a W g _ _ => ?_
  unfold zeroNow at hk
  split at hk
  · rename_i i hi
    split at hk
    · rename_i zv hzv
      refine ⟨.pointer (some ⟨W.heap.size, 0, none⟩), { W with heap := W.heap.push (.cells zv.cells t) }, ?_, rfl, rfl, rfl, by simp, fun j hj _ => ?_, .pointer (some ⟨W.heap.size, 0, none⟩), fun k hk => .inl (by simp [gOf] at hk; omega), fun ρ' _ hn => ⟨⟨W.heap.size, zv.cells.toList, hn, by simp, All2_d (zeroIs_den hk)⟩, ⟨_, hn, rfl⟩⟩⟩
      · simp [execOp, ho, Instr.alloc, zeroValue, typeInfo, hi, hzv, newVar, newRow]
      · simp only []
        rw [Array.getElem?_push, if_neg (Nat.ne_of_lt hj)]
    · cases hk
  · cases hk

/-- A cell of one's own. -/
theorem own_cell (g : Gam P X ρ M s a W) {id off : Nat} {cs : List L} {bt : TypeId} {x : L} (hl : look id s.own = some (.cells cs bt)) {u : Value} (hu : DenL P ρ M (.ptr id off) u) (hx : cs[off]? = some x) :
    ∃ gb vs w, ρ id = some (.pointer (some ⟨gb, 0, none⟩)) ∧ u = .pointer (some ⟨gb, off, none⟩) ∧ W.heap[gb]? = some (.cells (List.toArray vs) bt (0, 0)) ∧ All2 (DenL P ρ M) cs vs ∧ vs[off]? = some w ∧ DenL P ρ M x w ∧ W.cell? ⟨gb, off, none⟩ = some w ∧ W.frozen? ⟨gb, off, none⟩ = false := by
  obtain ⟨gb, h1, h2⟩ := hu
  obtain ⟨gb', vs, h3, hh, hall⟩ := own_cells g hl
  rw [h1] at h3; simp at h3; subst h3
  obtain ⟨w, h4, h5⟩ := All2.get hall hx
  exact ⟨gb, vs, w, h1, h2, hh, hall, h4, h5, by simp [World.cell?, hh, h4], by simp [World.frozen?, hh]⟩

theorem All2.set {α β : Type} {R : α → β → Prop} {x : α} {y : β} (h : R x y) : ∀ {l : List α} {m : List β} (i : Nat), All2 R l m → All2 R (l.set i x) (m.set i y)
  | [], [], _, _ => by simp [All2]
  | _ :: _, _ :: _, 0, h' => ⟨h, h'.2⟩
  | _ :: _, _ :: _, i + 1, h' => ⟨h'.1, All2.set h i h'.2⟩
  | [], _ :: _, _, h' => h'.elim
  | _ :: _, [], _, h' => h'.elim

/-- A cell of one's own, turned by a function of the machine's. -/
theorem tl_cellSet {id off : Nat} {x : Operand} {cs : List L} {bt : TypeId} {x0 : L} {y : D} {v : A} (hz : (match o.dst with | some d => Nat.blt d r.sz | none => true) = true) (hx : ev r [] x = some (.b (.l (.ptr id off)))) (hl : look id r.own = some (.cells cs bt)) (hc : cs[off]? = some x0)
    (h : ∀ (X : CtxD) (ρ : Rho) (M : Imm) (a : Act) (W : World) (gb : Nat) (w : Value), Gam P X ρ M r a W → a.eval x = .pointer (some ⟨gb, off, none⟩) → W.cell? ⟨gb, off, none⟩ = some w → W.frozen? ⟨gb, off, none⟩ = false → DenL P ρ M x0 w → ∃ u z, (execOp a.eval o).run P W = .ok (.value z) (W.setCell ⟨gb, off, none⟩ u) ∧ DenD P M y u ∧ DenA P ρ M v z) :
    Tl P o (recTurnV r o.dst v id (.cells (cs.set off (.d y)) bt)) := by
  refine tl_turnV hz hl fun X ρ M a W g => ?_
  obtain ⟨gb, vs, w, h1, h2, hh, hall, h4, h5, h6, h7⟩ := own_cell g hl (ev_den hx g (holds_nil _)) hc
  obtain ⟨u, z, h8, h9, h10⟩ := h X ρ M a W gb w g h2 h6 h7 h5
  have hset := setCell_eq_setRow W gb off vs.toArray bt (0, 0) u hh
  rw [hset] at h8
  refine ⟨z, _, h8, h10, .inr ⟨_, gb, h1, rfl, rfl, rfl, rfl, by simp [World.setRow], fun j hj => setRow_other W gb j _ hj, gb, vs.set off u, h1, ?_, All2.set (R := DenL P ρ M) (x := .d y) h9 off hall⟩⟩
  rw [setRow_heap W gb _ _ _ _ hh]
  simp

variable {f : FuncId} {fn : Func} {args : Array Operand} {ts : Array TypeId}
theorem ext_call (ho : o.op = .call { callee := .value (.func f), args := args, argTypes := ts }) : (execOp a.eval o).run P W = (callFunc f (args.map a.eval)).run P W := by
  simp [execOp, ho, resolve, Act.eval, Deferred.ofValue, invoke]

theorem yl_atomicLoad {id off : Nat} {k : IntKind} {x : Operand} {cs : List L} {bt : TypeId} {z : Int} (ho : o.op = .call { callee := .value (.func f), args := args, argTypes := ts }) (hargs : args = #[x]) (hf : P.funcs[f]? = some fn) (hname : (fn.name == "runtime.NumGoroutine") = false) (hb : fn.body.isNone = true) (hn : Extern.findNext fn = none)
    (he : Extern.find fn = some (Extern.Atomic.loadT (.int k))) (hx : ev r p x = some (.b (.l (.ptr id off)))) (hl : look id r.own = some (.cells cs bt)) (hc : cs[off]? = some (.d (.int k z))) (hp : pin r p = true) : Yl P o r p (dl (.int k z)) := by
  refine .of hp fun X ρ M a W g hh => ?_
  subst hargs
  obtain ⟨gb, vs, w, h1, h2, _, hall, h4, h5, h6, h7⟩ := own_cell g hl (ev_den hx g hh) hc
  have hw : w = .int k z := den_int (ρ := ρ) h5
  subst hw
  refine ⟨.int k z, ?_, .int _ _⟩
  rw [ext_call ho]
  simp only [List.map_toArray, List.map_cons, List.map_nil, h2]
  exact run_call_load hf hname hb hn k he h6

theorem tl_atomicStore {id off : Nat} {k : IntKind} {x y : Operand} {cs : List L} {bt : TypeId} {x0 : L} {z : Int} (ho : o.op = .call { callee := .value (.func f), args := args, argTypes := ts }) (hargs : args = #[x, y]) (hf : P.funcs[f]? = some fn) (hname : (fn.name == "runtime.NumGoroutine") = false) (hb : fn.body.isNone = true) (hn : Extern.findNext fn = none)
    (he : Extern.find fn = some Extern.Atomic.storeT) (hz : (match o.dst with | some d => Nat.blt d r.sz | none => true) = true) (hx : ev r [] x = some (.b (.l (.ptr id off)))) (hl : look id r.own = some (.cells cs bt)) (hc : cs[off]? = some x0) (hy : ev r [] y = some (dl (.int k z))) : Tl P o (recTurnV r o.dst (.tup []) id (.cells (cs.set off (.d (.int k z))) bt)) := by
  subst hargs
  refine tl_cellSet hz hx hl hc fun X ρ M a W gb w g hxe hcell hfro _ => ?_
  have hye := den_int (ev_den hy g (holds_nil _))
  refine ⟨.int k z, .tuple #[], ?_, .int _ _, [], rfl, trivial⟩
  rw [ext_call ho]
  simp only [List.map_toArray, List.map_cons, List.map_nil, hxe, hye]
  exact run_call_store hf hname hb hn he hcell hfro

theorem tl_atomicCas {id off : Nat} {k : IntKind} {x y w : Operand} {cs : List L} {bt : TypeId} {z z2 : Int} (ho : o.op = .call { callee := .value (.func f), args := args, argTypes := ts }) (hargs : args = #[x, y, w]) (hf : P.funcs[f]? = some fn) (hname : (fn.name == "runtime.NumGoroutine") = false) (hb : fn.body.isNone = true) (hn : Extern.findNext fn = none)
    (he : Extern.find fn = some (Extern.Atomic.casT (.int k))) (hz : (match o.dst with | some d => Nat.blt d r.sz | none => true) = true) (hx : ev r [] x = some (.b (.l (.ptr id off)))) (hl : look id r.own = some (.cells cs bt)) (hc : cs[off]? = some (.d (.int k z))) (hy : ev r [] y = some (dl (.int k z))) (hw : ev r [] w = some (dl (.int k z2))) :
    Tl P o (recTurnV r o.dst (dl (.bool true)) id (.cells (cs.set off (.d (.int k z2))) bt)) := by
  subst hargs
  refine tl_cellSet hz hx hl hc fun X ρ M a W gb u g hxe hcell hfro hd => ?_
  have hu : u = .int k z := den_int (ρ := ρ) hd
  subst hu
  have hye := den_int (ev_den hy g (holds_nil _))
  have hwe := den_int (ev_den hw g (holds_nil _))
  refine ⟨.int k z2, .bool true, ?_, .int _ _, .bool _⟩
  rw [ext_call ho]
  simp only [List.map_toArray, List.map_cons, List.map_nil, hxe, hye, hwe]
  exact run_call_cas_hit hf hname hb hn k he hcell hfro

theorem tl_atomicAdd {id off : Nat} {k : IntKind} {x y : Operand} {cs : List L} {bt : TypeId} {z z2 z3 : Int} (ho : o.op = .call { callee := .value (.func f), args := args, argTypes := ts }) (hargs : args = #[x, y]) (hf : P.funcs[f]? = some fn) (hname : (fn.name == "runtime.NumGoroutine") = false) (hb : fn.body.isNone = true) (hn : Extern.findNext fn = none)
    (he : Extern.find fn = some (Extern.Atomic.update (Op.intArith .add) k true)) (hz : (match o.dst with | some d => Nat.blt d r.sz | none => true) = true) (hx : ev r [] x = some (.b (.l (.ptr id off)))) (hl : look id r.own = some (.cells cs bt)) (hc : cs[off]? = some (.d (.int k z))) (hy : ev r [] y = some (dl (.int k z2))) (hsum : k.wrap (z + z2) = z3) :
    Tl P o (recTurnV r o.dst (dl (.int k z3)) id (.cells (cs.set off (.d (.int k z3))) bt)) := by
  subst hargs
  refine tl_cellSet hz hx hl hc fun X ρ M a W gb u g hxe hcell hfro hd => ?_
  have hu : u = .int k z := den_int (ρ := ρ) hd
  subst hu
  have hye := den_int (ev_den hy g (holds_nil _))
  refine ⟨.int k z3, .int k z3, ?_, .int _ _, .int _ _⟩
  rw [ext_call ho]
  simp only [List.map_toArray, List.map_cons, List.map_nil, hxe, hye]
  exact run_call_add hf hname hb hn k he hcell hfro (by rw [← hsum]; rfl)

theorem yl_mark0 (m : Mark) (ho : o.op = .call { callee := .value (.func f), args := args, argTypes := ts }) (hargs : args = #[]) (hf : P.funcs[f]? = some fn) (hname : (fn.name == "runtime.NumGoroutine") = false) (hb : fn.body.isNone = true) (hn : Extern.findNext fn = none)
    (he : Extern.find fn = some (fun _ => do mark m; pure Extern.Race.none_)) (hp : pin r p = true) : Yl P o r p (.tup []) := by
  refine .of hp fun X ρ M a W g hh => ?_
  subst hargs
  refine ⟨.tuple #[], ?_, [], rfl, trivial⟩
  rw [ext_call ho]
  simp only [Array.map_empty]
  exact run_call_mark0 hf hname hb hn m he W
theorem yl_marked {id off : Nat} {x : Operand} (m : Addr → Mark) (ho : o.op = .call { callee := .value (.func f), args := args, argTypes := ts }) (hargs : args = #[x]) (hf : P.funcs[f]? = some fn) (hname : (fn.name == "runtime.NumGoroutine") = false) (hb : fn.body.isNone = true) (hn : Extern.findNext fn = none)
    (he : Extern.find fn = some (Extern.Race.marked m)) (hx : ev r p x = some (.b (.l (.ptr id off)))) (hp : pin r p = true) : Yl P o r p (.tup []) := by
  refine .of hp fun X ρ M a W g hh => ?_
  subst hargs
  obtain ⟨gb, h1, h2⟩ := ev_den hx g hh
  refine ⟨.tuple #[], ?_, [], rfl, trivial⟩
  rw [ext_call ho]
  simp only [List.map_toArray, List.map_cons, List.map_nil, h2]
  exact run_call_marked hf hname hb hn m he _ W

/-- a pointer, seen as one that says no type. -/
theorem yl_toUnsafe {src dst t id off : Nat} {x : Operand} {cs : List L} {bt : TypeId} {x0 : L} (ho : o.op = .convert src dst x) (hs : P.underlying src = some (.pointer t)) (hd : P.underlying dst = some .unsafePointer) (hsz : (P.info? t).map (fun i => decide (i.size = 0)) = some false)
    (hx : ev r p x = some (.b (.l (.ptr id off)))) (hl : look id r.own = some (.cells cs bt)) (hc : cs[off]? = some x0) (hp : pin r p = true) : Yl P o r p (.b (.l (.ptr id off))) := by
  refine .of hp fun X ρ M a W g hh => ?_
  obtain ⟨gb, vs, w, h1, h2, _, hall, h4, h5, h6, h7⟩ := own_cell g hl (ev_den hx g hh) hc
  exact ⟨.pointer (some ⟨gb, off, none⟩), by simp [execOp, ho, h2, run_convert_to_unsafe hs hd hsz h6], gb, h1, rfl⟩

/-- The address of an element of an array of one's own. -/
theorem yl_indexAddrArr (hT : TabOK P T) {t n e id o' j off : Nat} {x i : Operand} {k : IntKind} {z : Int} (ho : o.op = .indexAddr t x i) (hk : (T t).kd = .arr n e) (he : (T e).kd.known = true) (hx : ev r p x = some (.b (.l (.ptr id o')))) (hi : ev r p i = some (dl (.int k z))) (hz : z = (j : Int)) (hj : j < n) (hoff : off = o' + j * (T e).size) (hp : pin r p = true) :
    Yl P o r p (.b (.l (.ptr id off))) := by
  refine .of hp fun X ρ M a W g hh => ?_
  subst hoff hz
  obtain ⟨gb, h1, h2⟩ := ev_den hx g hh
  have hie := den_int (ev_den hi g hh)
  have hu : P.underlying t = some (.array n e) := by have h1 := (hT t (known_of hk rfl)).kd; rwa [hk] at h1
  refine ⟨.pointer (some ⟨gb, o' + j * (T e).size, none⟩), ?_, gb, h1, rfl⟩
  simp [execOp, ho, h2, hie, Instr.indexAt, asIntOf, run_underlying hu, Instr.sureAddr, hj, (hT e he).run_size, Addr.add_lit]
theorem yl_indexAddrArrE (hT : TabOK P T) {t n e j : Nat} {x i : Operand} {k : IntKind} {z : Int} {cs cs' : List D} (ho : o.op = .indexAddr t x i) (hk : (T t).kd = .arr n e) (he : (T e).kd.known = true) (hx : ev r p x = some (dl (.eptr cs))) (hi : ev r p i = some (dl (.int k z))) (hz : z = (j : Int)) (hj : j < n) (hcs : cs.drop (j * (T e).size) = cs') (hp : pin r p = true) :
    Yl P o r p (dl (.eptr cs')) := by
  refine .of hp fun X ρ M a W g hh => ?_
  subst hcs hz
  have hd := den_inv (ev_den hx g hh)
  have hie := den_int (ev_den hi g hh)
  have hu : P.underlying t = some (.array n e) := by have h1 := (hT t (known_of hk rfl)).kd; rwa [hk] at h1
  generalize hxe : a.eval x = xv at hd
  cases hd with
  | eptr _ ad f2 hcell hden =>
    refine ⟨.pointer (some (ad.add (j * (T e).size))), ?_, ?_⟩
    · simp [execOp, ho, hxe, hie, Instr.indexAt, asIntOf, run_underlying hu, Instr.sureAddr, hj, (hT e he).run_size]
    · refine DenD.eptr _ _ (fun m => f2 (j * (T e).size + m)) (fun m x hm => ?_) fun m x hm => ?_
      · rw [Addr.add_add]; exact hcell _ x (by simpa using hm)
      · exact hden _ x (by simpa using hm)

/-- A load at a place that is reckoned. -/
theorem yl_loadAt (hT : TabOK P T) {t id off : Nat} {x : Operand} {cs : List L} {bt : TypeId} {y : L} (ho : o.op = .load t x) (hk : (T t).kd.known = true) (ha : (T t).kd.agg = false) (hx : ev r p x = some (.b (.l (.ptr id off)))) (hl : look id r.own = some (.cells cs bt)) (hc : cs[off]? = some y) (hp : pin r p = true) : Yl P o r p (.b (.l y)) := by
  refine Yl.ev hT hp ?_
  obtain ⟨rest, hr⟩ : ∃ rest, cs.drop off = y :: rest := ⟨_, by
    have hlt := (List.getElem?_eq_some_iff.1 hc).1
    rw [List.drop_eq_getElem_cons hlt, (List.getElem?_eq_some_iff.1 hc).2]⟩
  rw [ho]
  simp [evP, hk, hx, hl, readL, dropGo_eq, hr, ha]
theorem yl_loadEptr (hT : TabOK P T) {t : Nat} {x : Operand} {cs : List D} {y : D} (ho : o.op = .load t x) (hk : (T t).kd.known = true) (ha : (T t).kd.agg = false) (hx : ev r p x = some (dl (.eptr cs))) (hc : cs[0]? = some y) (hp : pin r p = true) : Yl P o r p (dl y) := by
  refine Yl.ev hT hp ?_
  cases cs with
  | nil => simp at hc
  | cons z rest =>
    simp at hc; subst hc
    rw [ho]
    simp [evP, hk, hx, readD, ha]

theorem writeGo_set {x : L} : ∀ {cs acc : List L} {off : Nat}, off < cs.length → writeGo off [x] cs acc some = some (acc.reverse ++ cs.set off x)
  | [], _, off, h => by simp at h
  | c :: cs, acc, 0, h => by simp [writeGo, revGo_eq]
  | c :: cs, acc, off + 1, h => by
    simp only [writeGo]
    rw [writeGo_set (by simpa using h)]
    simp

/-- bits turned. -/
theorem yl_unXor {t : Nat} {x : Operand} {k : IntKind} {z : Int} (ho : o.op = .unOp .xor t x) (hx : ev r p x = some (dl (.int k z))) (hp : pin r p = true) : Yl P o r p (dl (.int k (k.wrap (BitVec.ofInt k.bits (if k.signed then -1 else k.max) ^^^ BitVec.ofInt k.bits z).toNat))) := by
  refine .of hp fun X ρ M a W g hh => ?_
  have hxe := den_int (ev_den hx g hh)
  exact ⟨_, by simp [execOp, ho, hxe, Op.unary, Op.intBits], .int _ _⟩
/-- a shift to the right by what a slot holds. -/
theorem yl_shr {t t' : Nat} {x y : Operand} {k k2 : IntKind} {z z2 : Int} {n : Nat} (ho : o.op = .binOp .shr t x y t') (hx : ev r p x = some (dl (.int k z))) (hy : ev r p y = some (dl (.int k2 z2))) (hn : z2 = (n : Int)) (hp : pin r p = true) : Yl P o r p (dl (.int k (z.fdiv (2 ^ (min n k.bits))))) := by
  refine .of hp fun X ρ M a W g hh => ?_
  have hxe := den_int (ev_den hx g hh)
  have hye := den_int (ev_den hy g hh)
  subst hn
  refine ⟨.int k (z.fdiv (2 ^ (min n k.bits))), ?_, .int _ _⟩
  have hn : ¬ ((n : Int) < 0) := by omega
  simp [execOp, ho, hxe, hye, eqGuard, binOp, Op.shift, hn]

theorem nmLs_d {β : Type} {m : Nm} {k : List L → Option β} : ∀ (ds : List D) (acc : List L), nmLs m k (ds.map L.d) acc = k (acc.reverse ++ ds.map L.d)
  | [], acc => by simp [nmLs, revGo_eq]
  | x :: r, acc => by simp [nmLs, nmL, nmLs_d r]
end Go.Cel

set_option linter.unusedVariables false
set_option linter.unusedSimpArgs false
namespace Go.Cel
variable {P : Program} {T : Nat → Ty} {X : CtxD} {ρ : Rho} {M : Imm} {r s s' : St} {a : Act} {W : World} {p : Path} {o : Oper} {v : A}

theorem yl_eqNil {t te : Nat} {x : Operand} {t' : TypeId} (ho : o.op = .binOp .eql t x (.const (.pointer none)) t') (hk : P.underlying t = some (.pointer te)) (hx : ev r p x = some (dl .nilp)) (hp : pin r p = true) : Yl P o r p (dl (.bool true)) := by
  refine .of hp fun X ρ M a W g hh => ?_
  have hd := den_inv (ev_den hx g hh)
  generalize hxe : a.eval x = xv at hd
  cases hd
  refine ⟨.bool true, ?_, .bool _⟩
  have h : ∀ d : Nat, (Op.equalIn (d + 1) t (.pointer none) (.pointer none)).run P W = .ok true W := fun d => by
    simp [Op.equalIn, run_underlying hk]
  have hc : a.eval (.const (.pointer none)) = .pointer none := rfl
  simp [execOp, ho, hxe, hc, eqGuard, binOp, Op.equal, Op.maxDepth, h 9999]
theorem yl_eqNilF {t te id off : Nat} {x : Operand} {t' : TypeId} (ho : o.op = .binOp .eql t x (.const (.pointer none)) t') (hk : P.underlying t = some (.pointer te)) (hx : ev r p x = some (.b (.l (.ptr id off)))) (hp : pin r p = true) : Yl P o r p (dl (.bool false)) := by
  refine .of hp fun X ρ M a W g hh => ?_
  obtain ⟨gb, h1, h2⟩ := ev_den hx g hh
  refine ⟨.bool false, ?_, .bool _⟩
  have h : ∀ d : Nat, (Op.equalIn (d + 1) t (.pointer (some ⟨gb, off, none⟩)) (.pointer none)).run P W = .ok false W := fun d => by
    simp [Op.equalIn, run_underlying hk]
  have hc : a.eval (.const (.pointer none)) = .pointer none := rfl
  simp [execOp, ho, h2, hc, eqGuard, binOp, Op.equal, Op.maxDepth, h 9999]
theorem yl_neSelf {t te id off : Nat} {x y : Operand} {t' : TypeId} {j : TypeInfo} (ho : o.op = .binOp .neq t x y t') (hk : P.underlying t = some (.pointer te)) (hj : P.info? te = some j) (hx : ev r p x = some (.b (.l (.ptr id off)))) (hy : ev r p y = some (.b (.l (.ptr id off)))) (hp : pin r p = true) : Yl P o r p (dl (.bool false)) := by
  refine .of hp fun X ρ M a W g hh => ?_
  obtain ⟨gb, h1, h2⟩ := ev_den hx g hh
  obtain ⟨gb', h3, h4⟩ := ev_den hy g hh
  rw [h1] at h3; simp at h3; subst h3
  have := Lib.run_neq_ptr_same (P := P) W ⟨gb, off, none⟩ hk hj
  refine ⟨.bool false, ?_, .bool _⟩
  simp [execOp, ho, h2, h4, eqGuard, this]

section
variable {f : FuncId} {fn : Func} {args : Array Operand} {ts : Array TypeId}
theorem yl_noEscape {id off : Nat} {x : Operand} (ho : o.op = .call { callee := .value (.func f), args := args, argTypes := ts }) (hargs : args = #[x]) (hf : P.funcs[f]? = some fn) (hname : (fn.name == "runtime.NumGoroutine") = false) (hb : fn.body.isNone = true) (hn : Extern.findNext fn = none)
    (he : Extern.find fn = some Extern.AbiNoEscape.same) (hx : ev r p x = some (.b (.l (.ptr id off)))) (hp : pin r p = true) : Yl P o r p (.b (.l (.ptr id off))) := by
  refine .of hp fun X ρ M a W g hh => ?_
  subst hargs
  obtain ⟨gb, h1, h2⟩ := ev_den hx g hh
  refine ⟨.pointer (some ⟨gb, off, none⟩), ?_, gb, h1, rfl⟩
  rw [ext_call ho]
  simp only [List.map_toArray, List.map_cons, List.map_nil, h2]
  rw [run_callFunc_extern hf hname hb hn he]
  rfl
end
theorem yl_fromUnsafe {src dst u id off : Nat} {x : Operand} {cs : List L} {bt : TypeId} {j : TypeInfo} (ho : o.op = .convert src dst x) (hs : P.underlying src = some .unsafePointer) (hd : P.underlying dst = some (.pointer u)) (hu : P.info? u = some j)
    (hx : ev r p x = some (.b (.l (.ptr id off)))) (hl : look id r.own = some (.cells cs bt)) (hlies : liesAt P P.depth bt (cs.length / P.cellsOf bt) off u 1 = true) (hp : pin r p = true) : Yl P o r p (.b (.l (.ptr id off))) := by
  refine .of hp fun X ρ M a W g hh => ?_
  obtain ⟨gb, h1, h2⟩ := ev_den hx g hh
  obtain ⟨gb', vs, h3, hh', hall⟩ := own_cells g hl
  rw [h1] at h3; simp at h3; subst h3
  have hlen := All2.length hall
  have := Lib.run_from_unsafe (P := P) W (src := src) (dst := dst) (u := u) (e := bt) (cells := cs.length) ⟨gb, off, none⟩ hs hd hu (by simp [World.shape?, hh', hlen]) hlies
  exact ⟨.pointer (some ⟨gb, off, none⟩), by simp [execOp, ho, h2, this], gb, h1, rfl⟩

/-- octets, as a row holds them. -/
def octs (s : ByteArray) : List (List D) := s.data.toList.map fun b => [D.int .u8 (b.toNat : Int)]
theorem octs_length (s : ByteArray) : (octs s).length = s.size := by simp [octs]
theorem octs_append (s t : ByteArray) : octs (s ++ t) = octs s ++ octs t := by simp [octs]
theorem strCells_rep (M : Imm) (s : ByteArray) : RowRep P M 1 (octs s) (Lib.strCells s) := by
  refine ⟨by simp [octs, Lib.strCells], fun i cs hi => ?_⟩
  simp only [octs, List.getElem?_map] at hi
  cases hb : s.data.toList[i]? with
  | none => rw [hb] at hi; cases hi
  | some b =>
    rw [hb] at hi; simp at hi; subst hi
    refine ⟨rfl, fun j x hj => ?_⟩
    cases j with
    | zero =>
      simp at hj; subst hj
      exact ⟨.int .u8 b.toNat, by simp only [Lib.strCells, List.getElem?_map, Nat.mul_one, Nat.add_zero, hb]; rfl, .int _ _⟩
    | succ j => simp at hj

/-- a type of octets. -/
def octInfo (P : Program) (e : Nat) : Bool :=
  match P.info? e with
  | some i => Nat.beq i.size 1 && Nat.beq i.bytes 1 && (match i.zero with | some (.int .u8 n) => decide (n = 0) | _ => false)
  | none => false
theorem octInfo_some {e : Nat} (h : octInfo P e = true) : ∃ i, P.info? e = some i ∧ i.size = 1 ∧ i.bytes = 1 ∧ i.zero = some (.int .u8 0) := by
  unfold octInfo at h
  split at h
  · rename_i i hi
    simp only [Bool.and_eq_true] at h
    obtain ⟨⟨h1, h2⟩, h3⟩ := h
    refine ⟨i, hi, Nat.eq_of_beq_eq_true h1, Nat.eq_of_beq_eq_true h2, ?_⟩
    split at h3
    · rename_i n hz
      simp at h3; subst h3; exact hz
    · cases h3
  · cases h

/-- A text behind octets of one's own. -/
theorem tl_appendStr (hT : TabOK P T) {t ts0 e d n : Nat} {x y : Operand} {ds : List (List D)} {s : ByteArray} {del : List Nat} {args : Array Operand} {ts : Array TypeId} (ho : o.op = .call { callee := .builtin .append, args := args, argTypes := ts }) (hargs : args = #[x, y]) (hts : ts = #[t, ts0]) (hd : o.dst = some d) (hz : Nat.blt d r.sz = true) (hk : (T t).kd = .slice e) (hks : (T ts0).kd = .str) (he : (T e).kd.known = true)
    (hsz : octInfo P e = true) (hx : dstOf r e x = some (ds, del)) (hy : ev r [] y = some (dl (.str s))) (hb : ds.length + s.size ≤ room) : Tl P o (recNew r d (.orow n) n (.row e (ds ++ octs s)) del) := by
  refine tl_new hd hz fun X ρ M st a W g gs hsub => ?_
  have ht := hT e he
  obtain ⟨i, hi, hi1, hi2, hi3⟩ := octInfo_some hsz
  have hcells : P.cellsOf e = 1 := by simp [Program.cellsOf, hi, hi1]
  have hbytes : P.bytesOf e = 1 := by simp [Program.bytesOf, hi, hi2]
  have hye := den_str (ev_den hy g (holds_nil _))
  have hxd : ∃ xv xs, a.eval x = xv ∧ W.ownsRow 0 e 1 xv ds.length xs ∧ RowRep P M 1 ds xs ∧ (∀ k, xv.ownBlock = some k → ∃ id b, (id, b) ∈ r.own ∧ id ∈ del ∧ ρ id = some xv ∧ gOf xv = some k) := by
    unfold dstOf at hx
    split at hx
    · rename_i hx'
      simp at hx
      obtain ⟨rfl, rfl⟩ := hx
      have hd := den_inv (ev_den hx' g (holds_nil _))
      generalize hxe : a.eval x = xv at hd
      cases hd
      exact ⟨_, [], rfl, World.ownsRow_nil W 0 e _, ⟨by simp, by simp⟩, fun k hk => by simp [Value.ownBlock] at hk⟩
    · rename_i id hx'
      split at hx
      · rename_i t' es hl
        cases hbq : Nat.beq t' e with
        | false => simp [hbq] at hx
        | true =>
          simp [hbq] at hx
          obtain ⟨rfl, rfl⟩ := hx
          have := Nat.eq_of_beq_eq_true hbq
          subst this
          obtain ⟨hr, A, m, c, hxe⟩ := ev_den hx' g (holds_nil _)
          obtain ⟨u, xs, hu, how, hrep, _⟩ := g.own _ _ (look_mem hl)
          rw [hr] at hu; simp at hu; subst hu
          rw [hcells] at how hrep
          refine ⟨_, xs, rfl, how, hrep, fun k hk => ⟨id, _, look_mem hl, by simp, hr, ?_⟩⟩
          rw [hxe] at hk ⊢
          cases A with
          | none => simp [Value.ownBlock] at hk
          | some ad => simpa [Value.ownBlock, gOf] using hk
      · simp at hx
    · simp at hx
  obtain ⟨xv, xs, hxe, hown, hxr, hblk⟩ := hxd
  have hroom : ds.length + s.size ≤ 140737488355328 := hb
  obtain ⟨v', w', h1, h2, h3, h4⟩ := Lib.run_append_own_string (P := P) W 0 t ts0 o.type e i (kd_slice hT hk) (kd_str hT hks) hi hi3 hi1 hi2 xv ds.length xs hown s (by unfold maxLen; omega) hroom (Nat.zero_le _)
  have h5 : v'.ownBlock = xv.ownBlock ∨ v'.ownBlock = some W.heap.size ∨ (∃ k, v'.ownBlock = some k ∧ W.heap.size ≤ k) := by
    rcases hown.2 with ⟨hv0, h0⟩ | ⟨gb, cap, cur, hv0, _, hgb, hnc, hcm, hcs, htake⟩
    · have hown' : W.ownsRow W.heap.size e 1 xv ds.length xs := ⟨hown.1, .inl ⟨hv0, h0⟩⟩
      obtain ⟨v2, w2, q1, q2, _, q4⟩ := Lib.run_append_own_string (P := P) W W.heap.size t ts0 o.type e i (kd_slice hT hk) (kd_str hT hks) hi hi3 hi1 hi2 xv ds.length xs hown' s (by unfold maxLen; omega) hroom (Nat.le_refl _)
      rw [h1] at q1; injection q1 with q1 q1'; subst q1 q1'
      rcases q2.2 with ⟨e1, _⟩ | ⟨gb, cap, cur, e1, hle, _⟩
      · left; rw [e1, hv0]
      · right; right; rw [e1]; exact ⟨gb, rfl, hle⟩
    · by_cases hr : ds.length + s.size ≤ cap
      · have := Lib.run_append_room_string (P := P) W t ts0 o.type e i (kd_slice hT hk) (kd_str hT hks) hi hi1 gb ds.length cap cur hgb s hr (by omega)
        rw [← hv0, h1] at this; injection this with q1 _
        left; rw [q1, hv0]; rfl
      · have hc : ∀ j u, xs[j]? = some u → W.cell? ((⟨gb, 0, none⟩ : Addr).add j) = some u := hown.cells (g := gb) (by rw [hv0]; rfl)
        have := Lib.run_append_grow_string (P := P) W t ts0 o.type e i (.int .u8 0) (kd_slice hT hk) (kd_str hT hks) hi hi3 ⟨gb, 0, none⟩ ds.length cap xs (by rw [hi1]; simpa using hown.1) hc s (by omega) (by omega) (by rw [hi2]; exact growslice_fits (by omega) (by omega))
        rw [← hv0, h1] at this; injection this with q1 _
        right; left; rw [q1]; rfl
  have hgo : ∀ v : Value, (∃ A n c, v = .slice A n c) → gOf v = v.ownBlock := by
    rintro v ⟨A, n, c, rfl⟩
    cases A <;> simp [gOf, Value.ownBlock]
  have hv' : ∃ A n c, v' = .slice A n c := by
    rcases h2.2 with ⟨h, _⟩ | ⟨_, _, _, h, _⟩ <;> exact ⟨_, _, _, h⟩
  obtain ⟨g1, g2, g3, g4, g5⟩ := h3
  refine ⟨v', w', ?_, g1, g2, g3, g4, fun j hj hno => g5 j hj fun e' => ?_, v', fun k hk' => ?_, fun ρ' _ hn => ⟨⟨v', xs ++ Lib.strCells s, hn, ?_, ?_, ?_⟩, ⟨hn, hv'⟩⟩⟩
  · subst hargs hts
    simp [execOp, ho, resolve, invoke, builtin, hxe, hye, h1]
  · obtain ⟨id, b, q1, q2, q3, q4⟩ := hblk j e'.symm
    exact hno id b xv (hsub.own _ _ q1) q2 q3 q4
  · rw [hgo v' hv'] at hk'
    rcases h5 with h5 | h5 | ⟨k', h5, h6⟩
    · rw [h5] at hk'
      obtain ⟨id, b, q1, q2, q3, q4⟩ := hblk k hk'
      exact .inr ⟨id, b, xv, hsub.own _ _ q1, q2, q3, q4⟩
    · rw [h5] at hk'; simp at hk'; exact .inl (by omega)
    · rw [h5] at hk'; simp at hk'; exact .inl (by omega)
  · rw [hcells]; simpa [octs_length] using h2
  · rw [hcells]; exact hxr.app (strCells_rep M s)
  · rw [hbytes]; simpa [octs_length] using hb

/-- A block of one's own that is no one's any more. -/
theorem Gam.drop (g : Gam P X ρ M s a W) {id : Nat} {b : Blk} (hm : (id, b) ∈ s.own) {k : Nat} {u : Value} (hu : ρ id = some u) (hk : gOf u = some k) {W' : World} (hos : W'.os = W.os) (htp : W'.tape = W.tape) (hout : W'.output = W.output) (hsz : W'.heap.size = W.heap.size) (hoth : ∀ j, j ≠ k → W'.heap[j]? = W.heap[j]?)
    {O : List (Nat × Blk)} (hO : ∀ i c, (i, c) ∈ O → i ≠ id ∧ (i, c) ∈ s.own) : Gam P X ρ M { s with own := O } a W' := by
  have hmine := g.mine id b u k hm hu hk
  have hne : ∀ i c, (i, c) ∈ s.own → i ≠ id → ∀ v' j, ρ i = some v' → gOf v' = some j → j ≠ k := fun i c hic hi v' j hv hj e => by
    subst e
    exact hi (g.dist i c id b v' u j hic hm hv hu hj hk).1
  refine ⟨⟨hos.trans g.os, htp.trans g.tape, hout.trans g.output, by rw [hsz]; exact g.size, ?_, ?_, g.mono, g.newM, g.rle, g.nle, g.rfr, g.fresh, ?_, ?_, ?_⟩, g.regs, g.wfr, g.gv, g.wfg, g.asm, g.defers, g.sz⟩
  · intro j hj hK
    rw [hoth j ?_]
    · exact g.old j hj hK
    · intro e; subst e
      rcases hmine.2 with h | h
      · exact hK h
      · omega
  · intro j o' hj
    rw [hoth j ?_]
    · exact g.imm j o' hj
    · intro e; subst e
      rw [hmine.1] at hj; cases hj
  · intro i c hic
    obtain ⟨hi, hic⟩ := hO i c hic
    exact (g.own i c hic).keep (Rho.le.refl _) (Imm.le.refl _) fun v' j hv hj => hoth j (hne i c hic hi v' j hv hj)
  · intro i c v' j hic hv hj
    exact g.mine i c v' j (hO i c hic).2 hv hj
  · intro i c i' c' v1 v2 j hic hic' hv hv' hj hj'
    exact g.dist i c i' c' v1 v2 j (hO i c hic).2 (hO i' c' hic').2 hv hv' hj hj'

def recDrop (r : St) (d : Nat) (v : A) (id : Nat) : Rec := ⟨r, [(d, [], v)], [], [id], [], []⟩

section
variable {args : Array Operand} {ts : Array TypeId}
/-- the head of octets of one's own. -/
theorem yl_sliceData {t e id : Nat} {x : Operand} {c0 : List D} {es : List (List D)} (ho : o.op = .call { callee := .builtin .unsafeSliceData, args := args, argTypes := ts }) (hargs : args = #[x]) (hx : ev r p x = some (.b (.l (.orow id)))) (hl : look id r.own = some (.row e (c0 :: es))) (hp : pin r p = true) : Yl P o r p (.b (.l (.optr id 0 0 1))) := by
  refine .of hp fun X ρ M a W g hh => ?_
  subst hargs
  obtain ⟨hr, A, m, c, hxe⟩ := ev_den hx g hh
  obtain ⟨u, xs, hu, how, _, _⟩ := g.own _ _ (look_mem hl)
  rw [hr] at hu; simp at hu; subst hu
  rcases how.2 with ⟨_, h0⟩ | ⟨gb, cap, cur, hv0, _, hgb, hnc, hcm, hcs, htake⟩
  · simp at h0
  · refine ⟨.pointer (some ⟨gb, 0, none⟩), ?_, gb, _, _, by rw [hr, hv0], by simp⟩
    rw [hv0] at hxe
    simp [execOp, ho, resolve, invoke, builtin, hv0, Lib.run_unsafeSliceData_row (P := P) W ts o.type ⟨gb, 0, none⟩ _ cap (by simp at hnc; omega)]

/-- a text out of octets of one's own, which then are no one's. -/
theorem tl_unsafeString (hT : TabOK P T) {t tn e d id : Nat} {x y : Operand} {s : ByteArray} (ho : o.op = .call { callee := .builtin .unsafeString, args := args, argTypes := ts }) (hargs : args = #[x, y]) (hts : ts = #[t, tn]) (hpt : P.underlying t = some (.pointer e)) (hsz : octInfo P e = true) (hd : o.dst = some d) (hz : Nat.blt d r.sz = true)
    (hx : ev r [] x = some (.b (.l (.optr id 0 0 1)))) (hl : look id r.own = some (.row e (octs s))) (hy : ev r [] y = some (dl (.int .i64 (s.size : Int)))) (hs : s.size ≠ 0) (hs2 : s.size < 4611686018427387904) : Tl P o (recDrop r d (dl (.str s)) id) := by
  intro X ρ M st a W K Q g hst hf hps hK
  subst hargs hts
  obtain ⟨i, hi, hi1, hi2, hi3⟩ := octInfo_some hsz
  have hcells : P.cellsOf e = 1 := by simp [Program.cellsOf, hi, hi1]
  have gr := g.sub hst
  obtain ⟨gb, n, c, hr, hxe⟩ := ev_den hx gr (holds_nil _)
  have hye := den_int (ev_den hy gr (holds_nil _))
  have hm := hst.own _ _ (look_mem hl)
  obtain ⟨u, xs, hu, how, hrep, _⟩ := g.own _ _ hm
  rw [hr] at hu; simp at hu; subst hu
  rw [hcells] at how hrep
  have hcell := how.cells (g := gb) rfl
  have hxs : ∀ j b, s.data.toList[j]? = some b → xs[j]? = some (Value.int IntKind.u8 (UInt8.toNat b : Int)) := fun j b hb => by
    have h1 := hrep.2 j [.int .u8 (b.toNat : Int)] (by simp only [octs, List.getElem?_map]; rw [hb]; rfl)
    obtain ⟨u, h2, h3⟩ := h1.2 0 (.int .u8 (b.toNat : Int)) rfl
    have := den_int (ρ := ρ) h3
    rw [this] at h2
    simpa using h2
  rcases how.2 with ⟨_, h0⟩ | ⟨gb', cap, cur, hv0, _, hgb, hnc, hcm, hcs, htake⟩
  · rw [octs_length] at h0; exact absurd h0 hs
  · injection hv0 with e1 e2 e3
    injection e1 with e1
    injection e1 with e1
    subst e1
    have hlen : s.data.toList.length = s.size := by simp
    have hrun := Lib.run_unsafeString_row (P := P) W t tn o.type e hpt hcells gb cur.size (by simp [World.shape?, hgb]) s.data.toList (fun h => hs (by rw [← hlen, h]; rfl)) (by rw [hlen]; rw [octs_length] at hnc; simp at hcs; omega) (by rw [hlen]; omega) (fun j b hb => hcell j _ (hxs j b hb))
    rw [hlen] at hrun
    have hstr : (⟨s.data.toList.toArray⟩ : ByteArray) = s := by cases s; simp
    rw [hstr] at hrun
    have hfro : (W.freeze ⟨gb, 0, none⟩ s.size).os = W.os ∧ (W.freeze ⟨gb, 0, none⟩ s.size).tape = W.tape ∧ (W.freeze ⟨gb, 0, none⟩ s.size).output = W.output ∧ (W.freeze ⟨gb, 0, none⟩ s.size).heap.size = W.heap.size ∧ ∀ j, j ≠ gb → (W.freeze ⟨gb, 0, none⟩ s.size).heap[j]? = W.heap[j]? := by
      unfold World.freeze
      rw [if_neg hs]
      refine ⟨rfl, rfl, rfl, by simp, fun j hj => ?_⟩
      simp only [Array.getElem?_modify]
      rw [if_neg (Ne.symm hj)]
    have g1 := g.drop hm hr (k := gb) rfl hfro.1 hfro.2.1 hfro.2.2.1 hfro.2.2.2.1 hfro.2.2.2.2 (O := remP [id] st.own) fun i c h => by
      have := remP_mem.1 h
      exact ⟨by simpa using this.2, this.1⟩
    unfold Oper.wp
    have : (execOp a.eval o).run P W = .ok (.value (.string s)) (W.freeze ⟨gb, 0, none⟩ s.size) := by
      simp [execOp, ho, resolve, invoke, builtin, hxe, hye, hrun]
    rw [this]
    show K (a.put o.dst (.string s)) _
    rw [hd]
    have hz' : d < st.sz := by
      have h0 : d < r.sz := blt_lt hz
      have h1 : r.sz = st.sz := hst.sz
      exact Nat.lt_of_lt_of_eq h0 h1
    have g2 := g1.putR (p := []) (v := dl (.str s)) (d := d) (hps (d, [], dl (.str s)) (by simp [recDrop])) hz' (x := .string s) ⟨fun _ => .str s, fun hh => absurd (holds_nil _) hh⟩ (by simp)
    exact hK ρ M (a.put (some d) (.string s)) _ (fun n hn _ => hn) (by rw [apply_eq]; exact g2)
end

/-- Octets, as a text. -/
theorem yl_octStr (hT : TabOK P T) {src dst e : Nat} {x : Operand} {zs : List Int} (ho : o.op = .convert src dst x) (hk : (T src).kd = .slice e) (hke : P.underlying e = some (.int .u8)) (hsz : octInfo P e = true) (hkd : (T dst).kd = .str) (hx : ev r p x = some (dl (.seq e (zs.map fun z => [D.int .u8 z])))) (hne : zs ≠ []) (hp : pin r p = true) : Yl P o r p (dl (.str (strOfNums zs))) := by
  refine .of hp fun X ρ M a W g hh => ?_
  obtain ⟨i, hi, hi1, hi2, hi3⟩ := octInfo_some hsz
  have hcells : P.cellsOf e = 1 := by simp [Program.cellsOf, hi, hi1]
  have hd := den_inv (ev_den hx g hh)
  generalize hes : (zs.map fun z => [D.int .u8 z]) = es at hd
  generalize hxe : a.eval x = xv at hd
  cases hd with
  | seq0 _ A c => exact absurd (List.map_eq_nil_iff.1 hes) hne
  | seq _ _ ad c f h1 h2 h3 h4 h5 h6 =>
    have hlen : es.length = zs.length := by rw [← hes]; simp
    have hget : ∀ j, j < zs.length → W.cell? (ad.add j) = some (.int .u8 (zs.getD j 0)) := fun j hj => by
      have e1 : es[j]? = some [D.int .u8 (zs.getD j 0)] := by rw [← hes]; simp [List.getElem?_map, List.getElem?_eq_getElem hj]
      have q1 := h5 j _ 0 _ e1 rfl
      have q2 := den_int (ρ := ρ) (h6 j _ 0 _ e1 rfl)
      rw [q2, hcells] at q1
      simpa using Imm.cell_world g.imm q1
    have hpos : 0 < zs.length := List.length_pos_iff.2 hne
    have hspot : ad.spot = none := by
      have e1 : es[0]? = some [D.int .u8 (zs.getD 0 0)] := by rw [← hes]; simp [List.getElem?_map, List.getElem?_eq_getElem hpos]
      have q1 := h5 0 _ 0 _ e1 rfl
      unfold Imm.cell at q1
      split at q1
      · have e2 : (ad.add (0 * P.cellsOf e + 0)).spot = ad.spot := by simp [Addr.add]
        cases hs : ad.spot with
        | none => rfl
        | some _ => rw [e2, hs] at q1; simp at q1
      · cases q1
    obtain ⟨b, off, sp⟩ := ad
    simp at hspot; subst hspot
    have := run_convert_bytes_arg (P := P) W src e (kd_slice hT hk) hke b off es.length c zs hlen.symm (fun j hj => by
      have := hget j (by omega)
      rwa [Addr.add_lit] at this) dst (kd_str hT hkd)
    exact ⟨.string (strOfNums zs), by simp [execOp, ho, hxe, this], .str _⟩

/-- A whole array that is turned no more, as a slice. -/
theorem yl_sliceArrE (hT : TabOK P T) {t n e : Nat} {x : Operand} {cs : List D} (ho : o.op = .slice t x none none none) (hk : (T t).kd = .arr n e) (he : (T e).kd.known = true) (hsz : octInfo P e = true) (hx : ev r p x = some (dl (.eptr cs))) (hn : cs.length = n) (hn0 : 0 < n) (hn1 : n ≤ 1000) (hp : pin r p = true) : Yl P o r p (dl (.seq e (cs.map fun c => [c]))) := by
  refine .of hp fun X ρ M a W g hh => ?_
  obtain ⟨i, hi, hi1, hi2, hi3⟩ := octInfo_some hsz
  have hcells : P.cellsOf e = 1 := by simp [Program.cellsOf, hi, hi1]
  have hbytes : P.bytesOf e = 1 := by simp [Program.bytesOf, hi, hi2]
  have hu : P.underlying t = some (.array n e) := by have h1 := (hT t (known_of hk rfl)).kd; rwa [hk] at h1
  have hd := den_inv (ev_den hx g hh)
  generalize hxe : a.eval x = xv at hd
  cases hd with
  | eptr _ ad f h1 h2 =>
    have hl : (cs.map fun c => [c]).length = n := by simp [hn]
    have hlenD := DenD.seq (P := P) (M := M) e (cs.map fun c => [c]) ad n (fun i _ => f i) (by omega) (by unfold maxLen; omega) (by rw [hbytes, hl]; unfold room; omega)
      (fun i cs' hi' => by
        simp only [List.getElem?_map] at hi'
        cases hc : cs[i]? with
        | none => rw [hc] at hi'; cases hi'
        | some c => rw [hc] at hi'; simp at hi'; subst hi'; rw [hcells]; rfl)
      (fun i cs' j x' hi' hj => by
        simp only [List.getElem?_map] at hi'
        cases hc : cs[i]? with
        | none => rw [hc] at hi'; cases hi'
        | some c =>
          rw [hc] at hi'; simp at hi'; subst hi'
          cases j with
          | zero => rw [hcells]; simpa using h1 i c hc
          | succ j => simp at hj)
      (fun i cs' j x' hi' hj => by
        simp only [List.getElem?_map] at hi'
        cases hc : cs[i]? with
        | none => rw [hc] at hi'; cases hi'
        | some c =>
          rw [hc] at hi'; simp at hi'; subst hi'
          cases j with
          | zero => simp at hj; subst hj; exact h2 i c hc
          | succ j => simp at hj)
    rw [hl] at hlenD
    refine ⟨.slice (some ad) n n, ?_, hlenD⟩
    have hn0' : n ≠ 0 := by omega
    simp [execOp, ho, hxe, Instr.sliceAt, run_underlying hu, Instr.sureAddr, Instr.sliceBounds, (hT e he).run_size, hn0', Addr.add]
end Go.Cel
