/- The seat's types, as the value level wants them: by a program (gen_tt.py). -/
import Derived.Test.YtoclhejbhefgeaaVA
import Derived.Test.YtoclhejbhefgeaaProg
namespace Go.Proofs.Ytoclhejbhefgeaa
open Go Go.Proofs.VL
def tt : TypeId → Option TI := fun t => match t with
  | 2 => some { size := 1, agg := false, bytes := 8, zero := [.d (.v (.int .i64 0))], kind := some .i64 }
  | 3 => some { size := 1, agg := false, bytes := 8, zero := [.d (.v (.int .i64 0))], kind := some .i64 }
  | 4 => some { size := 1, agg := false, bytes := 1, zero := [.d (.v (.bool false))], cls := 1 }
  | 5 => some { size := 1, agg := false, bytes := 1, zero := [.d (.v (.int .u8 0))], kind := some .u8 }
  | 6 => some { size := 1, agg := false, bytes := 1, zero := [.d (.v (.int .u8 0))], kind := some .u8 }
  | 7 => some { size := 4, agg := true, bytes := 24, zero := [.d (.v (.int .i64 0)), .d (.v (.int .i64 0)), .d (.v (.bool false)), .d (.v (.int .u8 0))], fields := [(0, 1, false), (1, 1, false), (2, 1, false), (3, 1, false)], eqs := some [0, 0, 1, 0] }
  | 8 => some { size := 4, agg := true, bytes := 24, zero := [.d (.v (.int .i64 0)), .d (.v (.int .i64 0)), .d (.v (.bool false)), .d (.v (.int .u8 0))], fields := [(0, 1, false), (1, 1, false), (2, 1, false), (3, 1, false)], eqs := some [0, 0, 1, 0] }
  | 9 => some { size := 1, agg := false, bytes := 16, zero := [.d (.v (.string ByteArray.empty))], cls := 2 }
  | 10 => some { size := 1, agg := false, bytes := 16, zero := [.d (.v (.string ByteArray.empty))], cls := 2 }
  | 11 => some { size := 1, agg := false, bytes := 16, zero := [.d (.v (.string ByteArray.empty))], cls := 2 }
  | 12 => some { size := 1, agg := false, bytes := 8, zero := [.d (.v (.int .u64 0))], kind := some .u64 }
  | 13 => some { size := 2, agg := true, bytes := 24, zero := [.d (.v (.string ByteArray.empty)), .d (.v (.int .u64 0))], fields := [(0, 1, false), (1, 1, false)] }
  | 14 => some { size := 2, agg := true, bytes := 24, zero := [.d (.v (.string ByteArray.empty)), .d (.v (.int .u64 0))], fields := [(0, 1, false), (1, 1, false)] }
  | 21 => some { size := 1, agg := false, bytes := 4, zero := [.d (.v (.int .i32 0))], kind := some .i32 }
  | 22 => some { size := 1, agg := false, bytes := 24, zero := [.nil], elem := 5, sl := true }
  | 24 => some { size := 1, agg := false, bytes := 24, zero := [.nil], elem := 63, sl := true }
  | 25 => some { size := 1, agg := false, bytes := 24, zero := [.nil], elem := 95, sl := true }
  | 26 => some { size := 1, agg := false, bytes := 24, zero := [.nil], elem := 84, sl := true }
  | 27 => some { size := 1, agg := false, bytes := 24, zero := [.nil], elem := 87, sl := true }
  | 28 => some { size := 2, agg := true, bytes := 16, zero := [.d (.v (.int .i64 0)), .d (.v (.int .i64 0))], fields := [(0, 1, false), (1, 1, false)], eqs := some [0, 0] }
  | 29 => some { size := 2, agg := true, bytes := 16, zero := [.d (.v (.int .i64 0)), .d (.v (.int .i64 0))], fields := [(0, 1, false), (1, 1, false)], eqs := some [0, 0] }
  | 30 => some { size := 1, agg := false, bytes := 24, zero := [.nil], elem := 98, sl := true }
  | 31 => some { size := 7, agg := true, bytes := 72, zero := [.d (.v (.int .i64 0)), .d (.v (.int .i64 0)), .d (.v (.int .i64 0)), .nil, .d (.v (.int .i64 0)), .d (.v (.int .i64 0)), .d (.v (.int .i64 0))], fields := [(0, 2, true), (2, 1, false), (3, 1, false), (4, 2, true), (6, 1, false)] }
  | 32 => some { size := 7, agg := true, bytes := 72, zero := [.d (.v (.int .i64 0)), .d (.v (.int .i64 0)), .d (.v (.int .i64 0)), .nil, .d (.v (.int .i64 0)), .d (.v (.int .i64 0)), .d (.v (.int .i64 0))], fields := [(0, 2, true), (2, 1, false), (3, 1, false), (4, 2, true), (6, 1, false)] }
  | 33 => some { size := 1, agg := false, bytes := 24, zero := [.nil], elem := 3, sl := true }
  | 34 => some { size := 1, agg := false, bytes := 24, zero := [.nil], elem := 33, sl := true }
  | 35 => some { size := 2, agg := true, bytes := 48, zero := [.nil, .nil], fields := [(0, 1, false), (1, 1, false)] }
  | 36 => some { size := 2, agg := true, bytes := 48, zero := [.nil, .nil], fields := [(0, 1, false), (1, 1, false)] }
  | 37 => some { size := 22, agg := true, bytes := 304, zero := [.d (.v (.int .i64 0)), .d (.v (.int .i64 0)), .d (.v (.int .i64 0)), .d (.v (.int .i64 0)), .d (.v (.int .i64 0)), .nil, .nil, .nil, .d (.v (.int .i64 0)), .nil, .d (.v (.int .i64 0)), .d (.v (.int .i64 0)), .d (.v (.int .i64 0)), .nil, .d (.v (.int .i64 0)), .d (.v (.int .i64 0)), .d (.v (.int .i64 0)), .nil, .nil, .d (.v (.int .i64 0)), .nil, .d (.v (.int .i64 0))], fields := [(0, 1, false), (1, 1, false), (2, 1, false), (3, 1, false), (4, 1, false), (5, 1, false), (6, 1, false), (7, 1, false), (8, 1, false), (9, 1, false), (10, 7, true), (17, 2, true), (19, 1, false), (20, 1, false), (21, 1, false)] }
  | 38 => some { size := 22, agg := true, bytes := 304, zero := [.d (.v (.int .i64 0)), .d (.v (.int .i64 0)), .d (.v (.int .i64 0)), .d (.v (.int .i64 0)), .d (.v (.int .i64 0)), .nil, .nil, .nil, .d (.v (.int .i64 0)), .nil, .d (.v (.int .i64 0)), .d (.v (.int .i64 0)), .d (.v (.int .i64 0)), .nil, .d (.v (.int .i64 0)), .d (.v (.int .i64 0)), .d (.v (.int .i64 0)), .nil, .nil, .d (.v (.int .i64 0)), .nil, .d (.v (.int .i64 0))], fields := [(0, 1, false), (1, 1, false), (2, 1, false), (3, 1, false), (4, 1, false), (5, 1, false), (6, 1, false), (7, 1, false), (8, 1, false), (9, 1, false), (10, 7, true), (17, 2, true), (19, 1, false), (20, 1, false), (21, 1, false)] }
  | 41 => some { size := 1, agg := false, bytes := 24, zero := [.nil], elem := 45, sl := true }
  | 44 => some { size := 15, agg := true, bytes := 168, zero := [.d (.v (.int .i64 0)), .d (.v (.int .i64 0)), .d (.v (.int .i64 0)), .d (.v (.int .i64 0)), .nil, .nil, .d (.v (.int .i64 0)), .d (.v (.int .i64 0)), .d (.v (.int .i64 0)), .d (.v (.int .i64 0)), .d (.v (.int .i64 0)), .d (.v (.int .i64 0)), .d (.v (.int .i64 0)), .d (.v (.int .i64 0)), .nil], fields := [(0, 1, false), (1, 1, false), (2, 1, false), (3, 1, false), (4, 1, false), (5, 1, false), (6, 1, false), (7, 1, false), (8, 1, false), (9, 2, true), (11, 2, true), (13, 1, false), (14, 1, false)] }
  | 45 => some { size := 15, agg := true, bytes := 168, zero := [.d (.v (.int .i64 0)), .d (.v (.int .i64 0)), .d (.v (.int .i64 0)), .d (.v (.int .i64 0)), .nil, .nil, .d (.v (.int .i64 0)), .d (.v (.int .i64 0)), .d (.v (.int .i64 0)), .d (.v (.int .i64 0)), .d (.v (.int .i64 0)), .d (.v (.int .i64 0)), .d (.v (.int .i64 0)), .d (.v (.int .i64 0)), .nil], fields := [(0, 1, false), (1, 1, false), (2, 1, false), (3, 1, false), (4, 1, false), (5, 1, false), (6, 1, false), (7, 1, false), (8, 1, false), (9, 2, true), (11, 2, true), (13, 1, false), (14, 1, false)] }
  | 49 => some { size := 1, agg := false, bytes := 24, zero := [.nil], elem := 71, sl := true }
  | 52 => some { size := 1, agg := false, bytes := 24, zero := [.nil], elem := 4, sl := true }
  | 58 => some { size := 1, agg := false, bytes := 24, zero := [.nil], elem := 38, sl := true }
  | 62 => some { size := 4, agg := true, bytes := 32, zero := [.d (.v (.int .i64 0)), .d (.v (.int .i64 0)), .d (.v (.int .i64 0)), .d (.v (.int .i64 0))], fields := [(0, 1, false), (1, 1, false), (2, 1, false), (3, 1, false)], eqs := some [0, 0, 0, 0] }
  | 63 => some { size := 4, agg := true, bytes := 32, zero := [.d (.v (.int .i64 0)), .d (.v (.int .i64 0)), .d (.v (.int .i64 0)), .d (.v (.int .i64 0))], fields := [(0, 1, false), (1, 1, false), (2, 1, false), (3, 1, false)], eqs := some [0, 0, 0, 0] }
  | 70 => some { size := 2, agg := true, bytes := 16, zero := [.d (.v (.int .i64 0)), .d (.v (.int .i64 0))], fields := [(0, 1, false), (1, 1, false)], eqs := some [0, 0] }
  | 71 => some { size := 2, agg := true, bytes := 16, zero := [.d (.v (.int .i64 0)), .d (.v (.int .i64 0))], fields := [(0, 1, false), (1, 1, false)], eqs := some [0, 0] }
  | 83 => some { size := 4, agg := true, bytes := 40, zero := [.d (.v (.int .i64 0)), .d (.v (.int .i64 0)), .d (.v (.int .i64 0)), .d (.v (.string ByteArray.empty))], fields := [(0, 1, false), (1, 1, false), (2, 1, false), (3, 1, false)], eqs := some [0, 0, 0, 2] }
  | 84 => some { size := 4, agg := true, bytes := 40, zero := [.d (.v (.int .i64 0)), .d (.v (.int .i64 0)), .d (.v (.int .i64 0)), .d (.v (.string ByteArray.empty))], fields := [(0, 1, false), (1, 1, false), (2, 1, false), (3, 1, false)], eqs := some [0, 0, 0, 2] }
  | 86 => some { size := 3, agg := true, bytes := 24, zero := [.d (.v (.int .i64 0)), .d (.v (.int .i64 0)), .d (.v (.int .i64 0))], fields := [(0, 1, false), (1, 1, false), (2, 1, false)], eqs := some [0, 0, 0] }
  | 87 => some { size := 3, agg := true, bytes := 24, zero := [.d (.v (.int .i64 0)), .d (.v (.int .i64 0)), .d (.v (.int .i64 0))], fields := [(0, 1, false), (1, 1, false), (2, 1, false)], eqs := some [0, 0, 0] }
  | 90 => some { size := 1, agg := false, bytes := 24, zero := [.nil], elem := 112, sl := true }
  | 91 => some { size := 1, agg := false, bytes := 24, zero := [.nil], elem := 9, sl := true }
  | 92 => some { size := 5, agg := true, bytes := 80, zero := [.d (.v (.int .i64 0)), .d (.v (.string ByteArray.empty)), .nil, .nil, .d (.v (.int .i64 0))], fields := [(0, 1, false), (1, 1, false), (2, 1, false), (3, 1, false), (4, 1, false)] }
  | 93 => some { size := 5, agg := true, bytes := 80, zero := [.d (.v (.int .i64 0)), .d (.v (.string ByteArray.empty)), .nil, .nil, .d (.v (.int .i64 0))], fields := [(0, 1, false), (1, 1, false), (2, 1, false), (3, 1, false), (4, 1, false)] }
  | 94 => some { size := 6, agg := true, bytes := 96, zero := [.d (.v (.string ByteArray.empty)), .d (.v (.int .i64 0)), .d (.v (.string ByteArray.empty)), .nil, .nil, .d (.v (.int .i64 0))], fields := [(0, 1, false), (1, 5, true)] }
  | 95 => some { size := 6, agg := true, bytes := 96, zero := [.d (.v (.string ByteArray.empty)), .d (.v (.int .i64 0)), .d (.v (.string ByteArray.empty)), .nil, .nil, .d (.v (.int .i64 0))], fields := [(0, 1, false), (1, 5, true)] }
  | 97 => some { size := 7, agg := true, bytes := 104, zero := [.d (.v (.string ByteArray.empty)), .d (.v (.bool false)), .d (.v (.int .i64 0)), .d (.v (.string ByteArray.empty)), .nil, .nil, .d (.v (.int .i64 0))], fields := [(0, 1, false), (1, 1, false), (2, 5, true)] }
  | 98 => some { size := 7, agg := true, bytes := 104, zero := [.d (.v (.string ByteArray.empty)), .d (.v (.bool false)), .d (.v (.int .i64 0)), .d (.v (.string ByteArray.empty)), .nil, .nil, .d (.v (.int .i64 0))], fields := [(0, 1, false), (1, 1, false), (2, 5, true)] }
  | 105 => some { size := 1, agg := false, bytes := 8, zero := [.d (.v (.int .u64 0))], kind := some .u64 }
  | 111 => some { size := 2, agg := true, bytes := 32, zero := [.d (.v (.string ByteArray.empty)), .d (.v (.string ByteArray.empty))], fields := [(0, 1, false), (1, 1, false)], eqs := some [2, 2] }
  | 112 => some { size := 2, agg := true, bytes := 32, zero := [.d (.v (.string ByteArray.empty)), .d (.v (.string ByteArray.empty))], fields := [(0, 1, false), (1, 1, false)], eqs := some [2, 2] }
  | 121 => some { size := 8, agg := true, bytes := 64, zero := [.d (.v (.int .i64 0)), .d (.v (.int .i64 0)), .d (.v (.int .i64 0)), .d (.v (.int .i64 0)), .d (.v (.int .i64 0)), .d (.v (.int .i64 0)), .d (.v (.int .i64 0)), .d (.v (.int .i64 0))], fields := [(0, 4, true), (4, 4, true)] }
  | 122 => some { size := 8, agg := true, bytes := 64, zero := [.d (.v (.int .i64 0)), .d (.v (.int .i64 0)), .d (.v (.int .i64 0)), .d (.v (.int .i64 0)), .d (.v (.int .i64 0)), .d (.v (.int .i64 0)), .d (.v (.int .i64 0)), .d (.v (.int .i64 0))], fields := [(0, 4, true), (4, 4, true)] }
  | 124 => some { size := 1, agg := false, bytes := 8, zero := [.d (.v (.int .i64 0))], kind := some .i64 }
  | 131 => some { size := 1, agg := false, bytes := 4, zero := [.d (.v (.int .u32 0))], kind := some .u32 }
  | 133 => some { size := 1, agg := false, bytes := 8, zero := [.d (.v (.int .u64 0))], kind := some .u64 }
  | 138 => some { size := 1, agg := false, bytes := 8, zero := [.d (.v (.int .u64 0))], kind := some .u64 }
  | 165 => some { size := 1, agg := false, bytes := 1, zero := [.d (.v (.int .u8 0))], kind := some .u8 }
  | 166 => some { size := 1, agg := false, bytes := 1, zero := [.d (.v (.int .u8 0))], kind := some .u8 }
  | 169 => some { size := 1, agg := false, bytes := 4, zero := [.d (.v (.int .i32 0))], kind := some .i32 }
  | 170 => some { size := 1, agg := false, bytes := 4, zero := [.d (.v (.int .i32 0))], kind := some .i32 }
  | _ => none
theorem tt_2 : tt 2 = some { size := 1, agg := false, bytes := 8, zero := [.d (.v (.int .i64 0))], kind := some .i64 } := rfl
theorem tt_3 : tt 3 = some { size := 1, agg := false, bytes := 8, zero := [.d (.v (.int .i64 0))], kind := some .i64 } := rfl
theorem tt_4 : tt 4 = some { size := 1, agg := false, bytes := 1, zero := [.d (.v (.bool false))], cls := 1 } := rfl
theorem tt_5 : tt 5 = some { size := 1, agg := false, bytes := 1, zero := [.d (.v (.int .u8 0))], kind := some .u8 } := rfl
theorem tt_6 : tt 6 = some { size := 1, agg := false, bytes := 1, zero := [.d (.v (.int .u8 0))], kind := some .u8 } := rfl
theorem tt_7 : tt 7 = some { size := 4, agg := true, bytes := 24, zero := [.d (.v (.int .i64 0)), .d (.v (.int .i64 0)), .d (.v (.bool false)), .d (.v (.int .u8 0))], fields := [(0, 1, false), (1, 1, false), (2, 1, false), (3, 1, false)], eqs := some [0, 0, 1, 0] } := rfl
theorem tt_8 : tt 8 = some { size := 4, agg := true, bytes := 24, zero := [.d (.v (.int .i64 0)), .d (.v (.int .i64 0)), .d (.v (.bool false)), .d (.v (.int .u8 0))], fields := [(0, 1, false), (1, 1, false), (2, 1, false), (3, 1, false)], eqs := some [0, 0, 1, 0] } := rfl
theorem tt_9 : tt 9 = some { size := 1, agg := false, bytes := 16, zero := [.d (.v (.string ByteArray.empty))], cls := 2 } := rfl
theorem tt_10 : tt 10 = some { size := 1, agg := false, bytes := 16, zero := [.d (.v (.string ByteArray.empty))], cls := 2 } := rfl
theorem tt_11 : tt 11 = some { size := 1, agg := false, bytes := 16, zero := [.d (.v (.string ByteArray.empty))], cls := 2 } := rfl
theorem tt_12 : tt 12 = some { size := 1, agg := false, bytes := 8, zero := [.d (.v (.int .u64 0))], kind := some .u64 } := rfl
theorem tt_13 : tt 13 = some { size := 2, agg := true, bytes := 24, zero := [.d (.v (.string ByteArray.empty)), .d (.v (.int .u64 0))], fields := [(0, 1, false), (1, 1, false)] } := rfl
theorem tt_14 : tt 14 = some { size := 2, agg := true, bytes := 24, zero := [.d (.v (.string ByteArray.empty)), .d (.v (.int .u64 0))], fields := [(0, 1, false), (1, 1, false)] } := rfl
theorem tt_21 : tt 21 = some { size := 1, agg := false, bytes := 4, zero := [.d (.v (.int .i32 0))], kind := some .i32 } := rfl
theorem tt_22 : tt 22 = some { size := 1, agg := false, bytes := 24, zero := [.nil], elem := 5, sl := true } := rfl
theorem tt_24 : tt 24 = some { size := 1, agg := false, bytes := 24, zero := [.nil], elem := 63, sl := true } := rfl
theorem tt_25 : tt 25 = some { size := 1, agg := false, bytes := 24, zero := [.nil], elem := 95, sl := true } := rfl
theorem tt_26 : tt 26 = some { size := 1, agg := false, bytes := 24, zero := [.nil], elem := 84, sl := true } := rfl
theorem tt_27 : tt 27 = some { size := 1, agg := false, bytes := 24, zero := [.nil], elem := 87, sl := true } := rfl
theorem tt_28 : tt 28 = some { size := 2, agg := true, bytes := 16, zero := [.d (.v (.int .i64 0)), .d (.v (.int .i64 0))], fields := [(0, 1, false), (1, 1, false)], eqs := some [0, 0] } := rfl
theorem tt_29 : tt 29 = some { size := 2, agg := true, bytes := 16, zero := [.d (.v (.int .i64 0)), .d (.v (.int .i64 0))], fields := [(0, 1, false), (1, 1, false)], eqs := some [0, 0] } := rfl
theorem tt_30 : tt 30 = some { size := 1, agg := false, bytes := 24, zero := [.nil], elem := 98, sl := true } := rfl
theorem tt_31 : tt 31 = some { size := 7, agg := true, bytes := 72, zero := [.d (.v (.int .i64 0)), .d (.v (.int .i64 0)), .d (.v (.int .i64 0)), .nil, .d (.v (.int .i64 0)), .d (.v (.int .i64 0)), .d (.v (.int .i64 0))], fields := [(0, 2, true), (2, 1, false), (3, 1, false), (4, 2, true), (6, 1, false)] } := rfl
theorem tt_32 : tt 32 = some { size := 7, agg := true, bytes := 72, zero := [.d (.v (.int .i64 0)), .d (.v (.int .i64 0)), .d (.v (.int .i64 0)), .nil, .d (.v (.int .i64 0)), .d (.v (.int .i64 0)), .d (.v (.int .i64 0))], fields := [(0, 2, true), (2, 1, false), (3, 1, false), (4, 2, true), (6, 1, false)] } := rfl
theorem tt_33 : tt 33 = some { size := 1, agg := false, bytes := 24, zero := [.nil], elem := 3, sl := true } := rfl
theorem tt_34 : tt 34 = some { size := 1, agg := false, bytes := 24, zero := [.nil], elem := 33, sl := true } := rfl
theorem tt_35 : tt 35 = some { size := 2, agg := true, bytes := 48, zero := [.nil, .nil], fields := [(0, 1, false), (1, 1, false)] } := rfl
theorem tt_36 : tt 36 = some { size := 2, agg := true, bytes := 48, zero := [.nil, .nil], fields := [(0, 1, false), (1, 1, false)] } := rfl
theorem tt_37 : tt 37 = some { size := 22, agg := true, bytes := 304, zero := [.d (.v (.int .i64 0)), .d (.v (.int .i64 0)), .d (.v (.int .i64 0)), .d (.v (.int .i64 0)), .d (.v (.int .i64 0)), .nil, .nil, .nil, .d (.v (.int .i64 0)), .nil, .d (.v (.int .i64 0)), .d (.v (.int .i64 0)), .d (.v (.int .i64 0)), .nil, .d (.v (.int .i64 0)), .d (.v (.int .i64 0)), .d (.v (.int .i64 0)), .nil, .nil, .d (.v (.int .i64 0)), .nil, .d (.v (.int .i64 0))], fields := [(0, 1, false), (1, 1, false), (2, 1, false), (3, 1, false), (4, 1, false), (5, 1, false), (6, 1, false), (7, 1, false), (8, 1, false), (9, 1, false), (10, 7, true), (17, 2, true), (19, 1, false), (20, 1, false), (21, 1, false)] } := rfl
theorem tt_38 : tt 38 = some { size := 22, agg := true, bytes := 304, zero := [.d (.v (.int .i64 0)), .d (.v (.int .i64 0)), .d (.v (.int .i64 0)), .d (.v (.int .i64 0)), .d (.v (.int .i64 0)), .nil, .nil, .nil, .d (.v (.int .i64 0)), .nil, .d (.v (.int .i64 0)), .d (.v (.int .i64 0)), .d (.v (.int .i64 0)), .nil, .d (.v (.int .i64 0)), .d (.v (.int .i64 0)), .d (.v (.int .i64 0)), .nil, .nil, .d (.v (.int .i64 0)), .nil, .d (.v (.int .i64 0))], fields := [(0, 1, false), (1, 1, false), (2, 1, false), (3, 1, false), (4, 1, false), (5, 1, false), (6, 1, false), (7, 1, false), (8, 1, false), (9, 1, false), (10, 7, true), (17, 2, true), (19, 1, false), (20, 1, false), (21, 1, false)] } := rfl
theorem tt_41 : tt 41 = some { size := 1, agg := false, bytes := 24, zero := [.nil], elem := 45, sl := true } := rfl
theorem tt_44 : tt 44 = some { size := 15, agg := true, bytes := 168, zero := [.d (.v (.int .i64 0)), .d (.v (.int .i64 0)), .d (.v (.int .i64 0)), .d (.v (.int .i64 0)), .nil, .nil, .d (.v (.int .i64 0)), .d (.v (.int .i64 0)), .d (.v (.int .i64 0)), .d (.v (.int .i64 0)), .d (.v (.int .i64 0)), .d (.v (.int .i64 0)), .d (.v (.int .i64 0)), .d (.v (.int .i64 0)), .nil], fields := [(0, 1, false), (1, 1, false), (2, 1, false), (3, 1, false), (4, 1, false), (5, 1, false), (6, 1, false), (7, 1, false), (8, 1, false), (9, 2, true), (11, 2, true), (13, 1, false), (14, 1, false)] } := rfl
theorem tt_45 : tt 45 = some { size := 15, agg := true, bytes := 168, zero := [.d (.v (.int .i64 0)), .d (.v (.int .i64 0)), .d (.v (.int .i64 0)), .d (.v (.int .i64 0)), .nil, .nil, .d (.v (.int .i64 0)), .d (.v (.int .i64 0)), .d (.v (.int .i64 0)), .d (.v (.int .i64 0)), .d (.v (.int .i64 0)), .d (.v (.int .i64 0)), .d (.v (.int .i64 0)), .d (.v (.int .i64 0)), .nil], fields := [(0, 1, false), (1, 1, false), (2, 1, false), (3, 1, false), (4, 1, false), (5, 1, false), (6, 1, false), (7, 1, false), (8, 1, false), (9, 2, true), (11, 2, true), (13, 1, false), (14, 1, false)] } := rfl
theorem tt_49 : tt 49 = some { size := 1, agg := false, bytes := 24, zero := [.nil], elem := 71, sl := true } := rfl
theorem tt_52 : tt 52 = some { size := 1, agg := false, bytes := 24, zero := [.nil], elem := 4, sl := true } := rfl
theorem tt_58 : tt 58 = some { size := 1, agg := false, bytes := 24, zero := [.nil], elem := 38, sl := true } := rfl
theorem tt_62 : tt 62 = some { size := 4, agg := true, bytes := 32, zero := [.d (.v (.int .i64 0)), .d (.v (.int .i64 0)), .d (.v (.int .i64 0)), .d (.v (.int .i64 0))], fields := [(0, 1, false), (1, 1, false), (2, 1, false), (3, 1, false)], eqs := some [0, 0, 0, 0] } := rfl
theorem tt_63 : tt 63 = some { size := 4, agg := true, bytes := 32, zero := [.d (.v (.int .i64 0)), .d (.v (.int .i64 0)), .d (.v (.int .i64 0)), .d (.v (.int .i64 0))], fields := [(0, 1, false), (1, 1, false), (2, 1, false), (3, 1, false)], eqs := some [0, 0, 0, 0] } := rfl
theorem tt_70 : tt 70 = some { size := 2, agg := true, bytes := 16, zero := [.d (.v (.int .i64 0)), .d (.v (.int .i64 0))], fields := [(0, 1, false), (1, 1, false)], eqs := some [0, 0] } := rfl
theorem tt_71 : tt 71 = some { size := 2, agg := true, bytes := 16, zero := [.d (.v (.int .i64 0)), .d (.v (.int .i64 0))], fields := [(0, 1, false), (1, 1, false)], eqs := some [0, 0] } := rfl
theorem tt_83 : tt 83 = some { size := 4, agg := true, bytes := 40, zero := [.d (.v (.int .i64 0)), .d (.v (.int .i64 0)), .d (.v (.int .i64 0)), .d (.v (.string ByteArray.empty))], fields := [(0, 1, false), (1, 1, false), (2, 1, false), (3, 1, false)], eqs := some [0, 0, 0, 2] } := rfl
theorem tt_84 : tt 84 = some { size := 4, agg := true, bytes := 40, zero := [.d (.v (.int .i64 0)), .d (.v (.int .i64 0)), .d (.v (.int .i64 0)), .d (.v (.string ByteArray.empty))], fields := [(0, 1, false), (1, 1, false), (2, 1, false), (3, 1, false)], eqs := some [0, 0, 0, 2] } := rfl
theorem tt_86 : tt 86 = some { size := 3, agg := true, bytes := 24, zero := [.d (.v (.int .i64 0)), .d (.v (.int .i64 0)), .d (.v (.int .i64 0))], fields := [(0, 1, false), (1, 1, false), (2, 1, false)], eqs := some [0, 0, 0] } := rfl
theorem tt_87 : tt 87 = some { size := 3, agg := true, bytes := 24, zero := [.d (.v (.int .i64 0)), .d (.v (.int .i64 0)), .d (.v (.int .i64 0))], fields := [(0, 1, false), (1, 1, false), (2, 1, false)], eqs := some [0, 0, 0] } := rfl
theorem tt_90 : tt 90 = some { size := 1, agg := false, bytes := 24, zero := [.nil], elem := 112, sl := true } := rfl
theorem tt_91 : tt 91 = some { size := 1, agg := false, bytes := 24, zero := [.nil], elem := 9, sl := true } := rfl
theorem tt_92 : tt 92 = some { size := 5, agg := true, bytes := 80, zero := [.d (.v (.int .i64 0)), .d (.v (.string ByteArray.empty)), .nil, .nil, .d (.v (.int .i64 0))], fields := [(0, 1, false), (1, 1, false), (2, 1, false), (3, 1, false), (4, 1, false)] } := rfl
theorem tt_93 : tt 93 = some { size := 5, agg := true, bytes := 80, zero := [.d (.v (.int .i64 0)), .d (.v (.string ByteArray.empty)), .nil, .nil, .d (.v (.int .i64 0))], fields := [(0, 1, false), (1, 1, false), (2, 1, false), (3, 1, false), (4, 1, false)] } := rfl
theorem tt_94 : tt 94 = some { size := 6, agg := true, bytes := 96, zero := [.d (.v (.string ByteArray.empty)), .d (.v (.int .i64 0)), .d (.v (.string ByteArray.empty)), .nil, .nil, .d (.v (.int .i64 0))], fields := [(0, 1, false), (1, 5, true)] } := rfl
theorem tt_95 : tt 95 = some { size := 6, agg := true, bytes := 96, zero := [.d (.v (.string ByteArray.empty)), .d (.v (.int .i64 0)), .d (.v (.string ByteArray.empty)), .nil, .nil, .d (.v (.int .i64 0))], fields := [(0, 1, false), (1, 5, true)] } := rfl
theorem tt_97 : tt 97 = some { size := 7, agg := true, bytes := 104, zero := [.d (.v (.string ByteArray.empty)), .d (.v (.bool false)), .d (.v (.int .i64 0)), .d (.v (.string ByteArray.empty)), .nil, .nil, .d (.v (.int .i64 0))], fields := [(0, 1, false), (1, 1, false), (2, 5, true)] } := rfl
theorem tt_98 : tt 98 = some { size := 7, agg := true, bytes := 104, zero := [.d (.v (.string ByteArray.empty)), .d (.v (.bool false)), .d (.v (.int .i64 0)), .d (.v (.string ByteArray.empty)), .nil, .nil, .d (.v (.int .i64 0))], fields := [(0, 1, false), (1, 1, false), (2, 5, true)] } := rfl
theorem tt_105 : tt 105 = some { size := 1, agg := false, bytes := 8, zero := [.d (.v (.int .u64 0))], kind := some .u64 } := rfl
theorem tt_111 : tt 111 = some { size := 2, agg := true, bytes := 32, zero := [.d (.v (.string ByteArray.empty)), .d (.v (.string ByteArray.empty))], fields := [(0, 1, false), (1, 1, false)], eqs := some [2, 2] } := rfl
theorem tt_112 : tt 112 = some { size := 2, agg := true, bytes := 32, zero := [.d (.v (.string ByteArray.empty)), .d (.v (.string ByteArray.empty))], fields := [(0, 1, false), (1, 1, false)], eqs := some [2, 2] } := rfl
theorem tt_121 : tt 121 = some { size := 8, agg := true, bytes := 64, zero := [.d (.v (.int .i64 0)), .d (.v (.int .i64 0)), .d (.v (.int .i64 0)), .d (.v (.int .i64 0)), .d (.v (.int .i64 0)), .d (.v (.int .i64 0)), .d (.v (.int .i64 0)), .d (.v (.int .i64 0))], fields := [(0, 4, true), (4, 4, true)] } := rfl
theorem tt_122 : tt 122 = some { size := 8, agg := true, bytes := 64, zero := [.d (.v (.int .i64 0)), .d (.v (.int .i64 0)), .d (.v (.int .i64 0)), .d (.v (.int .i64 0)), .d (.v (.int .i64 0)), .d (.v (.int .i64 0)), .d (.v (.int .i64 0)), .d (.v (.int .i64 0))], fields := [(0, 4, true), (4, 4, true)] } := rfl
theorem tt_124 : tt 124 = some { size := 1, agg := false, bytes := 8, zero := [.d (.v (.int .i64 0))], kind := some .i64 } := rfl
theorem tt_131 : tt 131 = some { size := 1, agg := false, bytes := 4, zero := [.d (.v (.int .u32 0))], kind := some .u32 } := rfl
theorem tt_133 : tt 133 = some { size := 1, agg := false, bytes := 8, zero := [.d (.v (.int .u64 0))], kind := some .u64 } := rfl
theorem tt_138 : tt 138 = some { size := 1, agg := false, bytes := 8, zero := [.d (.v (.int .u64 0))], kind := some .u64 } := rfl
theorem tt_165 : tt 165 = some { size := 1, agg := false, bytes := 1, zero := [.d (.v (.int .u8 0))], kind := some .u8 } := rfl
theorem tt_166 : tt 166 = some { size := 1, agg := false, bytes := 1, zero := [.d (.v (.int .u8 0))], kind := some .u8 } := rfl
theorem tt_169 : tt 169 = some { size := 1, agg := false, bytes := 4, zero := [.d (.v (.int .i32 0))], kind := some .i32 } := rfl
theorem tt_170 : tt 170 = some { size := 1, agg := false, bytes := 4, zero := [.d (.v (.int .i32 0))], kind := some .i32 } := rfl
end Go.Proofs.Ytoclhejbhefgeaa
