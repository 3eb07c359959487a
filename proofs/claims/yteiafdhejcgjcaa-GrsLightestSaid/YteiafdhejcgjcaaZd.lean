/- The ghost code of some functions. -/
import Derived.Test.YteiafdhejcgjcaaProg
import Derived.Test.YteiafdhejcgjcaaZc
namespace Go.Proofs.Yteiafdhejcgjcaa.Gh
open Go Go.RowKit
def B_ref18_Check : GCode :=
  (.seq (.region [⟨(some 1), .box (.t 0), none⟩,
    ⟨(some 2), .mov (.c (.int .i64 0)), none⟩])
  (.seq (.region [⟨(some 8), .fieldAddr 4 (.t 1), none⟩,
    ⟨(some 9), .load none (.t 8), none⟩,
    ⟨(some 10), .len (.t 9), none⟩,
    ⟨(some 3), .mov (.t 10), none⟩])
  (.seq (.block 0 (.seq (.region [⟨(some 12), .fieldAddr 0 (.t 1), none⟩,
    ⟨(some 13), .load (some 3) (.t 12), none⟩,
    ⟨(some 14), .call fid_ref04_Check [(.t 13)], none⟩,
    ⟨(some 15), .bin .neq (.t 14) (.c (.int .i64 0)), none⟩,
    ⟨(some 11), .mov (.t 15), none⟩])
  (.cond (.t 11)
  (.seq (.region [⟨(some 2), .mov (.c (.int .i64 1)), none⟩])
  .ret)
  (.seq (.region [⟨(some 17), .mov (.t 3), none⟩,
    ⟨(some 18), .bin .lss (.t 17) (.c (.int .i64 1)), none⟩,
    ⟨(some 19), .mov (.t 18), none⟩,
    ⟨(some 20), .mov (.t 3), (some (19, false))⟩,
    ⟨(some 21), .bin .gtr (.t 20) (.c (.int .i64 64)), (some (19, false))⟩,
    ⟨(some 22), .pick (.t 19) (.c (.bool true)) (.t 21), none⟩,
    ⟨(some 16), .mov (.t 22), none⟩])
  (.cond (.t 16)
  (.seq (.region [⟨(some 2), .mov (.c (.int .i64 4)), none⟩])
  .ret)
  (.seq (.region [⟨(some 24), .fieldAddr 5 (.t 1), none⟩,
    ⟨(some 25), .load none (.t 24), none⟩,
    ⟨(some 26), .len (.t 25), none⟩,
    ⟨(some 27), .mov (.t 3), none⟩,
    ⟨(some 28), .bin .neq (.t 26) (.t 27), none⟩,
    ⟨(some 23), .mov (.t 28), none⟩])
  (.cond (.t 23)
  (.seq (.region [⟨(some 2), .mov (.c (.int .i64 10)), none⟩])
  .ret)
  .skip)))))))
  (.seq (.seq (.region [⟨(some 4), .mov (.c (.int .i64 0)), none⟩])
  (.block 1 (.loop (.seq (.seq (.region [⟨(some 29), .mov (.t 4), none⟩,
    ⟨(some 30), .mov (.t 3), none⟩,
    ⟨(some 31), .bin .lss (.t 29) (.t 30), none⟩])
  (.cond (.t 31)
  .skip
  (.exit 1)))
  (.seq (.block 2 (.seq (.draw [0, 1, 0, 4, 0, 28, 60, 127, 255, 511, 1023, 2047, 1023, 5119, 1023, 29695, 62463, 131071, 262143, 524287]
    [⟨(some 34), .fieldAddr 0 (.t 1), none⟩,
    ⟨(some 35), .load (some 3) (.t 34), none⟩,
    ⟨(some 36), .fieldAddr 4 (.t 1), none⟩,
    ⟨(some 37), .load none (.t 36), none⟩,
    ⟨(some 38), .mov (.t 4), none⟩,
    ⟨(some 39), .indexAddr 1 (.t 37) (.t 38), none⟩,
    ⟨(some 40), .load none (.t 39), none⟩,
    ⟨(some 41), .call fid_ref04_Is [(.t 35), (.t 40)], none⟩,
    ⟨(some 42), .un .not (.t 41), none⟩,
    ⟨(some 43), .mov (.t 42), none⟩,
    ⟨(some 44), .fieldAddr 0 (.t 1), (some (43, false))⟩,
    ⟨(some 45), .load (some 3) (.t 44), (some (43, false))⟩,
    ⟨(some 46), .fieldAddr 5 (.t 1), (some (43, false))⟩,
    ⟨(some 47), .load none (.t 46), (some (43, false))⟩,
    ⟨(some 48), .mov (.t 4), (some (43, false))⟩,
    ⟨(some 49), .indexAddr 1 (.t 47) (.t 48), (some (43, false))⟩,
    ⟨(some 50), .load none (.t 49), (some (43, false))⟩]
    [⟨(some 51), .call fid_ref04_Is [(.t 45), (.t 50)], (some (43, false))⟩,
    ⟨(some 52), .un .not (.t 51), (some (43, false))⟩,
    ⟨(some 53), .pick (.t 43) (.c (.bool true)) (.t 52), none⟩])
  (.cond (.t 53)
  (.seq (.region [⟨(some 2), .mov (.c (.int .i64 2)), none⟩])
  .ret)
  .skip)))
  (.region [⟨(some 32), .mov (.t 4), none⟩,
    ⟨(some 33), .bin .add (.t 32) (.c (.int .i64 1)), none⟩,
    ⟨(some 4), .mov (.t 33), none⟩]))))))
  (.seq (.seq (.region [⟨(some 5), .mov (.c (.int .i64 0)), none⟩])
  (.block 3 (.loop (.seq (.seq (.region [⟨(some 54), .mov (.t 5), none⟩,
    ⟨(some 55), .mov (.t 3), none⟩,
    ⟨(some 56), .bin .lss (.t 54) (.t 55), none⟩])
  (.cond (.t 56)
  .skip
  (.exit 3)))
  (.seq (.block 4 (.seq (.region [⟨(some 6), .mov (.c (.int .i64 0)), none⟩])
  (.block 5 (.loop (.seq (.seq (.region [⟨(some 59), .mov (.t 6), none⟩,
    ⟨(some 60), .mov (.t 5), none⟩,
    ⟨(some 61), .bin .lss (.t 59) (.t 60), none⟩])
  (.cond (.t 61)
  .skip
  (.exit 5)))
  (.seq (.block 6 (.seq (.draw [0, 1, 0, 7, 15, 0, 32, 0, 224, 480, 1023]
    [⟨(some 64), .fieldAddr 4 (.t 1), none⟩,
    ⟨(some 65), .load none (.t 64), none⟩,
    ⟨(some 66), .mov (.t 5), none⟩,
    ⟨(some 67), .indexAddr 1 (.t 65) (.t 66), none⟩,
    ⟨(some 68), .load none (.t 67), none⟩,
    ⟨(some 69), .fieldAddr 4 (.t 1), none⟩,
    ⟨(some 70), .load none (.t 69), none⟩,
    ⟨(some 71), .mov (.t 6), none⟩,
    ⟨(some 72), .indexAddr 1 (.t 70) (.t 71), none⟩,
    ⟨(some 73), .load none (.t 72), none⟩]
    [⟨(some 74), .bin .eql (.t 68) (.t 73), none⟩])
  (.cond (.t 74)
  (.seq (.region [⟨(some 2), .mov (.c (.int .i64 18)), none⟩])
  .ret)
  .skip)))
  (.region [⟨(some 62), .mov (.t 6), none⟩,
    ⟨(some 63), .bin .add (.t 62) (.c (.int .i64 1)), none⟩,
    ⟨(some 6), .mov (.t 63), none⟩])))))))
  (.region [⟨(some 57), .mov (.t 5), none⟩,
    ⟨(some 58), .bin .add (.t 57) (.c (.int .i64 1)), none⟩,
    ⟨(some 5), .mov (.t 58), none⟩]))))))
  (.seq (.seq (.region [⟨(some 7), .mov (.c (.int .i64 0)), none⟩])
  (.block 7 (.loop (.seq (.seq (.region [⟨(some 75), .mov (.t 7), none⟩,
    ⟨(some 76), .mov (.t 3), none⟩,
    ⟨(some 77), .bin .lss (.t 75) (.t 76), none⟩])
  (.cond (.t 77)
  .skip
  (.exit 7)))
  (.seq (.block 8 (.seq (.region [⟨(some 80), .fieldAddr 5 (.t 1), none⟩,
    ⟨(some 81), .load none (.t 80), none⟩,
    ⟨(some 82), .mov (.t 7), none⟩,
    ⟨(some 83), .indexAddr 1 (.t 81) (.t 82), none⟩,
    ⟨(some 84), .load none (.t 83), none⟩,
    ⟨(some 85), .bin .eql (.t 84) (.c (.int .i64 0)), none⟩])
  (.cond (.t 85)
  (.seq (.region [⟨(some 2), .mov (.c (.int .i64 7)), none⟩])
  .ret)
  .skip)))
  (.region [⟨(some 78), .mov (.t 7), none⟩,
    ⟨(some 79), .bin .add (.t 78) (.c (.int .i64 1)), none⟩,
    ⟨(some 7), .mov (.t 79), none⟩]))))))
  (.seq (.seq (.region [⟨(some 86), .fieldAddr 3 (.t 1), none⟩,
    ⟨(some 87), .load none (.t 86), none⟩,
    ⟨(some 88), .bin .lss (.t 87) (.c (.int .i64 0)), none⟩,
    ⟨(some 89), .mov (.t 88), none⟩,
    ⟨(some 90), .fieldAddr 3 (.t 1), (some (89, false))⟩,
    ⟨(some 91), .load none (.t 90), (some (89, false))⟩,
    ⟨(some 92), .mov (.t 3), (some (89, false))⟩,
    ⟨(some 93), .bin .gtr (.t 91) (.t 92), (some (89, false))⟩,
    ⟨(some 94), .pick (.t 89) (.c (.bool true)) (.t 93), none⟩])
  (.cond (.t 94)
  (.seq (.region [⟨(some 2), .mov (.c (.int .i64 6)), none⟩])
  .ret)
  .skip))
  (.seq (.region [⟨(some 2), .mov (.c (.int .i64 0)), none⟩])
  .ret))))))))
def F_ref18_Check : GFun := ⟨1, 95, B_ref18_Check, [.t 2]⟩
theorem ok_ref18_Check : okFun Go.Proofs.Try.prog fid_ref18_Check F_ref18_Check = true := by kernel_rfl
def B_ref18_Dual : GCode :=
  (.seq (.region [⟨(some 1), .box (.t 0), none⟩,
    ⟨(some 2), .alloc [.int .i64 0, .int .i64 0, .nil, .int .i64 0, .nil, .nil], none⟩])
  (.seq (.region [⟨(some 8), .fieldAddr 4 (.t 1), none⟩,
    ⟨(some 9), .load none (.t 8), none⟩,
    ⟨(some 10), .len (.t 9), none⟩,
    ⟨(some 3), .mov (.t 10), none⟩])
  (.seq (.region [⟨(some 11), .mov (.t 3), none⟩,
    ⟨(some 12), .mslice (.int .i64 0) 8 (.t 11) (.t 11), none⟩,
    ⟨(some 4), .mov (.t 12), none⟩])
  (.seq (.seq (.region [⟨(some 5), .mov (.c (.int .i64 0)), none⟩])
  (.block 0 (.loop (.seq (.seq (.region [⟨(some 13), .mov (.t 5), none⟩,
    ⟨(some 14), .mov (.t 3), none⟩,
    ⟨(some 15), .bin .lss (.t 13) (.t 14), none⟩])
  (.cond (.t 15)
  .skip
  (.exit 0)))
  (.seq (.block 1 (.seq (.region [⟨(some 18), .fieldAddr 5 (.t 1), none⟩,
    ⟨(some 19), .load none (.t 18), none⟩,
    ⟨(some 20), .mov (.t 5), none⟩,
    ⟨(some 21), .indexAddr 1 (.t 19) (.t 20), none⟩,
    ⟨(some 22), .load none (.t 21), none⟩,
    ⟨(some 6), .mov (.t 22), none⟩])
  (.seq (.seq (.region [⟨(some 7), .mov (.c (.int .i64 0)), none⟩])
  (.block 2 (.loop (.seq (.seq (.region [⟨(some 23), .mov (.t 7), none⟩,
    ⟨(some 24), .mov (.t 3), none⟩,
    ⟨(some 25), .bin .lss (.t 23) (.t 24), none⟩])
  (.cond (.t 25)
  .skip
  (.exit 2)))
  (.seq (.block 3 (.seq (.region [⟨(some 28), .mov (.t 7), none⟩,
    ⟨(some 29), .mov (.t 5), none⟩,
    ⟨(some 30), .bin .neq (.t 28) (.t 29), none⟩])
  (.cond (.t 30)
  (.draw [0, 1, 0, 0, 8, 0, 32, 0, 224, 480, 0, 1024, 0, 7168, 15360, 32760, 65535, 131071]
    [⟨(some 31), .fieldAddr 0 (.t 1), none⟩,
    ⟨(some 32), .load (some 3) (.t 31), none⟩,
    ⟨(some 33), .mov (.t 6), none⟩,
    ⟨(some 34), .fieldAddr 0 (.t 1), none⟩,
    ⟨(some 35), .load (some 3) (.t 34), none⟩,
    ⟨(some 36), .fieldAddr 4 (.t 1), none⟩,
    ⟨(some 37), .load none (.t 36), none⟩,
    ⟨(some 38), .mov (.t 5), none⟩,
    ⟨(some 39), .indexAddr 1 (.t 37) (.t 38), none⟩,
    ⟨(some 40), .load none (.t 39), none⟩,
    ⟨(some 41), .fieldAddr 4 (.t 1), none⟩,
    ⟨(some 42), .load none (.t 41), none⟩,
    ⟨(some 43), .mov (.t 7), none⟩,
    ⟨(some 44), .indexAddr 1 (.t 42) (.t 43), none⟩,
    ⟨(some 45), .load none (.t 44), none⟩,
    ⟨(some 46), .call fid_ref04_Sub [(.t 35), (.t 40), (.t 45)], none⟩]
    [⟨(some 47), .call fid_ref04_Mul [(.t 32), (.t 33), (.t 46)], none⟩,
    ⟨(some 6), .mov (.t 47), none⟩])
  .skip)))
  (.region [⟨(some 26), .mov (.t 7), none⟩,
    ⟨(some 27), .bin .add (.t 26) (.c (.int .i64 1)), none⟩,
    ⟨(some 7), .mov (.t 27), none⟩]))))))
  (.region [⟨(some 48), .mov (.t 4), none⟩,
    ⟨(some 49), .mov (.t 5), none⟩,
    ⟨(some 50), .fieldAddr 0 (.t 1), none⟩,
    ⟨(some 51), .load (some 3) (.t 50), none⟩,
    ⟨(some 52), .mov (.t 6), none⟩,
    ⟨(some 53), .call fid_ref04_Inv [(.t 51), (.t 52)], none⟩,
    ⟨(some 54), .indexAddr 1 (.t 48) (.t 49), none⟩,
    ⟨none, .store 1 (.t 54) (.t 53), none⟩]))))
  (.region [⟨(some 16), .mov (.t 5), none⟩,
    ⟨(some 17), .bin .add (.t 16) (.c (.int .i64 1)), none⟩,
    ⟨(some 5), .mov (.t 17), none⟩]))))))
  (.seq (.region [⟨(some 55), .fieldAddr 0 (.t 1), none⟩,
    ⟨(some 56), .load (some 3) (.t 55), none⟩,
    ⟨(some 57), .mov (.t 3), none⟩,
    ⟨(some 58), .fieldAddr 3 (.t 1), none⟩,
    ⟨(some 59), .load none (.t 58), none⟩,
    ⟨(some 60), .bin .sub (.t 57) (.t 59), none⟩,
    ⟨(some 61), .fieldAddr 4 (.t 1), none⟩,
    ⟨(some 62), .load none (.t 61), none⟩,
    ⟨(some 63), .mov (.t 4), none⟩,
    ⟨(some 64), .build [.int .i64 0, .int .i64 0, .nil, .int .i64 0, .nil, .nil] [(0, 3, (.t 56)), (3, 1, (.t 60)), (4, 1, (.t 62)), (5, 1, (.t 63))], none⟩,
    ⟨none, .store 6 (.t 2) (.t 64), none⟩])
  .ret)))))
def F_ref18_Dual : GFun := ⟨1, 65, B_ref18_Dual, [.cell 2 (some 6)]⟩
theorem ok_ref18_Dual : okFun Go.Proofs.Try.prog fid_ref18_Dual F_ref18_Dual = true := by kernel_rfl
def B_ref18_Elements : GCode :=
  (.seq (.region [⟨(some 4), .box (.t 0), none⟩,
    ⟨(some 8), .mov (.c (.int .i64 0)), none⟩])
  (.seq (.seq (.region [⟨(some 10), .mov (.t 1), none⟩,
    ⟨(some 11), .len (.t 10), none⟩,
    ⟨(some 12), .mov (.t 2), none⟩,
    ⟨(some 13), .bin .neq (.t 11) (.t 12), none⟩])
  (.cond (.t 13)
  (.seq (.region [⟨(some 14), .mov (.t 3), none⟩,
    ⟨(some 8), .mov (.t 14), none⟩])
  .ret)
  .skip))
  (.seq (.seq (.region [⟨(some 9), .mov (.c (.int .i64 0)), none⟩])
  (.block 0 (.loop (.seq (.seq (.region [⟨(some 15), .mov (.t 9), none⟩,
    ⟨(some 16), .mov (.t 2), none⟩,
    ⟨(some 17), .bin .lss (.t 15) (.t 16), none⟩])
  (.cond (.t 17)
  .skip
  (.exit 0)))
  (.seq (.block 1 (.seq (.draw [0, 0, 0, 6, 14, 31, 63]
    [⟨(some 20), .load (some 3) (.t 4), none⟩,
    ⟨(some 21), .mov (.t 1), none⟩,
    ⟨(some 22), .mov (.t 9), none⟩,
    ⟨(some 23), .indexAddr 1 (.t 21) (.t 22), none⟩,
    ⟨(some 24), .load none (.t 23), none⟩]
    [⟨(some 25), .call fid_ref04_Is [(.t 20), (.t 24)], none⟩,
    ⟨(some 26), .un .not (.t 25), none⟩])
  (.cond (.t 26)
  (.seq (.region [⟨(some 8), .mov (.c (.int .i64 2)), none⟩])
  .ret)
  .skip)))
  (.region [⟨(some 18), .mov (.t 9), none⟩,
    ⟨(some 19), .bin .add (.t 18) (.c (.int .i64 1)), none⟩,
    ⟨(some 9), .mov (.t 19), none⟩]))))))
  (.seq (.region [⟨(some 8), .mov (.c (.int .i64 0)), none⟩])
  .ret))))
def F_ref18_Elements : GFun := ⟨4, 27, B_ref18_Elements, [.t 8]⟩
theorem ok_ref18_Elements : okFun Go.Proofs.Try.prog fid_ref18_Elements F_ref18_Elements = true := by kernel_rfl
def B_ref18_Same : GCode :=
  (.seq (.region [⟨(some 2), .box (.t 0), none⟩,
    ⟨(some 3), .box (.t 1), none⟩,
    ⟨(some 4), .mov (.c (.bool false)), none⟩])
  (.seq (.seq (.region [⟨(some 7), .fieldAddr 0 (.t 2), none⟩,
    ⟨(some 8), .load (some 3) (.t 7), none⟩,
    ⟨(some 9), .fieldAddr 0 (.t 3), none⟩,
    ⟨(some 10), .load (some 3) (.t 9), none⟩,
    ⟨(some 11), .call fid_ref04_Same [(.t 8), (.t 10)], none⟩,
    ⟨(some 12), .un .not (.t 11), none⟩,
    ⟨(some 13), .mov (.t 12), none⟩,
    ⟨(some 14), .fieldAddr 3 (.t 2), (some (13, false))⟩,
    ⟨(some 15), .load none (.t 14), (some (13, false))⟩,
    ⟨(some 16), .fieldAddr 3 (.t 3), (some (13, false))⟩,
    ⟨(some 17), .load none (.t 16), (some (13, false))⟩,
    ⟨(some 18), .bin .neq (.t 15) (.t 17), (some (13, false))⟩,
    ⟨(some 19), .pick (.t 13) (.c (.bool true)) (.t 18), none⟩,
    ⟨(some 20), .mov (.t 19), none⟩,
    ⟨(some 21), .fieldAddr 4 (.t 2), (some (20, false))⟩,
    ⟨(some 22), .load none (.t 21), (some (20, false))⟩,
    ⟨(some 23), .len (.t 22), (some (20, false))⟩,
    ⟨(some 24), .fieldAddr 4 (.t 3), (some (20, false))⟩,
    ⟨(some 25), .load none (.t 24), (some (20, false))⟩,
    ⟨(some 26), .len (.t 25), (some (20, false))⟩,
    ⟨(some 27), .bin .neq (.t 23) (.t 26), (some (20, false))⟩,
    ⟨(some 28), .pick (.t 20) (.c (.bool true)) (.t 27), none⟩,
    ⟨(some 29), .mov (.t 28), none⟩,
    ⟨(some 30), .fieldAddr 5 (.t 2), (some (29, false))⟩,
    ⟨(some 31), .load none (.t 30), (some (29, false))⟩,
    ⟨(some 32), .len (.t 31), (some (29, false))⟩,
    ⟨(some 33), .fieldAddr 5 (.t 3), (some (29, false))⟩,
    ⟨(some 34), .load none (.t 33), (some (29, false))⟩,
    ⟨(some 35), .len (.t 34), (some (29, false))⟩,
    ⟨(some 36), .bin .neq (.t 32) (.t 35), (some (29, false))⟩,
    ⟨(some 37), .pick (.t 29) (.c (.bool true)) (.t 36), none⟩])
  (.cond (.t 37)
  (.seq (.region [⟨(some 4), .mov (.c (.bool false)), none⟩])
  .ret)
  .skip))
  (.seq (.seq (.region [⟨(some 5), .mov (.c (.int .i64 0)), none⟩])
  (.block 0 (.loop (.seq (.seq (.region [⟨(some 38), .mov (.t 5), none⟩,
    ⟨(some 39), .fieldAddr 4 (.t 2), none⟩,
    ⟨(some 40), .load none (.t 39), none⟩,
    ⟨(some 41), .len (.t 40), none⟩,
    ⟨(some 42), .bin .lss (.t 38) (.t 41), none⟩])
  (.cond (.t 42)
  .skip
  (.exit 0)))
  (.seq (.block 1 (.seq (.draw [0, 1, 0, 7, 15, 0, 32, 0, 224, 480, 1023]
    [⟨(some 45), .fieldAddr 4 (.t 2), none⟩,
    ⟨(some 46), .load none (.t 45), none⟩,
    ⟨(some 47), .mov (.t 5), none⟩,
    ⟨(some 48), .indexAddr 1 (.t 46) (.t 47), none⟩,
    ⟨(some 49), .load none (.t 48), none⟩,
    ⟨(some 50), .fieldAddr 4 (.t 3), none⟩,
    ⟨(some 51), .load none (.t 50), none⟩,
    ⟨(some 52), .mov (.t 5), none⟩,
    ⟨(some 53), .indexAddr 1 (.t 51) (.t 52), none⟩,
    ⟨(some 54), .load none (.t 53), none⟩]
    [⟨(some 55), .bin .neq (.t 49) (.t 54), none⟩])
  (.cond (.t 55)
  (.seq (.region [⟨(some 4), .mov (.c (.bool false)), none⟩])
  .ret)
  .skip)))
  (.region [⟨(some 43), .mov (.t 5), none⟩,
    ⟨(some 44), .bin .add (.t 43) (.c (.int .i64 1)), none⟩,
    ⟨(some 5), .mov (.t 44), none⟩]))))))
  (.seq (.seq (.region [⟨(some 6), .mov (.c (.int .i64 0)), none⟩])
  (.block 2 (.loop (.seq (.seq (.region [⟨(some 56), .mov (.t 6), none⟩,
    ⟨(some 57), .fieldAddr 5 (.t 2), none⟩,
    ⟨(some 58), .load none (.t 57), none⟩,
    ⟨(some 59), .len (.t 58), none⟩,
    ⟨(some 60), .bin .lss (.t 56) (.t 59), none⟩])
  (.cond (.t 60)
  .skip
  (.exit 2)))
  (.seq (.block 3 (.seq (.draw [0, 1, 0, 7, 15, 0, 32, 0, 224, 480, 1023]
    [⟨(some 63), .fieldAddr 5 (.t 2), none⟩,
    ⟨(some 64), .load none (.t 63), none⟩,
    ⟨(some 65), .mov (.t 6), none⟩,
    ⟨(some 66), .indexAddr 1 (.t 64) (.t 65), none⟩,
    ⟨(some 67), .load none (.t 66), none⟩,
    ⟨(some 68), .fieldAddr 5 (.t 3), none⟩,
    ⟨(some 69), .load none (.t 68), none⟩,
    ⟨(some 70), .mov (.t 6), none⟩,
    ⟨(some 71), .indexAddr 1 (.t 69) (.t 70), none⟩,
    ⟨(some 72), .load none (.t 71), none⟩]
    [⟨(some 73), .bin .neq (.t 67) (.t 72), none⟩])
  (.cond (.t 73)
  (.seq (.region [⟨(some 4), .mov (.c (.bool false)), none⟩])
  .ret)
  .skip)))
  (.region [⟨(some 61), .mov (.t 6), none⟩,
    ⟨(some 62), .bin .add (.t 61) (.c (.int .i64 1)), none⟩,
    ⟨(some 6), .mov (.t 62), none⟩]))))))
  (.seq (.region [⟨(some 4), .mov (.c (.bool true)), none⟩])
  .ret)))))
def F_ref18_Same : GFun := ⟨2, 74, B_ref18_Same, [.t 4]⟩
theorem ok_ref18_Same : okFun Go.Proofs.Try.prog fid_ref18_Same F_ref18_Same = true := by kernel_rfl
def B_ref18_Weight : GCode :=
  (.seq (.region [⟨(some 2), .mov (.c (.int .i64 0)), none⟩])
  (.seq (.region [⟨(some 3), .mov (.c (.int .i64 0)), none⟩])
  (.seq (.seq (.region [⟨(some 4), .mov (.c (.int .i64 0)), none⟩])
  (.block 0 (.loop (.seq (.seq (.region [⟨(some 5), .mov (.t 4), none⟩,
    ⟨(some 6), .mov (.t 0), none⟩,
    ⟨(some 7), .len (.t 6), none⟩,
    ⟨(some 8), .bin .lss (.t 5) (.t 7), none⟩])
  (.cond (.t 8)
  .skip
  (.exit 0)))
  (.seq (.block 1 (.seq (.region [⟨(some 11), .mov (.t 0), none⟩,
    ⟨(some 12), .mov (.t 4), none⟩,
    ⟨(some 13), .indexAddr 1 (.t 11) (.t 12), none⟩,
    ⟨(some 14), .load none (.t 13), none⟩,
    ⟨(some 15), .bin .neq (.t 14) (.c (.int .i64 0)), none⟩])
  (.cond (.t 15)
  (.region [⟨(some 16), .mov (.t 3), none⟩,
    ⟨(some 17), .bin .add (.t 16) (.c (.int .i64 1)), none⟩,
    ⟨(some 3), .mov (.t 17), none⟩])
  .skip)))
  (.region [⟨(some 9), .mov (.t 4), none⟩,
    ⟨(some 10), .bin .add (.t 9) (.c (.int .i64 1)), none⟩,
    ⟨(some 4), .mov (.t 10), none⟩]))))))
  (.seq (.region [⟨(some 18), .mov (.t 3), none⟩,
    ⟨(some 2), .mov (.t 18), none⟩])
  .ret))))
def F_ref18_Weight : GFun := ⟨1, 19, B_ref18_Weight, [.t 2]⟩
theorem ok_ref18_Weight : okFun Go.Proofs.Try.prog fid_ref18_Weight F_ref18_Weight = true := by kernel_rfl
def B_ref18_Word : GCode :=
  (.seq (.region [⟨(some 2), .box (.t 0), none⟩,
    ⟨(some 4), .mov (.c (.nil)), none⟩])
  (.seq (.region [⟨(some 7), .fieldAddr 4 (.t 2), none⟩,
    ⟨(some 8), .load none (.t 7), none⟩,
    ⟨(some 9), .len (.t 8), none⟩,
    ⟨(some 10), .mslice (.int .i64 0) 8 (.t 9) (.t 9), none⟩,
    ⟨(some 5), .mov (.t 10), none⟩])
  (.seq (.seq (.region [⟨(some 6), .mov (.c (.int .i64 0)), none⟩])
  (.block 0 (.loop (.seq (.seq (.region [⟨(some 11), .mov (.t 6), none⟩,
    ⟨(some 12), .mov (.t 5), none⟩,
    ⟨(some 13), .len (.t 12), none⟩,
    ⟨(some 14), .bin .lss (.t 11) (.t 13), none⟩])
  (.cond (.t 14)
  .skip
  (.exit 0)))
  (.seq (.block 1 (.draw [0, 0, 0, 4, 0, 16, 0, 112, 240, 0, 512, 0, 0, 4096, 0, 28672, 61440, 130560, 262140, 524287, 1048575]
    [⟨(some 17), .mov (.t 5), none⟩,
    ⟨(some 18), .mov (.t 6), none⟩,
    ⟨(some 19), .fieldAddr 0 (.t 2), none⟩,
    ⟨(some 20), .load (some 3) (.t 19), none⟩,
    ⟨(some 21), .fieldAddr 5 (.t 2), none⟩,
    ⟨(some 22), .load none (.t 21), none⟩,
    ⟨(some 23), .mov (.t 6), none⟩,
    ⟨(some 24), .indexAddr 1 (.t 22) (.t 23), none⟩,
    ⟨(some 25), .load none (.t 24), none⟩,
    ⟨(some 26), .fieldAddr 0 (.t 2), none⟩,
    ⟨(some 27), .load (some 3) (.t 26), none⟩,
    ⟨(some 28), .mov (.t 1), none⟩,
    ⟨(some 29), .fieldAddr 4 (.t 2), none⟩,
    ⟨(some 30), .load none (.t 29), none⟩,
    ⟨(some 31), .mov (.t 6), none⟩,
    ⟨(some 32), .indexAddr 1 (.t 30) (.t 31), none⟩,
    ⟨(some 33), .load none (.t 32), none⟩,
    ⟨(some 34), .call fid_ref05_Eval [(.t 27), (.t 28), (.t 33)], none⟩,
    ⟨(some 35), .call fid_ref04_Mul [(.t 20), (.t 25), (.t 34)], none⟩]
    [⟨(some 36), .indexAddr 1 (.t 17) (.t 18), none⟩,
    ⟨none, .store 1 (.t 36) (.t 35), none⟩]))
  (.region [⟨(some 15), .mov (.t 6), none⟩,
    ⟨(some 16), .bin .add (.t 15) (.c (.int .i64 1)), none⟩,
    ⟨(some 6), .mov (.t 16), none⟩]))))))
  (.seq (.region [⟨(some 37), .mov (.t 5), none⟩,
    ⟨(some 4), .mov (.t 37), none⟩])
  .ret))))
def F_ref18_Word : GFun := ⟨2, 38, B_ref18_Word, [.t 4]⟩
theorem ok_ref18_Word : okFun Go.Proofs.Try.prog fid_ref18_Word F_ref18_Word = true := by kernel_rfl
def B_ref18_Zero : GCode :=
  (.seq (.region [⟨(some 1), .box (.t 0), none⟩,
    ⟨(some 2), .mov (.c (.bool false)), none⟩])
  (.seq (.region [⟨(some 3), .load (some 6) (.t 1), none⟩,
    ⟨(some 4), .build [.int .i64 0, .int .i64 0, .nil, .int .i64 0, .nil, .nil] [], none⟩,
    ⟨(some 5), .call fid_ref18_Same [(.t 3), (.t 4)], none⟩,
    ⟨(some 2), .mov (.t 5), none⟩])
  .ret))
def F_ref18_Zero : GFun := ⟨1, 6, B_ref18_Zero, [.t 2]⟩
theorem ok_ref18_Zero : okFun Go.Proofs.Try.prog fid_ref18_Zero F_ref18_Zero = true := by kernel_rfl
end Go.Proofs.Yteiafdhejcgjcaa.Gh
/- Descriptions of generalized Reed-Solomon codes: sameness. -/
namespace Go.Proofs.Yteiafdhejcgjcaa.Gh
open Go Go.RowKit
open Alg (CR Ps Dg Zm Mn El Cg sm pw Irr Prm)
set_option linter.unusedVariables false
set_option linter.unusedSimpArgs false

/-- a row that can be read, or nil -/
def Rn (H : Heap) (n : Nat) (a : GV) (m : Nat) (f : Nat → Int) : Prop := Rd H n a m f ∨ (a = .nil ∧ m = 0)
section
variable {H H' : Heap} {n n' m : Nat} {a : GV} {f : Nat → Int}
theorem Rn.sl (m : Nat) (f : Nat → Int) : Rn H n (isl m f) m f := .inl (.sl m f)
theorem Rn.nil (f : Nat → Int) : Rn H n .nil 0 f := .inr ⟨rfl, rfl⟩
theorem Rn.keep (h : Rn H n a m f) (hn : n ≤ n') (hk : ∀ b, b < n → H' b = H b) : Rn H' n' a m f := by
  rcases h with h | h
  · exact .inl (h.keep hn hk)
  · exact .inr h
theorem Rn.len (h : Rn H n a m f) : hlen a = some (.int .i64 (m : Nat)) := by
  rcases h with h | ⟨rfl, rfl⟩
  · exact h.len
  · rfl
theorem Rn.cell (h : Rn H n a m f) : isCell a = true := by
  rcases h with h | ⟨rfl, rfl⟩
  · exact h.cell
  · rfl
theorem Rn.idx (h : Rn H n a m f) (i : Nat) (hi : i < m) : ∃ p, hiaddr 1 a (.int .i64 (i : Nat)) = some p ∧ (∀ (q : Kn) (H' H'' : Heap) (n' : Nat), (∀ b, b < n → H' b = H b) → hcell q H' H'' n' none p = q (.int .i64 (f i)) H'' n') ∧ ∀ (q : Km) (H' : Heap) (n' : Nat), n ≤ n' → (∀ b, b < n → H' b = H b) → hmcell q H' n' none p = q (.int .i64 (f i)) none := by
  rcases h with h | ⟨rfl, rfl⟩
  · exact h.idx i hi
  · omega
end

theorem sp_ref04_Same {H : Heap} {n : Nat} {p m p' m' : Int} {l l' : Nat} {mo mo' : Nat → Int} {a a' : GV} (ha : Rn H n a l mo) (ha' : Rn H n a' l' mo') (hl : l ≤ 1000000) :
    Spec prog fid_ref04_Same [.agg [.int .i64 p, .int .i64 m, a], .agg [.int .i64 p', .int .i64 m', a']] H n (.bool (decide (p = p' ∧ m = m' ∧ l = l' ∧ ∀ i, i < l → mo i = mo' i))) H n := by
  generalize hR : decide (p = p' ∧ m = m' ∧ l = l' ∧ ∀ i, i < l → mo i = mo' i) = R
  refine spec_ends hmix ok_ref04_Same rfl fun hF => ?_
  show gw prog B_ref04_Same _ (tl 45 _) H n
  have hal := ha.len
  have hal' := ha'.len
  have hac := ha.cell
  have hac' := ha'.cell
  have hu : ∀ x y b, b < n → upd (upd H n x) (n + 1) y b = H b := fun x y b hb => by rw [upd_ne _ _ (by omega), upd_ne _ _ (by omega)]
  have f1 : (n = n + 1) = False := eq_false (by omega)
  by_cases hp : p = p'
  case neg =>
    simp -implicitDefEqProofs only [B_ref04_Same, go_sem, Nat.reduceLT, Nat.reduceBEq, Nat.reduceAdd, Nat.reduceEqDiff, Nat.reduceLeDiff, Nat.reduceSub, Nat.reduceMul, hac, hac', upd_no, f1, hp]
    exact fin_ret rfl (by decide) (fz_bool ((hR.symm.trans (decide_eq_false fun h => hp h.1)).symm)) (hu _ _)
  by_cases hm : m = m'
  case neg =>
    simp -implicitDefEqProofs only [B_ref04_Same, go_sem, Nat.reduceLT, Nat.reduceBEq, Nat.reduceAdd, Nat.reduceEqDiff, Nat.reduceLeDiff, Nat.reduceSub, Nat.reduceMul, hac, hac', upd_no, f1, hp, hm]
    exact fin_ret rfl (by decide) (fz_bool ((hR.symm.trans (decide_eq_false fun h => hm h.2.1)).symm)) (hu _ _)
  by_cases hll : l = l'
  case neg =>
    have hlI : ¬ ((l : Int) = (l' : Int)) := by omega
    simp -implicitDefEqProofs only [B_ref04_Same, go_sem, Nat.reduceLT, Nat.reduceBEq, Nat.reduceAdd, Nat.reduceEqDiff, Nat.reduceLeDiff, Nat.reduceSub, Nat.reduceMul, hac, hac', hal, hal', upd_no, f1, hp, hm, hlI]
    exact fin_ret rfl (by decide) (fz_bool ((hR.symm.trans (decide_eq_false fun h => hll h.2.2.1)).symm)) (hu _ _)
  subst hp hm hll
  simp -implicitDefEqProofs only [B_ref04_Same, go_sem, Nat.reduceLT, Nat.reduceBEq, Nat.reduceAdd, Nat.reduceEqDiff, Nat.reduceLeDiff, Nat.reduceSub, Nat.reduceMul, hac, hac', hal, hal', upd_no, f1]
  refine loop_rule (fun (i : Nat) E H' n' => n' = n + 2 ∧ H' n = some [.int .i64 p, .int .i64 m, a] ∧ H' (n + 1) = some [.int .i64 p, .int .i64 m, a'] ∧ (∀ b, b < n → H' b = H b) ∧ E 2 = .ptr n 0 ∧ E 3 = .ptr (n + 1) 0 ∧ E 5 = .int .i64 (i : Nat) ∧ i ≤ l ∧ ∀ j, j < i → mo j = mo' j) (fun i => l - i) 0 ⟨rfl, by simp -implicitDefEqProofs only [go_sem, Nat.reduceLT, Nat.reduceBEq, Nat.reduceAdd, Nat.reduceEqDiff, Nat.reduceLeDiff, Nat.reduceSub, Nat.reduceMul, upd_no, f1], by simp -implicitDefEqProofs only [go_sem, Nat.reduceLT, Nat.reduceBEq, Nat.reduceAdd, Nat.reduceEqDiff, Nat.reduceLeDiff, Nat.reduceSub, Nat.reduceMul], hu _ _, rfl, rfl, rfl, by omega, fun j hj => by omega⟩ ?_
  rintro i E H' n' ⟨rfl, h0, h1, ho, e2, e3, e5, hi, hj⟩
  simp -implicitDefEqProofs only [go_sem, Nat.reduceLT, Nat.reduceBEq, Nat.reduceAdd, Nat.reduceEqDiff, Nat.reduceLeDiff, Nat.reduceSub, Nat.reduceMul, e2, e5, h0, hac, hal]
  refine c_split (fun hc => ?_) (fun hc => ?_)
  · have hiN : i < l := by omega
    have hwi := wrap64 (x := (i : Int) + 1) (by omega)
    obtain ⟨pa, pa1, pa2, pa3⟩ := ha.idx i hiN
    obtain ⟨pb, pb1, pb2, pb3⟩ := ha'.idx i hiN
    have pa4 := fun q => pa3 q H' (n + 2) (by omega) ho
    have pb4 := fun q => pb3 q H' (n + 2) (by omega) ho
    by_cases hx : mo i = mo' i
    · simp -implicitDefEqProofs only [go_sem, Nat.reduceLT, Nat.reduceBEq, Nat.reduceAdd, Nat.reduceEqDiff, Nat.reduceLeDiff, Nat.reduceSub, Nat.reduceMul, e2, e3, e5, h0, h1, hac, hac', pa1, pb1, pa4, pb4, hx, hwi]
      refine l_n ⟨i + 1, by omega, rfl, h0, h1, ho, by simp -implicitDefEqProofs only [go_sem, Nat.reduceLT, Nat.reduceBEq, Nat.reduceAdd, Nat.reduceEqDiff, Nat.reduceLeDiff, Nat.reduceSub, Nat.reduceMul, e2], by simp -implicitDefEqProofs only [go_sem, Nat.reduceLT, Nat.reduceBEq, Nat.reduceAdd, Nat.reduceEqDiff, Nat.reduceLeDiff, Nat.reduceSub, Nat.reduceMul, e3], by simp -implicitDefEqProofs only [go_sem, Nat.reduceLT, Nat.reduceBEq, Nat.reduceAdd, Nat.reduceEqDiff, Nat.reduceLeDiff, Nat.reduceSub, Nat.reduceMul]; rfl, by omega, fun j h1 => ?_⟩
      by_cases e : j = i
      · subst e; exact hx
      · exact hj j (by omega)
    · simp -implicitDefEqProofs only [go_sem, Nat.reduceLT, Nat.reduceBEq, Nat.reduceAdd, Nat.reduceEqDiff, Nat.reduceLeDiff, Nat.reduceSub, Nat.reduceMul, e2, e3, e5, h0, h1, hac, hac', pa1, pb1, pa4, pb4, hx]
      exact fin_ret rfl (by decide) (fz_bool ((hR.symm.trans (decide_eq_false fun h => hx (h.2.2.2 i hiN))).symm)) ho
  · simp -implicitDefEqProofs only [go_sem, Nat.reduceLT, Nat.reduceBEq, Nat.reduceAdd, Nat.reduceEqDiff, Nat.reduceLeDiff, Nat.reduceSub, Nat.reduceMul]
    exact fin_ret rfl (by decide) (fz_bool ((hR.symm.trans (decide_eq_true ⟨rfl, rfl, rfl, fun j h1 => hj j (by omega)⟩)).symm)) ho

/-- a description as it is given -/
structure Gr where
  p : Int
  m : Int
  l : Nat
  mo : Nat → Int
  K : Int
  np : Nat
  x : Nat → Int
  nm : Nat
  v : Nat → Int
abbrev Gr.cs (s : Gr) : List GV := [.int .i64 s.p, .int .i64 s.m, isl s.l s.mo, .int .i64 s.K, isl s.np s.x, isl s.nm s.v]
abbrev Gr.gv (s : Gr) : GV := .agg s.cs
/-- a value that reads as the description s -/
def Rp (H : Heap) (n : Nat) (s : Gr) (g : GV) : Prop := ∃ a b c, g = .agg [.int .i64 s.p, .int .i64 s.m, a, .int .i64 s.K, b, c] ∧ Rn H n a s.l s.mo ∧ Rn H n b s.np s.x ∧ Rn H n c s.nm s.v
theorem Rp.gv {H : Heap} {n : Nat} (s : Gr) : Rp H n s s.gv := ⟨_, _, _, rfl, .sl _ _, .sl _ _, .sl _ _⟩
theorem Rp.keep {H H' : Heap} {n n' : Nat} {s : Gr} {g : GV} (h : Rp H n s g) (hn : n ≤ n') (hk : ∀ b, b < n → H' b = H b) : Rp H' n' s g := by
  obtain ⟨a, b, c, h1, h2, h3, h4⟩ := h
  exact ⟨a, b, c, h1, h2.keep hn hk, h3.keep hn hk, h4.keep hn hk⟩
def Gr.Same (s t : Gr) : Prop := (s.p = t.p ∧ s.m = t.m ∧ s.l = t.l ∧ ∀ i, i < s.l → s.mo i = t.mo i) ∧ s.K = t.K ∧ s.np = t.np ∧ s.nm = t.nm ∧ (∀ i, i < s.np → s.x i = t.x i) ∧ ∀ i, i < s.nm → s.v i = t.v i
noncomputable instance (s t : Gr) : Decidable (s.Same t) := Classical.propDecidable _
theorem sp_ref18_Same {H : Heap} {n : Nat} {s t : Gr} {x y : GV} (hx : Rp H n s x) (hy : Rp H n t y) (hl : s.l ≤ 1000000) (hp : s.np ≤ 1000000) (hm : s.nm ≤ 1000000) :
    Spec prog fid_ref18_Same [x, y] H n (.bool (decide (s.Same t))) H n := by
  obtain ⟨a, b, c, rfl, ha, hb, hc⟩ := hx
  obtain ⟨a', b', c', rfl, ha', hb', hc'⟩ := hy
  refine spec_ends hmix ok_ref18_Same rfl fun hF => ?_
  show gw prog B_ref18_Same _ (tl 74 _) H n
  have hac := ha.cell
  have hac' := ha'.cell
  have hbc := hb.cell
  have hbc' := hb'.cell
  have hcc := hc.cell
  have hcc' := hc'.cell
  have hbl := hb.len
  have hbl' := hb'.len
  have hcl := hc.len
  have hcl' := hc'.len
  have hu : ∀ x y b, b < n → upd (upd H n x) (n + 1) y b = H b := fun x y b hb => by rw [upd_ne _ _ (by omega), upd_ne _ _ (by omega)]
  have f1 : (n = n + 1) = False := eq_false (by omega)
  simp -implicitDefEqProofs only [B_ref18_Same, go_sem, Nat.reduceLT, Nat.reduceBEq, Nat.reduceAdd, Nat.reduceEqDiff, Nat.reduceLeDiff, Nat.reduceSub, Nat.reduceMul, hac, hac', hbc, hbc', hcc, hcc', upd_no, f1]
  refine call_of (sp_ref04_Same (ha.keep (by omega) (hu _ _)) (ha'.keep (by omega) (hu _ _)) hl) ?_
  by_cases hS : s.p = t.p ∧ s.m = t.m ∧ s.l = t.l ∧ ∀ i, i < s.l → s.mo i = t.mo i
  case neg =>
    rw [decide_eq_false hS]
    simp -implicitDefEqProofs only [go_sem, Nat.reduceLT, Nat.reduceBEq, Nat.reduceAdd, Nat.reduceEqDiff, Nat.reduceLeDiff, Nat.reduceSub, Nat.reduceMul]
    exact fin_ret rfl (by decide) (fz_bool (decide_eq_false fun h => hS h.1).symm) (hu _ _)
  rw [decide_eq_true hS]
  by_cases hK : s.K = t.K
  case neg =>
    simp -implicitDefEqProofs only [go_sem, Nat.reduceLT, Nat.reduceBEq, Nat.reduceAdd, Nat.reduceEqDiff, Nat.reduceLeDiff, Nat.reduceSub, Nat.reduceMul, hac, hac', hbc, hbc', hcc, hcc', upd_no, f1, hK]
    exact fin_ret rfl (by decide) (fz_bool (decide_eq_false fun h => hK h.2.1).symm) (hu _ _)
  by_cases hnp : s.np = t.np
  case neg =>
    have hI : ¬ ((s.np : Int) = (t.np : Int)) := by omega
    simp -implicitDefEqProofs only [go_sem, Nat.reduceLT, Nat.reduceBEq, Nat.reduceAdd, Nat.reduceEqDiff, Nat.reduceLeDiff, Nat.reduceSub, Nat.reduceMul, hac, hac', hbc, hbc', hcc, hcc', hbl, hbl', upd_no, f1, hK, hI]
    exact fin_ret rfl (by decide) (fz_bool (decide_eq_false fun h => hnp h.2.2.1).symm) (hu _ _)
  by_cases hnm : s.nm = t.nm
  case neg =>
    have hI : ¬ ((s.nm : Int) = (t.nm : Int)) := by omega
    simp -implicitDefEqProofs only [go_sem, Nat.reduceLT, Nat.reduceBEq, Nat.reduceAdd, Nat.reduceEqDiff, Nat.reduceLeDiff, Nat.reduceSub, Nat.reduceMul, hac, hac', hbc, hbc', hcc, hcc', hbl, hbl', hcl, hcl', upd_no, f1, hK, hnp, hI]
    exact fin_ret rfl (by decide) (fz_bool (decide_eq_false fun h => hnm h.2.2.2.1).symm) (hu _ _)
  simp -implicitDefEqProofs only [go_sem, Nat.reduceLT, Nat.reduceBEq, Nat.reduceAdd, Nat.reduceEqDiff, Nat.reduceLeDiff, Nat.reduceSub, Nat.reduceMul, hac, hac', hbc, hbc', hcc, hcc', hbl, hbl', hcl, hcl', upd_no, f1, hK, hnp, hnm]
  refine loop_rule (fun (i : Nat) E H' n' => n' = n + 2 ∧ H' n = some [.int .i64 s.p, .int .i64 s.m, a, .int .i64 s.K, b, c] ∧ H' (n + 1) = some [.int .i64 t.p, .int .i64 t.m, a', .int .i64 t.K, b', c'] ∧ (∀ b, b < n → H' b = H b) ∧ E 2 = .ptr n 0 ∧ E 3 = .ptr (n + 1) 0 ∧ E 5 = .int .i64 (i : Nat) ∧ i ≤ s.np ∧ ∀ j, j < i → s.x j = t.x j) (fun i => s.np - i) 0 ⟨rfl, by simp -implicitDefEqProofs only [go_sem, Nat.reduceLT, Nat.reduceBEq, Nat.reduceAdd, Nat.reduceEqDiff, Nat.reduceLeDiff, Nat.reduceSub, Nat.reduceMul, upd_no, f1, hK], by simp -implicitDefEqProofs only [go_sem, Nat.reduceLT, Nat.reduceBEq, Nat.reduceAdd, Nat.reduceEqDiff, Nat.reduceLeDiff, Nat.reduceSub, Nat.reduceMul], hu _ _, rfl, rfl, rfl, by omega, fun j hj => by omega⟩ ?_
  rintro i E H' n' ⟨rfl, h0, h1, ho, e2, e3, e5, hi, hj⟩
  simp -implicitDefEqProofs only [go_sem, Nat.reduceLT, Nat.reduceBEq, Nat.reduceAdd, Nat.reduceEqDiff, Nat.reduceLeDiff, Nat.reduceSub, Nat.reduceMul, e2, e5, h0, hac, hbc, hcc, hbl]
  refine c_split (fun hlt => ?_) (fun hlt => ?_)
  · have hiN : i < s.np := by omega
    have hwi := wrap64 (x := (i : Int) + 1) (by omega)
    obtain ⟨pa, pa1, pa2, pa3⟩ := hb.idx i hiN
    obtain ⟨pb, pb1, pb2, pb3⟩ := hb'.idx i (by omega)
    have pa4 := fun q => pa3 q H' (n + 2) (by omega) ho
    have pb4 := fun q => pb3 q H' (n + 2) (by omega) ho
    by_cases hx : s.x i = t.x i
    · simp -implicitDefEqProofs only [go_sem, Nat.reduceLT, Nat.reduceBEq, Nat.reduceAdd, Nat.reduceEqDiff, Nat.reduceLeDiff, Nat.reduceSub, Nat.reduceMul, e2, e3, e5, h0, h1, hac, hac', hbc, hbc', hcc, hcc', pa1, pb1, pa4, pb4, hx, hwi]
      refine l_n ⟨i + 1, by omega, rfl, h0, h1, ho, by simp -implicitDefEqProofs only [go_sem, Nat.reduceLT, Nat.reduceBEq, Nat.reduceAdd, Nat.reduceEqDiff, Nat.reduceLeDiff, Nat.reduceSub, Nat.reduceMul, e2], by simp -implicitDefEqProofs only [go_sem, Nat.reduceLT, Nat.reduceBEq, Nat.reduceAdd, Nat.reduceEqDiff, Nat.reduceLeDiff, Nat.reduceSub, Nat.reduceMul, e3], by simp -implicitDefEqProofs only [go_sem, Nat.reduceLT, Nat.reduceBEq, Nat.reduceAdd, Nat.reduceEqDiff, Nat.reduceLeDiff, Nat.reduceSub, Nat.reduceMul]; rfl, by omega, fun j h1 => ?_⟩
      by_cases e : j = i
      · subst e; exact hx
      · exact hj j (by omega)
    · simp -implicitDefEqProofs only [go_sem, Nat.reduceLT, Nat.reduceBEq, Nat.reduceAdd, Nat.reduceEqDiff, Nat.reduceLeDiff, Nat.reduceSub, Nat.reduceMul, e2, e3, e5, h0, h1, hac, hac', hbc, hbc', hcc, hcc', pa1, pb1, pa4, pb4, hx]
      exact fin_ret rfl (by decide) (fz_bool (decide_eq_false fun h => hx (h.2.2.2.2.1 i hiN)).symm) ho
  · have hX : ∀ j, j < s.np → s.x j = t.x j := fun j h1 => hj j (by omega)
    simp -implicitDefEqProofs only [go_sem, Nat.reduceLT, Nat.reduceBEq, Nat.reduceAdd, Nat.reduceEqDiff, Nat.reduceLeDiff, Nat.reduceSub, Nat.reduceMul]
    refine loop_rule (fun (i : Nat) E H' n' => n' = n + 2 ∧ H' n = some [.int .i64 s.p, .int .i64 s.m, a, .int .i64 s.K, b, c] ∧ H' (n + 1) = some [.int .i64 t.p, .int .i64 t.m, a', .int .i64 t.K, b', c'] ∧ (∀ b, b < n → H' b = H b) ∧ E 2 = .ptr n 0 ∧ E 3 = .ptr (n + 1) 0 ∧ E 6 = .int .i64 (i : Nat) ∧ i ≤ s.nm ∧ ∀ j, j < i → s.v j = t.v j) (fun i => s.nm - i) 0 ⟨rfl, h0, h1, ho, by simp -implicitDefEqProofs only [go_sem, Nat.reduceLT, Nat.reduceBEq, Nat.reduceAdd, Nat.reduceEqDiff, Nat.reduceLeDiff, Nat.reduceSub, Nat.reduceMul, e2], by simp -implicitDefEqProofs only [go_sem, Nat.reduceLT, Nat.reduceBEq, Nat.reduceAdd, Nat.reduceEqDiff, Nat.reduceLeDiff, Nat.reduceSub, Nat.reduceMul, e3], by simp -implicitDefEqProofs only [go_sem, Nat.reduceLT, Nat.reduceBEq, Nat.reduceAdd, Nat.reduceEqDiff, Nat.reduceLeDiff, Nat.reduceSub, Nat.reduceMul]; rfl, by omega, fun j hj => by omega⟩ ?_
    clear hj hi e5 e3 e2 ho h0 h1 hlt i E H'
    rintro i E H' n' ⟨rfl, h0, h1, ho, e2, e3, e6, hi, hj⟩
    simp -implicitDefEqProofs only [go_sem, Nat.reduceLT, Nat.reduceBEq, Nat.reduceAdd, Nat.reduceEqDiff, Nat.reduceLeDiff, Nat.reduceSub, Nat.reduceMul, e2, e6, h0, hac, hbc, hcc, hcl]
    refine c_split (fun hlt => ?_) (fun hlt => ?_)
    · have hiN : i < s.nm := by omega
      have hwi := wrap64 (x := (i : Int) + 1) (by omega)
      obtain ⟨pa, pa1, pa2, pa3⟩ := hc.idx i hiN
      obtain ⟨pb, pb1, pb2, pb3⟩ := hc'.idx i (by omega)
      have pa4 := fun q => pa3 q H' (n + 2) (by omega) ho
      have pb4 := fun q => pb3 q H' (n + 2) (by omega) ho
      by_cases hx : s.v i = t.v i
      · simp -implicitDefEqProofs only [go_sem, Nat.reduceLT, Nat.reduceBEq, Nat.reduceAdd, Nat.reduceEqDiff, Nat.reduceLeDiff, Nat.reduceSub, Nat.reduceMul, e2, e3, e6, h0, h1, hac, hac', hbc, hbc', hcc, hcc', pa1, pb1, pa4, pb4, hx, hwi]
        refine l_n ⟨i + 1, by omega, rfl, h0, h1, ho, by simp -implicitDefEqProofs only [go_sem, Nat.reduceLT, Nat.reduceBEq, Nat.reduceAdd, Nat.reduceEqDiff, Nat.reduceLeDiff, Nat.reduceSub, Nat.reduceMul, e2], by simp -implicitDefEqProofs only [go_sem, Nat.reduceLT, Nat.reduceBEq, Nat.reduceAdd, Nat.reduceEqDiff, Nat.reduceLeDiff, Nat.reduceSub, Nat.reduceMul, e3], by simp -implicitDefEqProofs only [go_sem, Nat.reduceLT, Nat.reduceBEq, Nat.reduceAdd, Nat.reduceEqDiff, Nat.reduceLeDiff, Nat.reduceSub, Nat.reduceMul]; rfl, by omega, fun j h1 => ?_⟩
        by_cases e : j = i
        · subst e; exact hx
        · exact hj j (by omega)
      · simp -implicitDefEqProofs only [go_sem, Nat.reduceLT, Nat.reduceBEq, Nat.reduceAdd, Nat.reduceEqDiff, Nat.reduceLeDiff, Nat.reduceSub, Nat.reduceMul, e2, e3, e6, h0, h1, hac, hac', hbc, hbc', hcc, hcc', pa1, pb1, pa4, pb4, hx]
        exact fin_ret rfl (by decide) (fz_bool (decide_eq_false fun h => hx (h.2.2.2.2.2 i hiN)).symm) ho
    · simp -implicitDefEqProofs only [go_sem, Nat.reduceLT, Nat.reduceBEq, Nat.reduceAdd, Nat.reduceEqDiff, Nat.reduceLeDiff, Nat.reduceSub, Nat.reduceMul]
      exact fin_ret rfl (by decide) (fz_bool (decide_eq_true ⟨hS, hK, hnp, hnm, hX, fun j h1 => hj j (by omega)⟩).symm) ho
/-- the empty description -/
def g0 : Gr := ⟨0, 0, 0, fun _ => 0, 0, 0, fun _ => 0, 0, fun _ => 0⟩
theorem sp_ref18_Zero {H : Heap} {n : Nat} {s : Gr} {x : GV} (hx : Rp H n s x) (hs : s.Same g0) : Spec prog fid_ref18_Zero [x] H n (.bool true) H n := by
  have hx' := hx
  obtain ⟨a, b, c, rfl, ha, hb, hc⟩ := hx
  refine spec_ends hmix ok_ref18_Zero rfl fun hF => ?_
  show gw prog B_ref18_Zero _ (tl 6 _) H n
  have hac := ha.cell
  have hbc := hb.cell
  have hcc := hc.cell
  have h1 := hs.1.2.2.1
  have h2 := hs.2.2.1
  have h3 := hs.2.2.2.1
  simp -implicitDefEqProofs only [B_ref18_Zero, go_sem, Nat.reduceLT, Nat.reduceBEq, Nat.reduceAdd, Nat.reduceEqDiff, Nat.reduceLeDiff, Nat.reduceSub, Nat.reduceMul, hac, hbc, hcc]
  have hz : ∀ (H : Heap) (n : Nat), Rp H n g0 (.agg [.int .i64 0, .int .i64 0, .nil, .int .i64 0, .nil, .nil]) := fun H n => ⟨_, _, _, rfl, .nil _, .nil _, .nil _⟩
  refine call_of (sp_ref18_Same (hx'.keep (by omega) fun b hb => upd_ne _ _ (by omega)) (hz _ _) ?_ ?_ ?_) ?_
  · rw [h1]; decide
  · rw [h2]; decide
  · rw [h3]; decide
  rw [decide_eq_true hs]
  simp -implicitDefEqProofs only [go_sem, Nat.reduceLT, Nat.reduceBEq, Nat.reduceAdd, Nat.reduceEqDiff, Nat.reduceLeDiff, Nat.reduceSub, Nat.reduceMul]
  exact fin_ret rfl (by decide) (fz_bool rfl) fun b hb => upd_ne _ _ (by omega)
end Go.Proofs.Yteiafdhejcgjcaa.Gh
/- The ghost code of some functions. -/
namespace Go.Proofs.Yteiafdhejcgjcaa.Gh
open Go Go.RowKit
def B_grs_Check : GCode :=
  (.seq (.region [⟨(some 1), .box (.t 0), none⟩,
    ⟨(some 2), .mov (.c (.int .i64 0)), none⟩])
  (.seq (.region [⟨(some 6), .load (some 6) (.t 1), none⟩,
    ⟨(some 7), .call fid_grs_open [(.t 6)], none⟩,
    ⟨(some 5), .mov (.t 7), none⟩,
    ⟨(some 8), .extract 0 (.t 5), none⟩,
    ⟨(some 9), .extract 1 (.t 5), none⟩,
    ⟨(some 3), .mov (.t 8), none⟩,
    ⟨(some 4), .mov (.t 9), none⟩])
  (.seq (.region [⟨(some 10), .mov (.t 4), none⟩,
    ⟨(some 2), .mov (.t 10), none⟩])
  .ret)))
def F_grs_Check : GFun := ⟨1, 11, B_grs_Check, [.t 2]⟩
theorem ok_grs_Check : okFun Go.Proofs.Try.prog fid_grs_Check F_grs_Check = true := by kernel_rfl
def B_grs_Dual : GCode :=
  (.seq (.region [⟨(some 1), .box (.t 0), none⟩,
    ⟨(some 2), .alloc [.int .i64 0, .int .i64 0, .nil, .int .i64 0, .nil, .nil], none⟩,
    ⟨(some 3), .mov (.c (.int .i64 0)), none⟩])
  (.seq (.region [⟨(some 13), .load (some 6) (.t 1), none⟩,
    ⟨(some 14), .call fid_grs_open [(.t 13)], none⟩,
    ⟨(some 12), .mov (.t 14), none⟩,
    ⟨(some 15), .extract 0 (.t 12), none⟩,
    ⟨(some 16), .extract 1 (.t 12), none⟩,
    ⟨(some 4), .mov (.t 15), none⟩,
    ⟨(some 5), .mov (.t 16), none⟩])
  (.seq (.seq (.region [⟨(some 17), .mov (.t 5), none⟩,
    ⟨(some 18), .bin .neq (.t 17) (.c (.int .i64 0)), none⟩])
  (.cond (.t 18)
  (.seq (.region [⟨(some 19), .build [.int .i64 0, .int .i64 0, .nil, .int .i64 0, .nil, .nil] [], none⟩,
    ⟨(some 20), .mov (.t 5), none⟩,
    ⟨none, .store 6 (.t 2) (.t 19), none⟩,
    ⟨(some 3), .mov (.t 20), none⟩])
  .ret)
  .skip))
  (.seq (.region [⟨(some 21), .mov (.t 4), none⟩,
    ⟨(some 22), .load (some 6) (.t 1), none⟩,
    ⟨(some 23), .call fid_grs_copied [(.t 21), (.t 22)], none⟩,
    ⟨(some 6), .alloc [.int .i64 0, .int .i64 0, .nil, .int .i64 0, .nil, .nil], none⟩,
    ⟨none, .store 6 (.t 6) (.t 23), none⟩])
  (.seq (.region [⟨(some 24), .fieldAddr 4 (.t 1), none⟩,
    ⟨(some 25), .load none (.t 24), none⟩,
    ⟨(some 26), .len (.t 25), none⟩,
    ⟨(some 27), .fieldAddr 3 (.t 1), none⟩,
    ⟨(some 28), .load none (.t 27), none⟩,
    ⟨(some 29), .bin .sub (.t 26) (.t 28), none⟩,
    ⟨(some 30), .fieldAddr 3 (.t 6), none⟩,
    ⟨none, .store 1 (.t 30) (.t 29), none⟩])
  (.seq (.seq (.region [⟨(some 31), .fieldAddr 4 (.t 1), none⟩,
    ⟨(some 32), .load none (.t 31), none⟩,
    ⟨(some 33), .len (.t 32), none⟩,
    ⟨(some 34), .mov (.c (.int .i64 0)), none⟩])
  (.block 0 (.loop (.seq (.region [⟨(some 35), .bin .lss (.t 34) (.t 33), none⟩])
  (.seq (.cond (.t 35)
  .skip
  (.exit 0))
  (.seq (.block 1 (.seq (.region [⟨(some 36), .mov (.t 34), none⟩,
    ⟨(some 37), .indexAddr 1 (.t 32) (.t 34), none⟩,
    ⟨(some 38), .load none (.t 37), none⟩,
    ⟨(some 7), .mov (.t 36), none⟩,
    ⟨(some 8), .mov (.t 38), none⟩])
  (.seq (.region [⟨(some 39), .fieldAddr 5 (.t 1), none⟩,
    ⟨(some 40), .load none (.t 39), none⟩,
    ⟨(some 41), .mov (.t 7), none⟩,
    ⟨(some 42), .indexAddr 1 (.t 40) (.t 41), none⟩,
    ⟨(some 43), .load none (.t 42), none⟩,
    ⟨(some 9), .mov (.t 43), none⟩])
  (.seq (.seq (.region [⟨(some 44), .fieldAddr 4 (.t 1), none⟩,
    ⟨(some 45), .load none (.t 44), none⟩,
    ⟨(some 46), .len (.t 45), none⟩,
    ⟨(some 47), .mov (.c (.int .i64 0)), none⟩])
  (.block 2 (.loop (.seq (.region [⟨(some 48), .bin .lss (.t 47) (.t 46), none⟩])
  (.seq (.cond (.t 48)
  .skip
  (.exit 2))
  (.seq (.block 3 (.seq (.region [⟨(some 49), .mov (.t 47), none⟩,
    ⟨(some 50), .indexAddr 1 (.t 45) (.t 47), none⟩,
    ⟨(some 51), .load none (.t 50), none⟩,
    ⟨(some 10), .mov (.t 49), none⟩,
    ⟨(some 11), .mov (.t 51), none⟩])
  (.seq (.region [⟨(some 52), .mov (.t 10), none⟩,
    ⟨(some 53), .mov (.t 7), none⟩,
    ⟨(some 54), .bin .neq (.t 52) (.t 53), none⟩])
  (.cond (.t 54)
  (.region [⟨(some 55), .mov (.t 4), none⟩,
    ⟨(some 56), .mov (.t 9), none⟩,
    ⟨(some 57), .mov (.t 4), none⟩,
    ⟨(some 58), .mov (.t 8), none⟩,
    ⟨(some 59), .mov (.t 11), none⟩,
    ⟨(some 60), .call fid_field_GF_Sub [(.t 57), (.t 58), (.t 59)], none⟩,
    ⟨(some 61), .call fid_field_GF_Mul [(.t 55), (.t 56), (.t 60)], none⟩,
    ⟨(some 9), .mov (.t 61), none⟩])
  .skip))))
  (.region [⟨(some 62), .bin .add (.t 47) (.c (.int .i64 1)), none⟩,
    ⟨(some 47), .mov (.t 62), none⟩])))))))
  (.draw [0, 1, 0, 0, 0, 24, 56, 120, 120, 255, 767]
    [⟨(some 64), .fieldAddr 5 (.t 6), none⟩,
    ⟨(some 65), .load none (.t 64), none⟩,
    ⟨(some 66), .mov (.t 7), none⟩,
    ⟨(some 67), .mov (.t 4), none⟩,
    ⟨(some 68), .mov (.t 9), none⟩,
    ⟨(some 69), .call fid_field_GF_Inv [(.t 67), (.t 68)], none⟩,
    ⟨(some 63), .mov (.t 69), none⟩,
    ⟨(some 70), .extract 0 (.t 63), none⟩,
    ⟨(some 71), .extract 1 (.t 63), none⟩,
    ⟨(some 72), .indexAddr 1 (.t 65) (.t 66), none⟩]
    [⟨none, .store 1 (.t 72) (.t 70), none⟩])))))
  (.region [⟨(some 73), .bin .add (.t 34) (.c (.int .i64 1)), none⟩,
    ⟨(some 34), .mov (.t 73), none⟩])))))))
  (.seq (.region [⟨(some 74), .load (some 6) (.t 6), none⟩,
    ⟨none, .store 6 (.t 2) (.t 74), none⟩,
    ⟨(some 3), .mov (.c (.int .i64 0)), none⟩])
  .ret)))))))
def F_grs_Dual : GFun := ⟨1, 75, B_grs_Dual, [.cell 2 (some 6), .t 3]⟩
theorem ok_grs_Dual : okFun Go.Proofs.Try.prog fid_grs_Dual F_grs_Dual = true := by kernel_rfl
def B_grs_Encode : GCode :=
  (.seq (.region [⟨(some 2), .box (.t 0), none⟩,
    ⟨(some 4), .mov (.c (.nil)), none⟩,
    ⟨(some 5), .mov (.c (.int .i64 0)), none⟩])
  (.seq (.region [⟨(some 9), .load (some 6) (.t 2), none⟩,
    ⟨(some 10), .call fid_grs_open [(.t 9)], none⟩,
    ⟨(some 8), .mov (.t 10), none⟩,
    ⟨(some 11), .extract 0 (.t 8), none⟩,
    ⟨(some 12), .extract 1 (.t 8), none⟩,
    ⟨(some 6), .mov (.t 11), none⟩,
    ⟨(some 7), .mov (.t 12), none⟩])
  (.seq (.block 0 (.seq (.region [⟨(some 14), .mov (.t 7), none⟩,
    ⟨(some 15), .bin .neq (.t 14) (.c (.int .i64 0)), none⟩,
    ⟨(some 13), .mov (.t 15), none⟩])
  (.cond (.t 13)
  (.seq (.region [⟨(some 16), .mov (.t 7), none⟩,
    ⟨(some 4), .mov (.c (.nil)), none⟩,
    ⟨(some 5), .mov (.t 16), none⟩])
  .ret)
  (.seq (.region [⟨(some 18), .mov (.t 1), none⟩,
    ⟨(some 19), .len (.t 18), none⟩,
    ⟨(some 20), .fieldAddr 3 (.t 2), none⟩,
    ⟨(some 21), .load none (.t 20), none⟩,
    ⟨(some 22), .bin .neq (.t 19) (.t 21), none⟩,
    ⟨(some 17), .mov (.t 22), none⟩])
  (.cond (.t 17)
  (.seq (.region [⟨(some 4), .mov (.c (.nil)), none⟩,
    ⟨(some 5), .mov (.c (.int .i64 3)), none⟩])
  .ret)
  (.seq (.region [⟨(some 24), .mov (.t 6), none⟩,
    ⟨(some 25), .mov (.t 1), none⟩,
    ⟨(some 26), .call fid_grs_elements [(.t 24), (.t 25)], none⟩,
    ⟨(some 27), .un .not (.t 26), none⟩,
    ⟨(some 23), .mov (.t 27), none⟩])
  (.cond (.t 23)
  (.seq (.region [⟨(some 4), .mov (.c (.nil)), none⟩,
    ⟨(some 5), .mov (.c (.int .i64 2)), none⟩])
  .ret)
  .skip)))))))
  (.seq (.region [⟨(some 28), .mov (.t 6), none⟩,
    ⟨(some 29), .load (some 6) (.t 2), none⟩,
    ⟨(some 30), .mov (.t 1), none⟩,
    ⟨(some 31), .call fid_grs_encode [(.t 28), (.t 29), (.t 30)], none⟩,
    ⟨(some 4), .mov (.t 31), none⟩,
    ⟨(some 5), .mov (.c (.int .i64 0)), none⟩])
  .ret))))
def F_grs_Encode : GFun := ⟨2, 32, B_grs_Encode, [.t 4, .t 5]⟩
theorem ok_grs_Encode : okFun Go.Proofs.Try.prog fid_grs_Encode F_grs_Encode = true := by kernel_rfl
def B_grs_Standard : GCode :=
  (.seq (.region [⟨(some 3), .box (.t 0), none⟩,
    ⟨(some 6), .alloc [.int .i64 0, .int .i64 0, .nil, .int .i64 0, .nil, .nil], none⟩,
    ⟨(some 7), .mov (.c (.int .i64 0)), none⟩])
  (.seq (.region [⟨(some 13), .load (some 3) (.t 3), none⟩,
    ⟨(some 14), .call fid_field_New [(.t 13)], none⟩,
    ⟨(some 12), .mov (.t 14), none⟩,
    ⟨(some 15), .extract 0 (.t 12), none⟩,
    ⟨(some 16), .extract 1 (.t 12), none⟩,
    ⟨(some 8), .mov (.t 15), none⟩,
    ⟨(some 9), .mov (.t 16), none⟩])
  (.seq (.block 0 (.seq (.region [⟨(some 18), .mov (.t 9), none⟩,
    ⟨(some 19), .bin .neq (.t 18) (.c (.int .i64 0)), none⟩,
    ⟨(some 17), .mov (.t 19), none⟩])
  (.cond (.t 17)
  (.seq (.region [⟨(some 20), .build [.int .i64 0, .int .i64 0, .nil, .int .i64 0, .nil, .nil] [], none⟩,
    ⟨(some 21), .mov (.t 9), none⟩,
    ⟨none, .store 6 (.t 6) (.t 20), none⟩,
    ⟨(some 7), .mov (.t 21), none⟩])
  .ret)
  (.seq (.region [⟨(some 23), .mov (.t 1), none⟩,
    ⟨(some 24), .bin .lss (.t 23) (.c (.int .i64 1)), none⟩,
    ⟨(some 25), .mov (.t 24), none⟩,
    ⟨(some 26), .mov (.t 1), (some (25, false))⟩,
    ⟨(some 27), .mov (.t 8), (some (25, false))⟩,
    ⟨(some 28), .call fid_field_GF_Order [(.t 27)], (some (25, false))⟩,
    ⟨(some 29), .mm false (.c (.int .i64 64)) (.t 28), (some (25, false))⟩,
    ⟨(some 30), .bin .gtr (.t 26) (.t 29), (some (25, false))⟩,
    ⟨(some 31), .pick (.t 25) (.c (.bool true)) (.t 30), none⟩,
    ⟨(some 22), .mov (.t 31), none⟩])
  (.cond (.t 22)
  (.seq (.region [⟨(some 32), .build [.int .i64 0, .int .i64 0, .nil, .int .i64 0, .nil, .nil] [], none⟩,
    ⟨none, .store 6 (.t 6) (.t 32), none⟩,
    ⟨(some 7), .mov (.c (.int .i64 4)), none⟩])
  .ret)
  (.seq (.region [⟨(some 34), .mov (.t 2), none⟩,
    ⟨(some 35), .bin .lss (.t 34) (.c (.int .i64 0)), none⟩,
    ⟨(some 36), .mov (.t 35), none⟩,
    ⟨(some 37), .mov (.t 2), (some (36, false))⟩,
    ⟨(some 38), .mov (.t 1), (some (36, false))⟩,
    ⟨(some 39), .bin .gtr (.t 37) (.t 38), (some (36, false))⟩,
    ⟨(some 40), .pick (.t 36) (.c (.bool true)) (.t 39), none⟩,
    ⟨(some 33), .mov (.t 40), none⟩])
  (.cond (.t 33)
  (.seq (.region [⟨(some 41), .build [.int .i64 0, .int .i64 0, .nil, .int .i64 0, .nil, .nil] [], none⟩,
    ⟨none, .store 6 (.t 6) (.t 41), none⟩,
    ⟨(some 7), .mov (.c (.int .i64 6)), none⟩])
  .ret)
  .skip)))))))
  (.seq (.region [⟨(some 42), .mov (.t 8), none⟩,
    ⟨(some 43), .call fid_field_GF_Field [(.t 42)], none⟩,
    ⟨(some 44), .mov (.t 2), none⟩,
    ⟨(some 45), .build [.int .i64 0, .int .i64 0, .nil, .int .i64 0, .nil, .nil] [(0, 3, (.t 43)), (3, 1, (.t 44))], none⟩,
    ⟨(some 10), .alloc [.int .i64 0, .int .i64 0, .nil, .int .i64 0, .nil, .nil], none⟩,
    ⟨none, .store 6 (.t 10) (.t 45), none⟩])
  (.seq (.seq (.region [⟨(some 46), .mov (.t 1), none⟩,
    ⟨(some 47), .mov (.c (.int .i64 0)), none⟩])
  (.block 1 (.loop (.seq (.region [⟨(some 48), .bin .lss (.t 47) (.t 46), none⟩])
  (.seq (.cond (.t 48)
  .skip
  (.exit 1))
  (.seq (.block 2 (.seq (.region [⟨(some 49), .mov (.t 47), none⟩,
    ⟨(some 11), .mov (.t 49), none⟩])
  (.seq (.region [⟨(some 50), .fieldAddr 4 (.t 10), none⟩,
    ⟨(some 51), .load none (.t 50), none⟩,
    ⟨(some 52), .mov (.t 11), none⟩,
    ⟨(some 53), .bslice 1 [.int .i64 0] [(0, 1, (.t 52))], none⟩,
    ⟨(some 54), .append 8 (.t 51) (.t 53), none⟩,
    ⟨(some 55), .fieldAddr 4 (.t 10), none⟩,
    ⟨none, .store 1 (.t 55) (.t 54), none⟩])
  (.region [⟨(some 56), .fieldAddr 5 (.t 10), none⟩,
    ⟨(some 57), .load none (.t 56), none⟩,
    ⟨(some 58), .bslice 1 [.int .i64 0] [(0, 1, (.c (.int .i64 1)))], none⟩,
    ⟨(some 59), .append 8 (.t 57) (.t 58), none⟩,
    ⟨(some 60), .fieldAddr 5 (.t 10), none⟩,
    ⟨none, .store 1 (.t 60) (.t 59), none⟩]))))
  (.region [⟨(some 61), .bin .add (.t 47) (.c (.int .i64 1)), none⟩,
    ⟨(some 47), .mov (.t 61), none⟩])))))))
  (.seq (.region [⟨(some 62), .load (some 6) (.t 10), none⟩,
    ⟨none, .store 6 (.t 6) (.t 62), none⟩,
    ⟨(some 7), .mov (.c (.int .i64 0)), none⟩])
  .ret))))))
def F_grs_Standard : GFun := ⟨3, 63, B_grs_Standard, [.cell 6 (some 6), .t 7]⟩
theorem ok_grs_Standard : okFun Go.Proofs.Try.prog fid_grs_Standard F_grs_Standard = true := by kernel_rfl
def B_grs_copied : GCode :=
  (.seq (.region [⟨(some 3), .box (.t 1), none⟩,
    ⟨(some 4), .alloc [.int .i64 0, .int .i64 0, .nil, .int .i64 0, .nil, .nil], none⟩])
  (.seq (.draw [0, 1, 0, 4, 0, 0, 32, 115, 0, 0, 512, 2035, 4095, 8191]
    [⟨(some 5), .mov (.t 0), none⟩,
    ⟨(some 6), .call fid_field_GF_Field [(.t 5)], none⟩,
    ⟨(some 7), .fieldAddr 3 (.t 3), none⟩,
    ⟨(some 8), .load none (.t 7), none⟩,
    ⟨(some 9), .empty, none⟩,
    ⟨(some 10), .fieldAddr 4 (.t 3), none⟩,
    ⟨(some 11), .load none (.t 10), none⟩,
    ⟨(some 12), .append 8 (.t 9) (.t 11), none⟩,
    ⟨(some 13), .empty, none⟩,
    ⟨(some 14), .fieldAddr 5 (.t 3), none⟩,
    ⟨(some 15), .load none (.t 14), none⟩,
    ⟨(some 16), .append 8 (.t 13) (.t 15), none⟩]
    [⟨(some 17), .build [.int .i64 0, .int .i64 0, .nil, .int .i64 0, .nil, .nil] [(0, 3, (.t 6)), (3, 1, (.t 8)), (4, 1, (.t 12)), (5, 1, (.t 16))], none⟩,
    ⟨none, .store 6 (.t 4) (.t 17), none⟩])
  .ret))
def F_grs_copied : GFun := ⟨2, 18, B_grs_copied, [.cell 4 (some 6)]⟩
theorem ok_grs_copied : okFun Go.Proofs.Try.prog fid_grs_copied F_grs_copied = true := by kernel_rfl
def B_grs_elements : GCode :=
  (.seq (.region [⟨(some 4), .mov (.c (.bool false)), none⟩])
  (.seq (.seq (.region [⟨(some 7), .mov (.t 1), none⟩,
    ⟨(some 8), .len (.t 7), none⟩,
    ⟨(some 9), .mov (.c (.int .i64 0)), none⟩])
  (.block 0 (.loop (.seq (.region [⟨(some 10), .bin .lss (.t 9) (.t 8), none⟩])
  (.seq (.cond (.t 10)
  .skip
  (.exit 0))
  (.seq (.block 1 (.seq (.region [⟨(some 11), .indexAddr 1 (.t 7) (.t 9), none⟩,
    ⟨(some 12), .load none (.t 11), none⟩,
    ⟨(some 6), .mov (.t 12), none⟩])
  (.seq (.region [⟨(some 13), .mov (.t 0), none⟩,
    ⟨(some 14), .mov (.t 6), none⟩,
    ⟨(some 15), .call fid_field_GF_Is [(.t 13), (.t 14)], none⟩,
    ⟨(some 16), .un .not (.t 15), none⟩])
  (.cond (.t 16)
  (.seq (.region [⟨(some 4), .mov (.c (.bool false)), none⟩])
  .ret)
  .skip))))
  (.region [⟨(some 17), .bin .add (.t 9) (.c (.int .i64 1)), none⟩,
    ⟨(some 9), .mov (.t 17), none⟩])))))))
  (.seq (.region [⟨(some 4), .mov (.c (.bool true)), none⟩])
  .ret)))
def F_grs_elements : GFun := ⟨2, 18, B_grs_elements, [.t 4]⟩
theorem ok_grs_elements : okFun Go.Proofs.Try.prog fid_grs_elements F_grs_elements = true := by kernel_rfl
def B_grs_encode : GCode :=
  (.seq (.region [⟨(some 4), .box (.t 1), none⟩,
    ⟨(some 6), .mov (.c (.nil)), none⟩])
  (.seq (.region [⟨(some 10), .fieldAddr 4 (.t 4), none⟩,
    ⟨(some 11), .load none (.t 10), none⟩,
    ⟨(some 12), .len (.t 11), none⟩,
    ⟨(some 13), .mslice (.int .i64 0) 8 (.t 12) (.t 12), none⟩,
    ⟨(some 7), .mov (.t 13), none⟩])
  (.seq (.seq (.region [⟨(some 14), .fieldAddr 4 (.t 4), none⟩,
    ⟨(some 15), .load none (.t 14), none⟩,
    ⟨(some 16), .len (.t 15), none⟩,
    ⟨(some 17), .mov (.c (.int .i64 0)), none⟩])
  (.block 0 (.loop (.seq (.region [⟨(some 18), .bin .lss (.t 17) (.t 16), none⟩])
  (.seq (.cond (.t 18)
  .skip
  (.exit 0))
  (.seq (.block 1 (.seq (.region [⟨(some 19), .mov (.t 17), none⟩,
    ⟨(some 20), .indexAddr 1 (.t 15) (.t 17), none⟩,
    ⟨(some 21), .load none (.t 20), none⟩,
    ⟨(some 8), .mov (.t 19), none⟩,
    ⟨(some 9), .mov (.t 21), none⟩])
  (.draw [0, 0, 0, 0, 8, 0, 56, 120, 0, 0, 0, 1792, 4092, 8191, 16383]
    [⟨(some 22), .mov (.t 7), none⟩,
    ⟨(some 23), .mov (.t 8), none⟩,
    ⟨(some 24), .mov (.t 0), none⟩,
    ⟨(some 25), .fieldAddr 5 (.t 4), none⟩,
    ⟨(some 26), .load none (.t 25), none⟩,
    ⟨(some 27), .mov (.t 8), none⟩,
    ⟨(some 28), .indexAddr 1 (.t 26) (.t 27), none⟩,
    ⟨(some 29), .load none (.t 28), none⟩,
    ⟨(some 30), .mov (.t 0), none⟩,
    ⟨(some 31), .mov (.t 2), none⟩,
    ⟨(some 32), .mov (.t 9), none⟩,
    ⟨(some 33), .call fid_poly_Eval [(.t 30), (.t 31), (.t 32)], none⟩,
    ⟨(some 34), .call fid_field_GF_Mul [(.t 24), (.t 29), (.t 33)], none⟩]
    [⟨(some 35), .indexAddr 1 (.t 22) (.t 23), none⟩,
    ⟨none, .store 1 (.t 35) (.t 34), none⟩])))
  (.region [⟨(some 36), .bin .add (.t 17) (.c (.int .i64 1)), none⟩,
    ⟨(some 17), .mov (.t 36), none⟩])))))))
  (.seq (.region [⟨(some 37), .mov (.t 7), none⟩,
    ⟨(some 6), .mov (.t 37), none⟩])
  .ret))))
def F_grs_encode : GFun := ⟨3, 38, B_grs_encode, [.t 6]⟩
theorem ok_grs_encode : okFun Go.Proofs.Try.prog fid_grs_encode F_grs_encode = true := by kernel_rfl
def B_grs_open : GCode :=
  (.seq (.region [⟨(some 1), .box (.t 0), none⟩,
    ⟨(some 2), .mov (.c (.nilp)), none⟩,
    ⟨(some 3), .mov (.c (.int .i64 0)), none⟩])
  (.seq (.region [⟨(some 10), .fieldAddr 0 (.t 1), none⟩,
    ⟨(some 11), .load (some 3) (.t 10), none⟩,
    ⟨(some 12), .call fid_field_New [(.t 11)], none⟩,
    ⟨(some 9), .mov (.t 12), none⟩,
    ⟨(some 13), .extract 0 (.t 9), none⟩,
    ⟨(some 14), .extract 1 (.t 9), none⟩,
    ⟨(some 4), .mov (.t 13), none⟩,
    ⟨(some 5), .mov (.t 14), none⟩])
  (.seq (.region [⟨(some 15), .fieldAddr 4 (.t 1), none⟩,
    ⟨(some 16), .load none (.t 15), none⟩,
    ⟨(some 17), .len (.t 16), none⟩,
    ⟨(some 6), .mov (.t 17), none⟩])
  (.seq (.block 0 (.seq (.region [⟨(some 19), .mov (.t 5), none⟩,
    ⟨(some 20), .bin .neq (.t 19) (.c (.int .i64 0)), none⟩,
    ⟨(some 18), .mov (.t 20), none⟩])
  (.cond (.t 18)
  (.seq (.region [⟨(some 21), .mov (.t 5), none⟩,
    ⟨(some 2), .mov (.c (.nilp)), none⟩,
    ⟨(some 3), .mov (.t 21), none⟩])
  .ret)
  (.seq (.region [⟨(some 23), .mov (.t 6), none⟩,
    ⟨(some 24), .bin .lss (.t 23) (.c (.int .i64 1)), none⟩,
    ⟨(some 25), .mov (.t 24), none⟩,
    ⟨(some 26), .mov (.t 6), (some (25, false))⟩,
    ⟨(some 27), .bin .gtr (.t 26) (.c (.int .i64 64)), (some (25, false))⟩,
    ⟨(some 28), .pick (.t 25) (.c (.bool true)) (.t 27), none⟩,
    ⟨(some 22), .mov (.t 28), none⟩])
  (.cond (.t 22)
  (.seq (.region [⟨(some 2), .mov (.c (.nilp)), none⟩,
    ⟨(some 3), .mov (.c (.int .i64 4)), none⟩])
  .ret)
  (.seq (.region [⟨(some 30), .fieldAddr 5 (.t 1), none⟩,
    ⟨(some 31), .load none (.t 30), none⟩,
    ⟨(some 32), .len (.t 31), none⟩,
    ⟨(some 33), .mov (.t 6), none⟩,
    ⟨(some 34), .bin .neq (.t 32) (.t 33), none⟩,
    ⟨(some 29), .mov (.t 34), none⟩])
  (.cond (.t 29)
  (.seq (.region [⟨(some 2), .mov (.c (.nilp)), none⟩,
    ⟨(some 3), .mov (.c (.int .i64 10)), none⟩])
  .ret)
  .skip)))))))
  (.seq (.seq (.region [⟨(some 35), .mov (.t 4), none⟩,
    ⟨(some 36), .fieldAddr 4 (.t 1), none⟩,
    ⟨(some 37), .load none (.t 36), none⟩,
    ⟨(some 38), .call fid_grs_elements [(.t 35), (.t 37)], none⟩,
    ⟨(some 39), .un .not (.t 38), none⟩,
    ⟨(some 40), .mov (.t 39), none⟩,
    ⟨(some 41), .mov (.t 4), (some (40, false))⟩,
    ⟨(some 42), .fieldAddr 5 (.t 1), (some (40, false))⟩,
    ⟨(some 43), .load none (.t 42), (some (40, false))⟩,
    ⟨(some 44), .call fid_grs_elements [(.t 41), (.t 43)], (some (40, false))⟩,
    ⟨(some 45), .un .not (.t 44), (some (40, false))⟩,
    ⟨(some 46), .pick (.t 40) (.c (.bool true)) (.t 45), none⟩])
  (.cond (.t 46)
  (.seq (.region [⟨(some 2), .mov (.c (.nilp)), none⟩,
    ⟨(some 3), .mov (.c (.int .i64 2)), none⟩])
  .ret)
  .skip))
  (.seq (.seq (.region [⟨(some 47), .fieldAddr 4 (.t 1), none⟩,
    ⟨(some 48), .load none (.t 47), none⟩,
    ⟨(some 49), .call fid_grs_twice [(.t 48)], none⟩])
  (.cond (.t 49)
  (.seq (.region [⟨(some 2), .mov (.c (.nilp)), none⟩,
    ⟨(some 3), .mov (.c (.int .i64 18)), none⟩])
  .ret)
  .skip))
  (.seq (.seq (.region [⟨(some 50), .fieldAddr 5 (.t 1), none⟩,
    ⟨(some 51), .load none (.t 50), none⟩,
    ⟨(some 52), .len (.t 51), none⟩,
    ⟨(some 53), .mov (.c (.int .i64 0)), none⟩])
  (.block 1 (.loop (.seq (.region [⟨(some 54), .bin .lss (.t 53) (.t 52), none⟩])
  (.seq (.cond (.t 54)
  .skip
  (.exit 1))
  (.seq (.block 2 (.seq (.region [⟨(some 55), .indexAddr 1 (.t 51) (.t 53), none⟩,
    ⟨(some 56), .load none (.t 55), none⟩,
    ⟨(some 8), .mov (.t 56), none⟩])
  (.seq (.region [⟨(some 57), .mov (.t 8), none⟩,
    ⟨(some 58), .bin .eql (.t 57) (.c (.int .i64 0)), none⟩])
  (.cond (.t 58)
  (.seq (.region [⟨(some 2), .mov (.c (.nilp)), none⟩,
    ⟨(some 3), .mov (.c (.int .i64 7)), none⟩])
  .ret)
  .skip))))
  (.region [⟨(some 59), .bin .add (.t 53) (.c (.int .i64 1)), none⟩,
    ⟨(some 53), .mov (.t 59), none⟩])))))))
  (.seq (.seq (.region [⟨(some 60), .fieldAddr 3 (.t 1), none⟩,
    ⟨(some 61), .load none (.t 60), none⟩,
    ⟨(some 62), .bin .lss (.t 61) (.c (.int .i64 0)), none⟩,
    ⟨(some 63), .mov (.t 62), none⟩,
    ⟨(some 64), .fieldAddr 3 (.t 1), (some (63, false))⟩,
    ⟨(some 65), .load none (.t 64), (some (63, false))⟩,
    ⟨(some 66), .mov (.t 6), (some (63, false))⟩,
    ⟨(some 67), .bin .gtr (.t 65) (.t 66), (some (63, false))⟩,
    ⟨(some 68), .pick (.t 63) (.c (.bool true)) (.t 67), none⟩])
  (.cond (.t 68)
  (.seq (.region [⟨(some 2), .mov (.c (.nilp)), none⟩,
    ⟨(some 3), .mov (.c (.int .i64 6)), none⟩])
  .ret)
  .skip))
  (.seq (.region [⟨(some 69), .mov (.t 4), none⟩,
    ⟨(some 2), .mov (.t 69), none⟩,
    ⟨(some 3), .mov (.c (.int .i64 0)), none⟩])
  .ret)))))))))
def F_grs_open : GFun := ⟨1, 70, B_grs_open, [.t 2, .t 3]⟩
theorem ok_grs_open : okFun Go.Proofs.Try.prog fid_grs_open F_grs_open = true := by kernel_rfl
def B_grs_twice : GCode :=
  (.seq (.region [⟨(some 2), .mov (.c (.bool false)), none⟩])
  (.seq (.seq (.region [⟨(some 7), .mov (.t 0), none⟩,
    ⟨(some 8), .len (.t 7), none⟩,
    ⟨(some 9), .mov (.c (.int .i64 0)), none⟩])
  (.block 0 (.loop (.seq (.region [⟨(some 10), .bin .lss (.t 9) (.t 8), none⟩])
  (.seq (.cond (.t 10)
  .skip
  (.exit 0))
  (.seq (.block 1 (.seq (.region [⟨(some 11), .mov (.t 9), none⟩,
    ⟨(some 12), .indexAddr 1 (.t 7) (.t 9), none⟩,
    ⟨(some 13), .load none (.t 12), none⟩,
    ⟨(some 3), .mov (.t 11), none⟩,
    ⟨(some 4), .mov (.t 13), none⟩])
  (.seq (.region [⟨(some 14), .mov (.t 0), none⟩,
    ⟨(some 15), .mov (.t 3), none⟩,
    ⟨(some 16), .slice (.t 14) none (some (.t 15)) none, none⟩,
    ⟨(some 17), .len (.t 16), none⟩,
    ⟨(some 18), .mov (.c (.int .i64 0)), none⟩])
  (.block 2 (.loop (.seq (.region [⟨(some 19), .bin .lss (.t 18) (.t 17), none⟩])
  (.seq (.cond (.t 19)
  .skip
  (.exit 2))
  (.seq (.block 3 (.seq (.region [⟨(some 20), .indexAddr 1 (.t 16) (.t 18), none⟩,
    ⟨(some 21), .load none (.t 20), none⟩,
    ⟨(some 6), .mov (.t 21), none⟩])
  (.seq (.region [⟨(some 22), .mov (.t 4), none⟩,
    ⟨(some 23), .mov (.t 6), none⟩,
    ⟨(some 24), .bin .eql (.t 22) (.t 23), none⟩])
  (.cond (.t 24)
  (.seq (.region [⟨(some 2), .mov (.c (.bool true)), none⟩])
  .ret)
  .skip))))
  (.region [⟨(some 25), .bin .add (.t 18) (.c (.int .i64 1)), none⟩,
    ⟨(some 18), .mov (.t 25), none⟩])))))))))
  (.region [⟨(some 26), .bin .add (.t 9) (.c (.int .i64 1)), none⟩,
    ⟨(some 9), .mov (.t 26), none⟩])))))))
  (.seq (.region [⟨(some 2), .mov (.c (.bool false)), none⟩])
  .ret)))
def F_grs_twice : GFun := ⟨1, 27, B_grs_twice, [.t 2]⟩
theorem ok_grs_twice : okFun Go.Proofs.Try.prog fid_grs_twice F_grs_twice = true := by kernel_rfl
end Go.Proofs.Yteiafdhejcgjcaa.Gh
/- The checks of a description. -/
namespace Go.Proofs.Yteiafdhejcgjcaa.Gh
open Go Go.RowKit
open Alg (CR Ps Dg Zm Mn El Cg sm pw Irr Prm)
set_option linter.unusedVariables false
set_option linter.unusedSimpArgs false

abbrev Gr.Fok (s : Gr) : Prop := Gh.Fok s.p s.m s.l s.mo
abbrev Gr.q (s : Gr) : Int := qo s.p s.m
def Ein (l : Nat) (f : Nat → Int) (q : Int) : Prop := ∀ i, i < l → 0 ≤ f i ∧ f i < q
noncomputable instance (l : Nat) (f : Nat → Int) (q : Int) : Decidable (Ein l f q) := Classical.propDecidable _
def Tw (l : Nat) (f : Nat → Int) : Prop := ∃ i j, i < l ∧ j < i ∧ f i = f j
noncomputable instance (l : Nat) (f : Nat → Int) : Decidable (Tw l f) := Classical.propDecidable _
def Nz (l : Nat) (f : Nat → Int) : Prop := ∀ i, i < l → f i ≠ 0
open Classical in
/-- the code of the first error -/
noncomputable def Gr.ce (s : Gr) : Int := if s.Fok then (if 1 ≤ s.np ∧ s.np ≤ 64 then (if s.nm = s.np then (if Ein s.np s.x s.q ∧ Ein s.np s.v s.q then (if Tw s.np s.x then 18 else (if Nz s.np s.v then (if 0 ≤ s.K ∧ s.K ≤ s.np then 0 else 6) else 7)) else 2) else 10) else 4) else 1
/-- what a good description has -/
structure Gr.Ok (s : Gr) : Prop where
  f : s.Fok
  n1 : 1 ≤ s.np
  n64 : s.np ≤ 64
  nm : s.nm = s.np
  x : Ein s.np s.x s.q
  v : Ein s.np s.v s.q
  tw : ¬ Tw s.np s.x
  nz : Nz s.np s.v
  K0 : 0 ≤ s.K
  Kn : s.K ≤ s.np
theorem Gr.ok {s : Gr} (h : s.ce = 0) : s.Ok := by
  unfold Gr.ce at h
  by_cases h1 : s.Fok
  · rw [if_pos h1] at h
    by_cases h2 : 1 ≤ s.np ∧ s.np ≤ 64
    · rw [if_pos h2] at h
      by_cases h3 : s.nm = s.np
      · rw [if_pos h3] at h
        by_cases h4 : Ein s.np s.x s.q ∧ Ein s.np s.v s.q
        · rw [if_pos h4] at h
          by_cases h5 : Tw s.np s.x
          · rw [if_pos h5] at h; omega
          · rw [if_neg h5] at h
            by_cases h6 : Nz s.np s.v
            · rw [if_pos h6] at h
              by_cases h7 : 0 ≤ s.K ∧ s.K ≤ s.np
              · exact ⟨h1, h2.1, h2.2, h3, h4.1, h4.2, h5, h6, h7.1, h7.2⟩
              · rw [if_neg h7] at h; omega
            · rw [if_neg h6] at h; omega
        · rw [if_neg h4] at h; omega
      · rw [if_neg h3] at h; omega
    · rw [if_neg h2] at h; omega
  · rw [if_neg h1] at h; omega
theorem Gr.Ok.ce {s : Gr} (h : s.Ok) : s.ce = 0 := by
  rw [Gr.ce, if_pos h.f, if_pos ⟨h.n1, h.n64⟩, if_pos h.nm, if_pos ⟨h.x, h.v⟩, if_neg h.tw, if_pos h.nz, if_pos ⟨h.K0, h.Kn⟩]
theorem Gr.ce_fail {s : Gr} (h : ¬ s.Fok) : s.ce = 1 := by rw [Gr.ce, if_neg h]
abbrev Gr.Des (s : Gr) {k : Nat} (M : Mn k) : Prop := Gh.Des s.p s.m s.l s.mo M
theorem Gr.cases (s : Gr) : (∃ (k : Nat) (M : Mn k) (_ : Fi M), s.Des M) ∨ ¬ s.Fok := fok_cases s.p s.m s.l s.mo
theorem Gr.Des.qo {s : Gr} {k : Nat} {M : Mn k} (d : s.Des M) (h : Fi M) : s.q = (qn M : Nat) := by
  have := h.fc.qo'
  rw [← d.hp, ← d.hm] at this
  exact this

theorem sp_ref18_Check {H : Heap} {n : Nat} (s : Gr) (hn : s.np ≤ 1000000) : Spec prog fid_ref18_Check [s.gv] H n (.int .i64 s.ce) H n := by
  refine spec_ends hmix ok_ref18_Check rfl fun hF => ?_
  show gw prog B_ref18_Check _ (tl 95 _) H n
  have fin : ∀ (E : Env) (H' : Heap) (n' : Nat) (v : Int), E 2 = .int .i64 v → s.ce = v → (∀ b, b < n → H' b = H b) → F_ref18_Check.ends H n (.int .i64 s.ce) .ret (tl 95 E) H' n' := by
    intro E H' n' v h2 hv ho
    refine fin_ret rfl (by decide) ?_ ho
    rw [h2]; exact fz_int hv.symm
  have hu : ∀ x b, b < n → upd H n x b = H b := fun x b hb => upd_ne _ _ (by omega)
  simp -implicitDefEqProofs only [B_ref18_Check, go_sem, Nat.reduceLT, Nat.reduceBEq, Nat.reduceAdd, Nat.reduceEqDiff, Nat.reduceLeDiff, Nat.reduceSub, Nat.reduceMul]
  refine call_of (sp_ref04_Check' s.p s.m s.l s.mo) ?_
  by_cases hA : s.Fok
  case neg =>
    have hA' : ¬ Fok s.p s.m s.l s.mo := hA
    have h10 : ((1 : Int) = 0) = False := by simp
    simp -implicitDefEqProofs only [go_sem, Nat.reduceLT, Nat.reduceBEq, Nat.reduceAdd, Nat.reduceEqDiff, Nat.reduceLeDiff, Nat.reduceSub, Nat.reduceMul, hA', h10]
    exact fin _ _ _ 1 (by simp -implicitDefEqProofs only [go_sem, Nat.reduceLT, Nat.reduceBEq, Nat.reduceAdd, Nat.reduceEqDiff, Nat.reduceLeDiff, Nat.reduceSub, Nat.reduceMul]) (if_neg hA) (hu _)
  have hA' : Fok s.p s.m s.l s.mo := hA
  by_cases h1 : (s.np : Int) < 1
  · simp -implicitDefEqProofs only [go_sem, Nat.reduceLT, Nat.reduceBEq, Nat.reduceAdd, Nat.reduceEqDiff, Nat.reduceLeDiff, Nat.reduceSub, Nat.reduceMul, hA', h1]
    exact fin _ _ _ 4 (by simp -implicitDefEqProofs only [go_sem, Nat.reduceLT, Nat.reduceBEq, Nat.reduceAdd, Nat.reduceEqDiff, Nat.reduceLeDiff, Nat.reduceSub, Nat.reduceMul]) (by rw [Gr.ce, if_pos hA, if_neg fun h => by omega]) (hu _)
  by_cases h2 : (64 : Int) < (s.np : Int)
  · simp -implicitDefEqProofs only [go_sem, Nat.reduceLT, Nat.reduceBEq, Nat.reduceAdd, Nat.reduceEqDiff, Nat.reduceLeDiff, Nat.reduceSub, Nat.reduceMul, hA', h1, h2]
    exact fin _ _ _ 4 (by simp -implicitDefEqProofs only [go_sem, Nat.reduceLT, Nat.reduceBEq, Nat.reduceAdd, Nat.reduceEqDiff, Nat.reduceLeDiff, Nat.reduceSub, Nat.reduceMul]) (by rw [Gr.ce, if_pos hA, if_neg fun h => by omega]) (hu _)
  have hr : 1 ≤ s.np ∧ s.np ≤ 64 := ⟨by omega, by omega⟩
  by_cases h3 : (s.nm : Int) = (s.np : Int)
  case neg =>
    simp -implicitDefEqProofs only [go_sem, Nat.reduceLT, Nat.reduceBEq, Nat.reduceAdd, Nat.reduceEqDiff, Nat.reduceLeDiff, Nat.reduceSub, Nat.reduceMul, hA', h1, h2, h3]
    exact fin _ _ _ 10 (by simp -implicitDefEqProofs only [go_sem, Nat.reduceLT, Nat.reduceBEq, Nat.reduceAdd, Nat.reduceEqDiff, Nat.reduceLeDiff, Nat.reduceSub, Nat.reduceMul]) (by rw [Gr.ce, if_pos hA, if_pos hr, if_neg fun h => h3 (by omega)]) (hu _)
  have h3' : s.nm = s.np := by omega
  simp -implicitDefEqProofs only [go_sem, Nat.reduceLT, Nat.reduceBEq, Nat.reduceAdd, Nat.reduceEqDiff, Nat.reduceLeDiff, Nat.reduceSub, Nat.reduceMul, hA', h1, h2, h3]
  refine loop_rule (fun (i : Nat) E H' n' => n' = n + 1 ∧ H' n = some s.cs ∧ (∀ b, b < n → H' b = H b) ∧ E 1 = .ptr n 0 ∧ E 3 = .int .i64 (s.np : Nat) ∧ E 4 = .int .i64 (i : Nat) ∧ i ≤ s.np ∧ ∀ t, t < i → (0 ≤ s.x t ∧ s.x t < s.q) ∧ (0 ≤ s.v t ∧ s.v t < s.q)) (fun i => s.np - i) 0 ⟨rfl, by simp -implicitDefEqProofs only [go_sem, Nat.reduceLT, Nat.reduceBEq, Nat.reduceAdd, Nat.reduceEqDiff, Nat.reduceLeDiff, Nat.reduceSub, Nat.reduceMul], hu _, rfl, rfl, rfl, by omega, fun t ht => by omega⟩ ?_
  rintro i E H' n' ⟨rfl, h0, ho, e1, e3, e4, hi, hj⟩
  simp -implicitDefEqProofs only [go_sem, Nat.reduceLT, Nat.reduceBEq, Nat.reduceAdd, Nat.reduceEqDiff, Nat.reduceLeDiff, Nat.reduceSub, Nat.reduceMul, e3, e4]
  refine c_split (fun hlt => ?_) (fun hlt => ?_)
  · have hiN : i < s.np := by omega
    have hiM : i < s.nm := by omega
    have hltM : (i : Int) < (s.nm : Int) := by omega
    have hwi := wrap64 (x := (i : Int) + 1) (by omega)
    simp -implicitDefEqProofs only [go_sem, Nat.reduceLT, Nat.reduceBEq, Nat.reduceAdd, Nat.reduceEqDiff, Nat.reduceLeDiff, Nat.reduceSub, Nat.reduceMul, e1, e4, h0, hlt, hiN, gat_tab]
    refine mcall_of (.bool _) (fun H1 n1 _ _ => sp_ref04_Is s.p s.m _ rfl (s.x i)) ?_
    by_cases hx : 0 ≤ s.x i ∧ s.x i < s.q
    · rw [decide_eq_true hx]
      simp -implicitDefEqProofs only [go_sem, Nat.reduceLT, Nat.reduceBEq, Nat.reduceAdd, Nat.reduceEqDiff, Nat.reduceLeDiff, Nat.reduceSub, Nat.reduceMul, e1, e4, h0, hlt, hltM, hiM, gat_tab]
      refine call_of (sp_ref04_Is s.p s.m _ rfl (s.v i)) ?_
      by_cases hv : 0 ≤ s.v i ∧ s.v i < s.q
      · rw [decide_eq_true hv]
        simp -implicitDefEqProofs only [go_sem, Nat.reduceLT, Nat.reduceBEq, Nat.reduceAdd, Nat.reduceEqDiff, Nat.reduceLeDiff, Nat.reduceSub, Nat.reduceMul, e4, hwi]
        refine l_n ⟨i + 1, by omega, rfl, h0, ho, by simp -implicitDefEqProofs only [go_sem, Nat.reduceLT, Nat.reduceBEq, Nat.reduceAdd, Nat.reduceEqDiff, Nat.reduceLeDiff, Nat.reduceSub, Nat.reduceMul, e1], by simp -implicitDefEqProofs only [go_sem, Nat.reduceLT, Nat.reduceBEq, Nat.reduceAdd, Nat.reduceEqDiff, Nat.reduceLeDiff, Nat.reduceSub, Nat.reduceMul, e3], by simp -implicitDefEqProofs only [go_sem, Nat.reduceLT, Nat.reduceBEq, Nat.reduceAdd, Nat.reduceEqDiff, Nat.reduceLeDiff, Nat.reduceSub, Nat.reduceMul]; rfl, by omega, fun t ht => ?_⟩
        by_cases et : t = i
        · subst et; exact ⟨hx, hv⟩
        · exact hj t (by omega)
      · rw [decide_eq_false hv]
        simp -implicitDefEqProofs only [go_sem, Nat.reduceLT, Nat.reduceBEq, Nat.reduceAdd, Nat.reduceEqDiff, Nat.reduceLeDiff, Nat.reduceSub, Nat.reduceMul]
        exact fin _ _ _ 2 (by simp -implicitDefEqProofs only [go_sem, Nat.reduceLT, Nat.reduceBEq, Nat.reduceAdd, Nat.reduceEqDiff, Nat.reduceLeDiff, Nat.reduceSub, Nat.reduceMul]) (by rw [Gr.ce, if_pos hA, if_pos hr, if_pos h3', if_neg fun h => hv (h.2 i hiN)]) ho
    · rw [decide_eq_false hx]
      simp -implicitDefEqProofs only [go_sem, Nat.reduceLT, Nat.reduceBEq, Nat.reduceAdd, Nat.reduceEqDiff, Nat.reduceLeDiff, Nat.reduceSub, Nat.reduceMul]
      exact fin _ _ _ 2 (by simp -implicitDefEqProofs only [go_sem, Nat.reduceLT, Nat.reduceBEq, Nat.reduceAdd, Nat.reduceEqDiff, Nat.reduceLeDiff, Nat.reduceSub, Nat.reduceMul]) (by rw [Gr.ce, if_pos hA, if_pos hr, if_pos h3', if_neg fun h => hx (h.1 i hiN)]) ho
  have hEl : Ein s.np s.x s.q ∧ Ein s.np s.v s.q := ⟨fun t ht => (hj t (by omega)).1, fun t ht => (hj t (by omega)).2⟩
  clear hj hi e4 hlt
  simp -implicitDefEqProofs only [go_sem, Nat.reduceLT, Nat.reduceBEq, Nat.reduceAdd, Nat.reduceEqDiff, Nat.reduceLeDiff, Nat.reduceSub, Nat.reduceMul]
  refine loop_rule (fun (i : Nat) E H' n' => n' = n + 1 ∧ H' n = some s.cs ∧ (∀ b, b < n → H' b = H b) ∧ E 1 = .ptr n 0 ∧ E 3 = .int .i64 (s.np : Nat) ∧ E 5 = .int .i64 (i : Nat) ∧ i ≤ s.np ∧ ∀ t j, t < i → j < t → s.x t ≠ s.x j) (fun i => s.np - i) 0 ⟨rfl, h0, ho, by simp -implicitDefEqProofs only [go_sem, Nat.reduceLT, Nat.reduceBEq, Nat.reduceAdd, Nat.reduceEqDiff, Nat.reduceLeDiff, Nat.reduceSub, Nat.reduceMul, e1], by simp -implicitDefEqProofs only [go_sem, Nat.reduceLT, Nat.reduceBEq, Nat.reduceAdd, Nat.reduceEqDiff, Nat.reduceLeDiff, Nat.reduceSub, Nat.reduceMul, e3], rfl, by omega, fun t j ht => by omega⟩ ?_
  clear e3 e1 ho h0 i E H'
  rintro i E H' n' ⟨rfl, h0, ho, e1, e3, e5, hi, hj⟩
  simp -implicitDefEqProofs only [go_sem, Nat.reduceLT, Nat.reduceBEq, Nat.reduceAdd, Nat.reduceEqDiff, Nat.reduceLeDiff, Nat.reduceSub, Nat.reduceMul, e3, e5]
  refine c_split (fun hlt => ?_) (fun hlt => ?_)
  · have hiN : i < s.np := by omega
    have hwi := wrap64 (x := (i : Int) + 1) (by omega)
    simp -implicitDefEqProofs only [go_sem, Nat.reduceLT, Nat.reduceBEq, Nat.reduceAdd, Nat.reduceEqDiff, Nat.reduceLeDiff, Nat.reduceSub, Nat.reduceMul]
    refine loop_rule (fun (j : Nat) E H' n' => n' = n + 1 ∧ H' n = some s.cs ∧ (∀ b, b < n → H' b = H b) ∧ E 1 = .ptr n 0 ∧ E 3 = .int .i64 (s.np : Nat) ∧ E 5 = .int .i64 (i : Nat) ∧ E 6 = .int .i64 (j : Nat) ∧ j ≤ i ∧ ∀ t, t < j → s.x i ≠ s.x t) (fun j => i - j) 0 ⟨rfl, h0, ho, by simp -implicitDefEqProofs only [go_sem, Nat.reduceLT, Nat.reduceBEq, Nat.reduceAdd, Nat.reduceEqDiff, Nat.reduceLeDiff, Nat.reduceSub, Nat.reduceMul, e1], by simp -implicitDefEqProofs only [go_sem, Nat.reduceLT, Nat.reduceBEq, Nat.reduceAdd, Nat.reduceEqDiff, Nat.reduceLeDiff, Nat.reduceSub, Nat.reduceMul, e3], by simp -implicitDefEqProofs only [go_sem, Nat.reduceLT, Nat.reduceBEq, Nat.reduceAdd, Nat.reduceEqDiff, Nat.reduceLeDiff, Nat.reduceSub, Nat.reduceMul, e5], rfl, by omega, fun t ht => by omega⟩ ?_
    clear e5 e3 e1 ho h0 E H'
    rintro j E H' n' ⟨rfl, h0, ho, e1, e3, e5, e6, hji, hjj⟩
    simp -implicitDefEqProofs only [go_sem, Nat.reduceLT, Nat.reduceBEq, Nat.reduceAdd, Nat.reduceEqDiff, Nat.reduceLeDiff, Nat.reduceSub, Nat.reduceMul, e5, e6]
    refine c_split (fun hlt' => ?_) (fun hlt' => ?_)
    · have hjN : j < s.np := by omega
      have hjI : (j : Int) < (s.np : Int) := by omega
      have hwj := wrap64 (x := (j : Int) + 1) (by omega)
      by_cases hx : s.x i = s.x j
      · simp -implicitDefEqProofs only [go_sem, Nat.reduceLT, Nat.reduceBEq, Nat.reduceAdd, Nat.reduceEqDiff, Nat.reduceLeDiff, Nat.reduceSub, Nat.reduceMul, e1, e5, e6, h0, hlt, hjI, hiN, hjN, gat_tab, hx]
        exact fin _ _ _ 18 (by simp -implicitDefEqProofs only [go_sem, Nat.reduceLT, Nat.reduceBEq, Nat.reduceAdd, Nat.reduceEqDiff, Nat.reduceLeDiff, Nat.reduceSub, Nat.reduceMul]) (by rw [Gr.ce, if_pos hA, if_pos hr, if_pos h3', if_pos hEl, if_pos ⟨i, j, hiN, by omega, hx⟩]) ho
      · simp -implicitDefEqProofs only [go_sem, Nat.reduceLT, Nat.reduceBEq, Nat.reduceAdd, Nat.reduceEqDiff, Nat.reduceLeDiff, Nat.reduceSub, Nat.reduceMul, e1, e5, e6, h0, hlt, hjI, hiN, hjN, gat_tab, hx, hwj]
        refine l_n ⟨j + 1, by omega, rfl, h0, ho, by simp -implicitDefEqProofs only [go_sem, Nat.reduceLT, Nat.reduceBEq, Nat.reduceAdd, Nat.reduceEqDiff, Nat.reduceLeDiff, Nat.reduceSub, Nat.reduceMul, e1], by simp -implicitDefEqProofs only [go_sem, Nat.reduceLT, Nat.reduceBEq, Nat.reduceAdd, Nat.reduceEqDiff, Nat.reduceLeDiff, Nat.reduceSub, Nat.reduceMul, e3], by simp -implicitDefEqProofs only [go_sem, Nat.reduceLT, Nat.reduceBEq, Nat.reduceAdd, Nat.reduceEqDiff, Nat.reduceLeDiff, Nat.reduceSub, Nat.reduceMul, e5], by simp -implicitDefEqProofs only [go_sem, Nat.reduceLT, Nat.reduceBEq, Nat.reduceAdd, Nat.reduceEqDiff, Nat.reduceLeDiff, Nat.reduceSub, Nat.reduceMul]; rfl, by omega, fun t ht => ?_⟩
        by_cases et : t = j
        · subst et; exact hx
        · exact hjj t (by omega)
    · have : j = i := by omega
      subst this
      simp -implicitDefEqProofs only [go_sem, Nat.reduceLT, Nat.reduceBEq, Nat.reduceAdd, Nat.reduceEqDiff, Nat.reduceLeDiff, Nat.reduceSub, Nat.reduceMul, e5, hwi]
      refine l_n ⟨j + 1, by omega, rfl, h0, ho, by simp -implicitDefEqProofs only [go_sem, Nat.reduceLT, Nat.reduceBEq, Nat.reduceAdd, Nat.reduceEqDiff, Nat.reduceLeDiff, Nat.reduceSub, Nat.reduceMul, e1], by simp -implicitDefEqProofs only [go_sem, Nat.reduceLT, Nat.reduceBEq, Nat.reduceAdd, Nat.reduceEqDiff, Nat.reduceLeDiff, Nat.reduceSub, Nat.reduceMul, e3], by simp -implicitDefEqProofs only [go_sem, Nat.reduceLT, Nat.reduceBEq, Nat.reduceAdd, Nat.reduceEqDiff, Nat.reduceLeDiff, Nat.reduceSub, Nat.reduceMul]; rfl, by omega, fun t u ht hu' => ?_⟩
      by_cases et : t = j
      · subst et; exact hjj u hu'
      · exact hj t u (by omega) hu'
  have hT : ¬ Tw s.np s.x := fun ⟨t, u, h1, h2, h3⟩ => hj t u (by omega) h2 h3
  clear hj hi e5 hlt
  simp -implicitDefEqProofs only [go_sem, Nat.reduceLT, Nat.reduceBEq, Nat.reduceAdd, Nat.reduceEqDiff, Nat.reduceLeDiff, Nat.reduceSub, Nat.reduceMul]
  refine loop_rule (fun (i : Nat) E H' n' => n' = n + 1 ∧ H' n = some s.cs ∧ (∀ b, b < n → H' b = H b) ∧ E 1 = .ptr n 0 ∧ E 3 = .int .i64 (s.np : Nat) ∧ E 7 = .int .i64 (i : Nat) ∧ i ≤ s.np ∧ ∀ t, t < i → s.v t ≠ 0) (fun i => s.np - i) 0 ⟨rfl, h0, ho, by simp -implicitDefEqProofs only [go_sem, Nat.reduceLT, Nat.reduceBEq, Nat.reduceAdd, Nat.reduceEqDiff, Nat.reduceLeDiff, Nat.reduceSub, Nat.reduceMul, e1], by simp -implicitDefEqProofs only [go_sem, Nat.reduceLT, Nat.reduceBEq, Nat.reduceAdd, Nat.reduceEqDiff, Nat.reduceLeDiff, Nat.reduceSub, Nat.reduceMul, e3], rfl, by omega, fun t ht => by omega⟩ ?_
  clear e3 e1 ho h0 i E H'
  rintro i E H' n' ⟨rfl, h0, ho, e1, e3, e7, hi, hj⟩
  simp -implicitDefEqProofs only [go_sem, Nat.reduceLT, Nat.reduceBEq, Nat.reduceAdd, Nat.reduceEqDiff, Nat.reduceLeDiff, Nat.reduceSub, Nat.reduceMul, e3, e7]
  refine c_split (fun hlt => ?_) (fun hlt => ?_)
  · have hiM : i < s.nm := by omega
    have hltM : (i : Int) < (s.nm : Int) := by omega
    have hwi := wrap64 (x := (i : Int) + 1) (by omega)
    by_cases hv : s.v i = 0
    · simp -implicitDefEqProofs only [go_sem, Nat.reduceLT, Nat.reduceBEq, Nat.reduceAdd, Nat.reduceEqDiff, Nat.reduceLeDiff, Nat.reduceSub, Nat.reduceMul, e1, e7, h0, hltM, hiM, gat_tab, hv]
      exact fin _ _ _ 7 (by simp -implicitDefEqProofs only [go_sem, Nat.reduceLT, Nat.reduceBEq, Nat.reduceAdd, Nat.reduceEqDiff, Nat.reduceLeDiff, Nat.reduceSub, Nat.reduceMul]) (by rw [Gr.ce, if_pos hA, if_pos hr, if_pos h3', if_pos hEl, if_neg hT, if_neg fun h => h i (by omega) hv]) ho
    · simp -implicitDefEqProofs only [go_sem, Nat.reduceLT, Nat.reduceBEq, Nat.reduceAdd, Nat.reduceEqDiff, Nat.reduceLeDiff, Nat.reduceSub, Nat.reduceMul, e1, e7, h0, hltM, hiM, gat_tab, hv, hwi]
      refine l_n ⟨i + 1, by omega, rfl, h0, ho, by simp -implicitDefEqProofs only [go_sem, Nat.reduceLT, Nat.reduceBEq, Nat.reduceAdd, Nat.reduceEqDiff, Nat.reduceLeDiff, Nat.reduceSub, Nat.reduceMul, e1], by simp -implicitDefEqProofs only [go_sem, Nat.reduceLT, Nat.reduceBEq, Nat.reduceAdd, Nat.reduceEqDiff, Nat.reduceLeDiff, Nat.reduceSub, Nat.reduceMul, e3], by simp -implicitDefEqProofs only [go_sem, Nat.reduceLT, Nat.reduceBEq, Nat.reduceAdd, Nat.reduceEqDiff, Nat.reduceLeDiff, Nat.reduceSub, Nat.reduceMul]; rfl, by omega, fun t ht => ?_⟩
      by_cases et : t = i
      · subst et; exact hv
      · exact hj t (by omega)
  have hN : Nz s.np s.v := fun t ht => hj t (by omega)
  by_cases hK1 : s.K < 0
  · simp -implicitDefEqProofs only [go_sem, Nat.reduceLT, Nat.reduceBEq, Nat.reduceAdd, Nat.reduceEqDiff, Nat.reduceLeDiff, Nat.reduceSub, Nat.reduceMul, e1, h0, hK1]
    exact fin _ _ _ 6 (by simp -implicitDefEqProofs only [go_sem, Nat.reduceLT, Nat.reduceBEq, Nat.reduceAdd, Nat.reduceEqDiff, Nat.reduceLeDiff, Nat.reduceSub, Nat.reduceMul]) (by rw [Gr.ce, if_pos hA, if_pos hr, if_pos h3', if_pos hEl, if_neg hT, if_pos hN, if_neg fun h => by omega]) ho
  by_cases hK2 : (s.np : Int) < s.K
  · simp -implicitDefEqProofs only [go_sem, Nat.reduceLT, Nat.reduceBEq, Nat.reduceAdd, Nat.reduceEqDiff, Nat.reduceLeDiff, Nat.reduceSub, Nat.reduceMul, e1, e3, h0, hK1, hK2]
    exact fin _ _ _ 6 (by simp -implicitDefEqProofs only [go_sem, Nat.reduceLT, Nat.reduceBEq, Nat.reduceAdd, Nat.reduceEqDiff, Nat.reduceLeDiff, Nat.reduceSub, Nat.reduceMul]) (by rw [Gr.ce, if_pos hA, if_pos hr, if_pos h3', if_pos hEl, if_neg hT, if_pos hN, if_neg fun h => by omega]) ho
  simp -implicitDefEqProofs only [go_sem, Nat.reduceLT, Nat.reduceBEq, Nat.reduceAdd, Nat.reduceEqDiff, Nat.reduceLeDiff, Nat.reduceSub, Nat.reduceMul, e1, e3, h0, hK1, hK2]
  exact fin _ _ _ 0 (by simp -implicitDefEqProofs only [go_sem, Nat.reduceLT, Nat.reduceBEq, Nat.reduceAdd, Nat.reduceEqDiff, Nat.reduceLeDiff, Nat.reduceSub, Nat.reduceMul]) (by rw [Gr.ce, if_pos hA, if_pos hr, if_pos h3', if_pos hEl, if_neg hT, if_pos hN, if_pos ⟨by omega, by omega⟩]) ho

theorem sp_ref18_Elements {H : Heap} {n : Nat} (p m : Int) (g : GV) (hg : isCell g = true) (l : Nat) (f : Nat → Int) (N e : Int) (hl : (l : Int) = N → l ≤ 1000000) :
    Spec prog fid_ref18_Elements [fgv p m g, isl l f, .int .i64 N, .int .i64 e] H n (.int .i64 (if (l : Int) = N then (if Ein l f (qo p m) then 0 else 2) else e)) H n := by
  refine spec_ends hmix ok_ref18_Elements rfl fun hF => ?_
  show gw prog B_ref18_Elements _ (tl 27 _) H n
  have hu : ∀ x b, b < n → upd H n x b = H b := fun x b hb => upd_ne _ _ (by omega)
  by_cases hN : (l : Int) = N
  case neg =>
    rw [if_neg hN]
    simp -implicitDefEqProofs only [B_ref18_Elements, go_sem, Nat.reduceLT, Nat.reduceBEq, Nat.reduceAdd, Nat.reduceEqDiff, Nat.reduceLeDiff, Nat.reduceSub, Nat.reduceMul, hg, hN]
    exact fin_ret rfl (by decide) (fz_int rfl) (hu _)
  have hl := hl hN
  subst hN
  rw [if_pos rfl]
  simp -implicitDefEqProofs only [B_ref18_Elements, go_sem, Nat.reduceLT, Nat.reduceBEq, Nat.reduceAdd, Nat.reduceEqDiff, Nat.reduceLeDiff, Nat.reduceSub, Nat.reduceMul, hg]
  refine loop_rule (fun (i : Nat) E H' n' => n' = n + 1 ∧ H' n = some [.int .i64 p, .int .i64 m, g] ∧ (∀ b, b < n → H' b = H b) ∧ E 1 = isl l f ∧ E 2 = .int .i64 (l : Nat) ∧ E 4 = .ptr n 0 ∧ E 9 = .int .i64 (i : Nat) ∧ i ≤ l ∧ ∀ t, t < i → 0 ≤ f t ∧ f t < qo p m) (fun i => l - i) 0 ?_ ?_
  · exact ⟨rfl, by simp -implicitDefEqProofs only [go_sem, Nat.reduceLT, Nat.reduceBEq, Nat.reduceAdd, Nat.reduceEqDiff, Nat.reduceLeDiff, Nat.reduceSub, Nat.reduceMul], hu _, rfl, rfl, rfl, rfl, by omega, fun t ht => by omega⟩
  rintro i E H' n' ⟨rfl, h0, ho, e1, e2, e4, e9, hi, hf⟩
  simp -implicitDefEqProofs only [go_sem, Nat.reduceLT, Nat.reduceBEq, Nat.reduceAdd, Nat.reduceEqDiff, Nat.reduceLeDiff, Nat.reduceSub, Nat.reduceMul, e2, e9]
  refine c_split (fun hc => ?_) (fun hc => ?_)
  · have hiN : i < l := by omega
    have hwi := wrap64 (x := (i : Int) + 1) (by omega)
    simp -implicitDefEqProofs only [go_sem, Nat.reduceLT, Nat.reduceBEq, Nat.reduceAdd, Nat.reduceEqDiff, Nat.reduceLeDiff, Nat.reduceSub, Nat.reduceMul, e1, e4, e9, h0, hc, hiN, gat_tab]
    refine call_of (sp_ref04_Is p m g hg (f i)) ?_
    by_cases hx : 0 ≤ f i ∧ f i < qo p m
    · rw [decide_eq_true hx]
      simp -implicitDefEqProofs only [go_sem, Nat.reduceLT, Nat.reduceBEq, Nat.reduceAdd, Nat.reduceEqDiff, Nat.reduceLeDiff, Nat.reduceSub, Nat.reduceMul, e9, hwi]
      refine l_n ⟨i + 1, by omega, rfl, h0, ho, by simp -implicitDefEqProofs only [go_sem, Nat.reduceLT, Nat.reduceBEq, Nat.reduceAdd, Nat.reduceEqDiff, Nat.reduceLeDiff, Nat.reduceSub, Nat.reduceMul, e1], by simp -implicitDefEqProofs only [go_sem, Nat.reduceLT, Nat.reduceBEq, Nat.reduceAdd, Nat.reduceEqDiff, Nat.reduceLeDiff, Nat.reduceSub, Nat.reduceMul, e2], by simp -implicitDefEqProofs only [go_sem, Nat.reduceLT, Nat.reduceBEq, Nat.reduceAdd, Nat.reduceEqDiff, Nat.reduceLeDiff, Nat.reduceSub, Nat.reduceMul, e4], by simp -implicitDefEqProofs only [go_sem, Nat.reduceLT, Nat.reduceBEq, Nat.reduceAdd, Nat.reduceEqDiff, Nat.reduceLeDiff, Nat.reduceSub, Nat.reduceMul]; rfl, by omega, fun t ht => ?_⟩
      by_cases et : t = i
      · subst et; exact hx
      · exact hf t (by omega)
    · rw [decide_eq_false hx]
      simp -implicitDefEqProofs only [go_sem, Nat.reduceLT, Nat.reduceBEq, Nat.reduceAdd, Nat.reduceEqDiff, Nat.reduceLeDiff, Nat.reduceSub, Nat.reduceMul]
      exact fin_ret rfl (by decide) (fz_int (if_neg fun h => hx (h i hiN)).symm) ho
  · simp -implicitDefEqProofs only [go_sem, Nat.reduceLT, Nat.reduceBEq, Nat.reduceAdd, Nat.reduceEqDiff, Nat.reduceLeDiff, Nat.reduceSub, Nat.reduceMul]
    exact fin_ret rfl (by decide) (fz_int (if_pos fun t ht => hf t (by omega)).symm) ho

theorem sp_grs_elements {H : Heap} {n : Nat} {k : Nat} {M : Mn k} (g : El M) {a : GV} {l : Nat} {f : Nat → Int} (ha : Rd H n a l f) (hl : l ≤ 1000000) :
    Spec prog fid_grs_elements [gfv M g, a] H n (.bool (decide (Ein l f (qn M : Nat)))) H n := by
  refine spec_ends hmix ok_grs_elements rfl fun hF => ?_
  show gw prog B_grs_elements _ (tl 18 _) H n
  have hal := ha.len
  simp -implicitDefEqProofs only [B_grs_elements, go_sem, Nat.reduceLT, Nat.reduceBEq, Nat.reduceAdd, Nat.reduceEqDiff, Nat.reduceLeDiff, Nat.reduceSub, Nat.reduceMul, hal]
  refine loop_rule (fun (i : Nat) E H' n' => H' = H ∧ n' = n ∧ E 0 = gfv M g ∧ E 7 = a ∧ E 8 = .int .i64 (l : Nat) ∧ E 9 = .int .i64 (i : Nat) ∧ i ≤ l ∧ ∀ t, t < i → 0 ≤ f t ∧ f t < (qn M : Nat)) (fun i => l - i) 0 ⟨rfl, rfl, rfl, rfl, rfl, rfl, by omega, fun t ht => by omega⟩ ?_
  rintro i E H' n' ⟨rfl, rfl, e0, e7, e8, e9, hi, hf⟩
  simp -implicitDefEqProofs only [go_sem, Nat.reduceLT, Nat.reduceBEq, Nat.reduceAdd, Nat.reduceEqDiff, Nat.reduceLeDiff, Nat.reduceSub, Nat.reduceMul, e8, e9]
  refine c_split (fun hc => ?_) (fun hc => ?_)
  · have hiN : i < l := by omega
    have hwi := wrap64 (x := (i : Int) + 1) (by omega)
    obtain ⟨pa, pa1, pa2, pa3⟩ := ha.idx i hiN
    have pa4 := fun q => pa2 q H' H' n' fun _ _ => rfl
    simp -implicitDefEqProofs only [go_sem, Nat.reduceLT, Nat.reduceBEq, Nat.reduceAdd, Nat.reduceEqDiff, Nat.reduceLeDiff, Nat.reduceSub, Nat.reduceMul, e0, e7, e9, pa1, pa4]
    refine call_of (sp_GF_Is g (f i)) ?_
    by_cases hx : 0 ≤ f i ∧ f i < (qn M : Nat)
    · rw [decide_eq_true hx]
      simp -implicitDefEqProofs only [go_sem, Nat.reduceLT, Nat.reduceBEq, Nat.reduceAdd, Nat.reduceEqDiff, Nat.reduceLeDiff, Nat.reduceSub, Nat.reduceMul, e9, hwi]
      refine l_n ⟨i + 1, by omega, rfl, rfl, by simp -implicitDefEqProofs only [go_sem, Nat.reduceLT, Nat.reduceBEq, Nat.reduceAdd, Nat.reduceEqDiff, Nat.reduceLeDiff, Nat.reduceSub, Nat.reduceMul, e0], by simp -implicitDefEqProofs only [go_sem, Nat.reduceLT, Nat.reduceBEq, Nat.reduceAdd, Nat.reduceEqDiff, Nat.reduceLeDiff, Nat.reduceSub, Nat.reduceMul, e7], by simp -implicitDefEqProofs only [go_sem, Nat.reduceLT, Nat.reduceBEq, Nat.reduceAdd, Nat.reduceEqDiff, Nat.reduceLeDiff, Nat.reduceSub, Nat.reduceMul, e8], by simp -implicitDefEqProofs only [go_sem, Nat.reduceLT, Nat.reduceBEq, Nat.reduceAdd, Nat.reduceEqDiff, Nat.reduceLeDiff, Nat.reduceSub, Nat.reduceMul]; rfl, by omega, fun t ht => ?_⟩
      by_cases et : t = i
      · subst et; exact hx
      · exact hf t (by omega)
    · rw [decide_eq_false hx]
      simp -implicitDefEqProofs only [go_sem, Nat.reduceLT, Nat.reduceBEq, Nat.reduceAdd, Nat.reduceEqDiff, Nat.reduceLeDiff, Nat.reduceSub, Nat.reduceMul]
      exact fin_ret rfl (by decide) (fz_bool (decide_eq_false fun h => hx (h i hiN)).symm) fun _ _ => rfl
  · simp -implicitDefEqProofs only [go_sem, Nat.reduceLT, Nat.reduceBEq, Nat.reduceAdd, Nat.reduceEqDiff, Nat.reduceLeDiff, Nat.reduceSub, Nat.reduceMul]
    exact fin_ret rfl (by decide) (fz_bool (decide_eq_true (show Ein l f (qn M : Nat) from fun t ht => hf t (by omega))).symm) fun _ _ => rfl
theorem sp_grs_twice {H : Heap} {n np : Nat} (x : Nat → Int) (hn : np ≤ 1000000) : Spec prog fid_grs_twice [isl np x] H n (.bool (decide (Tw np x))) H n := by
  refine spec_ends hmix ok_grs_twice rfl fun hF => ?_
  show gw prog B_grs_twice _ (tl 27 _) H n
  simp -implicitDefEqProofs only [B_grs_twice, go_sem, Nat.reduceLT, Nat.reduceBEq, Nat.reduceAdd, Nat.reduceEqDiff, Nat.reduceLeDiff, Nat.reduceSub, Nat.reduceMul]
  refine loop_rule (fun (i : Nat) E H' n' => H' = H ∧ n' = n ∧ E 0 = isl np x ∧ E 7 = isl np x ∧ E 8 = .int .i64 (np : Nat) ∧ E 9 = .int .i64 (i : Nat) ∧ i ≤ np ∧ ∀ t j, t < i → j < t → x t ≠ x j) (fun i => np - i) 0 ⟨rfl, rfl, rfl, rfl, rfl, rfl, by omega, fun t j ht => by omega⟩ ?_
  rintro i E H' n' ⟨rfl, rfl, e0, e7, e8, e9, hi, hj⟩
  simp -implicitDefEqProofs only [go_sem, Nat.reduceLT, Nat.reduceBEq, Nat.reduceAdd, Nat.reduceEqDiff, Nat.reduceLeDiff, Nat.reduceSub, Nat.reduceMul, e8, e9]
  refine c_split (fun hc => ?_) (fun hc => ?_)
  · have hiN : i < np := by omega
    have hiL : i ≤ np := by omega
    have hwi := wrap64 (x := (i : Int) + 1) (by omega)
    have htk : (tab np (it x)).take i = tab i (it x) := tab_take _ hiL
    simp -implicitDefEqProofs only [go_sem, Nat.reduceLT, Nat.reduceBEq, Nat.reduceAdd, Nat.reduceEqDiff, Nat.reduceLeDiff, Nat.reduceSub, Nat.reduceMul, e0, e7, e9, hc, hiN, gat_tab, hiL, htk]
    refine loop_rule (fun (j : Nat) E H1 n1 => H1 = H' ∧ n1 = n' ∧ E 0 = isl np x ∧ E 4 = .int .i64 (x i) ∧ E 7 = isl np x ∧ E 8 = .int .i64 (np : Nat) ∧ E 9 = .int .i64 (i : Nat) ∧ E 16 = isl i x ∧ E 17 = .int .i64 (i : Nat) ∧ E 18 = .int .i64 (j : Nat) ∧ j ≤ i ∧ ∀ t, t < j → x i ≠ x t) (fun j => i - j) 0 ⟨rfl, rfl, by simp -implicitDefEqProofs only [go_sem, Nat.reduceLT, Nat.reduceBEq, Nat.reduceAdd, Nat.reduceEqDiff, Nat.reduceLeDiff, Nat.reduceSub, Nat.reduceMul, e0], by simp -implicitDefEqProofs only [go_sem, Nat.reduceLT, Nat.reduceBEq, Nat.reduceAdd, Nat.reduceEqDiff, Nat.reduceLeDiff, Nat.reduceSub, Nat.reduceMul], by simp -implicitDefEqProofs only [go_sem, Nat.reduceLT, Nat.reduceBEq, Nat.reduceAdd, Nat.reduceEqDiff, Nat.reduceLeDiff, Nat.reduceSub, Nat.reduceMul, e7], by simp -implicitDefEqProofs only [go_sem, Nat.reduceLT, Nat.reduceBEq, Nat.reduceAdd, Nat.reduceEqDiff, Nat.reduceLeDiff, Nat.reduceSub, Nat.reduceMul, e8], by simp -implicitDefEqProofs only [go_sem, Nat.reduceLT, Nat.reduceBEq, Nat.reduceAdd, Nat.reduceEqDiff, Nat.reduceLeDiff, Nat.reduceSub, Nat.reduceMul, e9], rfl, rfl, rfl, by omega, fun t ht => by omega⟩ ?_
    clear e9 e8 e7 e0 E
    rintro j E H1 n1 ⟨rfl, rfl, e0, e4, e7, e8, e9, e16, e17, e18, hji, hjj⟩
    simp -implicitDefEqProofs only [go_sem, Nat.reduceLT, Nat.reduceBEq, Nat.reduceAdd, Nat.reduceEqDiff, Nat.reduceLeDiff, Nat.reduceSub, Nat.reduceMul, e17, e18]
    refine c_split (fun hc' => ?_) (fun hc' => ?_)
    · have hjN : j < i := by omega
      have hwj := wrap64 (x := (j : Int) + 1) (by omega)
      by_cases hx : x i = x j
      · simp -implicitDefEqProofs only [go_sem, Nat.reduceLT, Nat.reduceBEq, Nat.reduceAdd, Nat.reduceEqDiff, Nat.reduceLeDiff, Nat.reduceSub, Nat.reduceMul, e4, e16, e18, hc', hjN, gat_tab, hx]
        exact fin_ret rfl (by decide) (fz_bool (decide_eq_true ⟨i, j, hiN, hjN, hx⟩).symm) fun _ _ => rfl
      · simp -implicitDefEqProofs only [go_sem, Nat.reduceLT, Nat.reduceBEq, Nat.reduceAdd, Nat.reduceEqDiff, Nat.reduceLeDiff, Nat.reduceSub, Nat.reduceMul, e4, e16, e18, hc', hjN, gat_tab, hx, hwj]
        refine l_n ⟨j + 1, by omega, rfl, rfl, by simp -implicitDefEqProofs only [go_sem, Nat.reduceLT, Nat.reduceBEq, Nat.reduceAdd, Nat.reduceEqDiff, Nat.reduceLeDiff, Nat.reduceSub, Nat.reduceMul, e0], by simp -implicitDefEqProofs only [go_sem, Nat.reduceLT, Nat.reduceBEq, Nat.reduceAdd, Nat.reduceEqDiff, Nat.reduceLeDiff, Nat.reduceSub, Nat.reduceMul, e4], by simp -implicitDefEqProofs only [go_sem, Nat.reduceLT, Nat.reduceBEq, Nat.reduceAdd, Nat.reduceEqDiff, Nat.reduceLeDiff, Nat.reduceSub, Nat.reduceMul, e7], by simp -implicitDefEqProofs only [go_sem, Nat.reduceLT, Nat.reduceBEq, Nat.reduceAdd, Nat.reduceEqDiff, Nat.reduceLeDiff, Nat.reduceSub, Nat.reduceMul, e8], by simp -implicitDefEqProofs only [go_sem, Nat.reduceLT, Nat.reduceBEq, Nat.reduceAdd, Nat.reduceEqDiff, Nat.reduceLeDiff, Nat.reduceSub, Nat.reduceMul, e9], by simp -implicitDefEqProofs only [go_sem, Nat.reduceLT, Nat.reduceBEq, Nat.reduceAdd, Nat.reduceEqDiff, Nat.reduceLeDiff, Nat.reduceSub, Nat.reduceMul, e16], by simp -implicitDefEqProofs only [go_sem, Nat.reduceLT, Nat.reduceBEq, Nat.reduceAdd, Nat.reduceEqDiff, Nat.reduceLeDiff, Nat.reduceSub, Nat.reduceMul, e17], by simp -implicitDefEqProofs only [go_sem, Nat.reduceLT, Nat.reduceBEq, Nat.reduceAdd, Nat.reduceEqDiff, Nat.reduceLeDiff, Nat.reduceSub, Nat.reduceMul]; rfl, by omega, fun t ht => ?_⟩
        by_cases et : t = j
        · subst et; exact hx
        · exact hjj t (by omega)
    · have : j = i := by omega
      subst this
      simp -implicitDefEqProofs only [go_sem, Nat.reduceLT, Nat.reduceBEq, Nat.reduceAdd, Nat.reduceEqDiff, Nat.reduceLeDiff, Nat.reduceSub, Nat.reduceMul, e9, hwi]
      refine l_n ⟨j + 1, by omega, rfl, rfl, by simp -implicitDefEqProofs only [go_sem, Nat.reduceLT, Nat.reduceBEq, Nat.reduceAdd, Nat.reduceEqDiff, Nat.reduceLeDiff, Nat.reduceSub, Nat.reduceMul, e0], by simp -implicitDefEqProofs only [go_sem, Nat.reduceLT, Nat.reduceBEq, Nat.reduceAdd, Nat.reduceEqDiff, Nat.reduceLeDiff, Nat.reduceSub, Nat.reduceMul, e7], by simp -implicitDefEqProofs only [go_sem, Nat.reduceLT, Nat.reduceBEq, Nat.reduceAdd, Nat.reduceEqDiff, Nat.reduceLeDiff, Nat.reduceSub, Nat.reduceMul, e8], by simp -implicitDefEqProofs only [go_sem, Nat.reduceLT, Nat.reduceBEq, Nat.reduceAdd, Nat.reduceEqDiff, Nat.reduceLeDiff, Nat.reduceSub, Nat.reduceMul]; rfl, by omega, fun t u ht hu' => ?_⟩
      by_cases et : t = j
      · subst et; exact hjj u hu'
      · exact hj t u (by omega) hu'
  · simp -implicitDefEqProofs only [go_sem, Nat.reduceLT, Nat.reduceBEq, Nat.reduceAdd, Nat.reduceEqDiff, Nat.reduceLeDiff, Nat.reduceSub, Nat.reduceMul]
    exact fin_ret rfl (by decide) (fz_bool (decide_eq_false fun ⟨t, u, h1, h2, h3⟩ => hj t u (by omega) h2 h3).symm) fun _ _ => rfl
theorem sp_grs_open_fail {H : Heap} {n : Nat} (s : Gr) (h : ¬ s.Fok) : Spec prog fid_grs_open [s.gv] H n (.tup [.nilp, .int .i64 s.ce]) H n := by
  refine spec_ends hmix ok_grs_open rfl fun hF => ?_
  show gw prog B_grs_open _ (tl 70 _) H n
  have hu : ∀ x b, b < n → upd H n x b = H b := fun x b hb => upd_ne _ _ (by omega)
  have h10 : ((1 : Int) = 0) = False := by simp
  simp -implicitDefEqProofs only [B_grs_open, go_sem, Nat.reduceLT, Nat.reduceBEq, Nat.reduceAdd, Nat.reduceEqDiff, Nat.reduceLeDiff, Nat.reduceSub, Nat.reduceMul]
  refine call_of (sp_field_New_fail s.p s.m s.l s.mo h) ?_
  simp -implicitDefEqProofs only [go_sem, Nat.reduceLT, Nat.reduceBEq, Nat.reduceAdd, Nat.reduceEqDiff, Nat.reduceLeDiff, Nat.reduceSub, Nat.reduceMul, h10]
  exact fin_ret2 rfl (by decide) (by decide) .nilp (fz_int (Gr.ce_fail h).symm) (hu _)
theorem sp_grs_open {H : Heap} {n : Nat} (s : Gr) {k : Nat} {M : Mn k} (h : Fi M) (d : s.Des M) : Spec prog fid_grs_open [s.gv] H n (.tup [if s.ce = 0 then h.gf else .nilp, .int .i64 s.ce]) H n := by
  refine spec_ends hmix ok_grs_open rfl fun hF => ?_
  show gw prog B_grs_open _ (tl 70 _) H n
  have hA : s.Fok := ⟨k, M, d, h.fc, h.prm, h.irr⟩
  have hq := Gr.Des.qo d h
  have bad : ∀ (E : Env) (H' : Heap) (n' : Nat) (v : Int), E 2 = .nilp → E 3 = .int .i64 v → s.ce = v → v ≠ 0 → (∀ b, b < n → H' b = H b) → F_grs_open.ends H n (.tup [if s.ce = 0 then h.gf else .nilp, .int .i64 s.ce]) .ret (tl 70 E) H' n' := by
    intro E H' n' v h2 h3 hv h0 ho
    rw [hv, if_neg h0]
    exact fin_ret2 rfl (by decide) (by decide) (by rw [h2]; exact .nilp) (by rw [h3]; exact fz_int rfl) ho
  have hu : ∀ x b, b < n → upd H n x b = H b := fun x b hb => upd_ne _ _ (by omega)
  have hnw : ∀ (H : Heap) (n : Nat), Spec prog fid_field_New [fgv s.p s.m (isl s.l s.mo)] H n (.tup [h.gf, .int .i64 0]) H n := fun H n => by rw [d.fd]; exact sp_field_New h
  simp -implicitDefEqProofs only [B_grs_open, go_sem, Nat.reduceLT, Nat.reduceBEq, Nat.reduceAdd, Nat.reduceEqDiff, Nat.reduceLeDiff, Nat.reduceSub, Nat.reduceMul]
  refine call_of (hnw _ _) ?_
  by_cases h1 : (s.np : Int) < 1
  · simp -implicitDefEqProofs only [go_sem, Nat.reduceLT, Nat.reduceBEq, Nat.reduceAdd, Nat.reduceEqDiff, Nat.reduceLeDiff, Nat.reduceSub, Nat.reduceMul, h1]
    exact bad _ _ _ 4 (by simp -implicitDefEqProofs only [go_sem, Nat.reduceLT, Nat.reduceBEq, Nat.reduceAdd, Nat.reduceEqDiff, Nat.reduceLeDiff, Nat.reduceSub, Nat.reduceMul]) (by simp -implicitDefEqProofs only [go_sem, Nat.reduceLT, Nat.reduceBEq, Nat.reduceAdd, Nat.reduceEqDiff, Nat.reduceLeDiff, Nat.reduceSub, Nat.reduceMul]) (by rw [Gr.ce, if_pos hA, if_neg fun h => by omega]) (by decide) (hu _)
  by_cases h2 : (64 : Int) < (s.np : Int)
  · simp -implicitDefEqProofs only [go_sem, Nat.reduceLT, Nat.reduceBEq, Nat.reduceAdd, Nat.reduceEqDiff, Nat.reduceLeDiff, Nat.reduceSub, Nat.reduceMul, h1, h2]
    exact bad _ _ _ 4 (by simp -implicitDefEqProofs only [go_sem, Nat.reduceLT, Nat.reduceBEq, Nat.reduceAdd, Nat.reduceEqDiff, Nat.reduceLeDiff, Nat.reduceSub, Nat.reduceMul]) (by simp -implicitDefEqProofs only [go_sem, Nat.reduceLT, Nat.reduceBEq, Nat.reduceAdd, Nat.reduceEqDiff, Nat.reduceLeDiff, Nat.reduceSub, Nat.reduceMul]) (by rw [Gr.ce, if_pos hA, if_neg fun h => by omega]) (by decide) (hu _)
  have hr : 1 ≤ s.np ∧ s.np ≤ 64 := ⟨by omega, by omega⟩
  by_cases h3 : (s.nm : Int) = (s.np : Int)
  case neg =>
    simp -implicitDefEqProofs only [go_sem, Nat.reduceLT, Nat.reduceBEq, Nat.reduceAdd, Nat.reduceEqDiff, Nat.reduceLeDiff, Nat.reduceSub, Nat.reduceMul, h1, h2, h3]
    exact bad _ _ _ 10 (by simp -implicitDefEqProofs only [go_sem, Nat.reduceLT, Nat.reduceBEq, Nat.reduceAdd, Nat.reduceEqDiff, Nat.reduceLeDiff, Nat.reduceSub, Nat.reduceMul]) (by simp -implicitDefEqProofs only [go_sem, Nat.reduceLT, Nat.reduceBEq, Nat.reduceAdd, Nat.reduceEqDiff, Nat.reduceLeDiff, Nat.reduceSub, Nat.reduceMul]) (by rw [Gr.ce, if_pos hA, if_pos hr, if_neg fun h => h3 (by omega)]) (by decide) (hu _)
  have h3' : s.nm = s.np := by omega
  have hx0 : Ein s.np s.x (qn M : Nat) = Ein s.np s.x s.q := by rw [hq]
  have hv0 : Ein s.nm s.v (qn M : Nat) = Ein s.np s.v s.q := by rw [hq, h3']
  simp -implicitDefEqProofs only [go_sem, Nat.reduceLT, Nat.reduceBEq, Nat.reduceAdd, Nat.reduceEqDiff, Nat.reduceLeDiff, Nat.reduceSub, Nat.reduceMul, h1, h2, h3]
  refine call_of (sp_grs_elements h.g (.sl s.np s.x) (by omega)) ?_
  by_cases hx : Ein s.np s.x s.q
  case neg =>
    rw [decide_eq_false (hx0 ▸ hx)]
    simp -implicitDefEqProofs only [go_sem, Nat.reduceLT, Nat.reduceBEq, Nat.reduceAdd, Nat.reduceEqDiff, Nat.reduceLeDiff, Nat.reduceSub, Nat.reduceMul]
    exact bad _ _ _ 2 (by simp -implicitDefEqProofs only [go_sem, Nat.reduceLT, Nat.reduceBEq, Nat.reduceAdd, Nat.reduceEqDiff, Nat.reduceLeDiff, Nat.reduceSub, Nat.reduceMul]) (by simp -implicitDefEqProofs only [go_sem, Nat.reduceLT, Nat.reduceBEq, Nat.reduceAdd, Nat.reduceEqDiff, Nat.reduceLeDiff, Nat.reduceSub, Nat.reduceMul]) (by rw [Gr.ce, if_pos hA, if_pos hr, if_pos h3', if_neg fun h => hx h.1]) (by decide) (hu _)
  rw [decide_eq_true (hx0 ▸ hx)]
  simp -implicitDefEqProofs only [go_sem, Nat.reduceLT, Nat.reduceBEq, Nat.reduceAdd, Nat.reduceEqDiff, Nat.reduceLeDiff, Nat.reduceSub, Nat.reduceMul]
  refine call_of (sp_grs_elements h.g (.sl s.nm s.v) (by omega)) ?_
  by_cases hv : Ein s.np s.v s.q
  case neg =>
    rw [decide_eq_false (hv0 ▸ hv)]
    simp -implicitDefEqProofs only [go_sem, Nat.reduceLT, Nat.reduceBEq, Nat.reduceAdd, Nat.reduceEqDiff, Nat.reduceLeDiff, Nat.reduceSub, Nat.reduceMul]
    exact bad _ _ _ 2 (by simp -implicitDefEqProofs only [go_sem, Nat.reduceLT, Nat.reduceBEq, Nat.reduceAdd, Nat.reduceEqDiff, Nat.reduceLeDiff, Nat.reduceSub, Nat.reduceMul]) (by simp -implicitDefEqProofs only [go_sem, Nat.reduceLT, Nat.reduceBEq, Nat.reduceAdd, Nat.reduceEqDiff, Nat.reduceLeDiff, Nat.reduceSub, Nat.reduceMul]) (by rw [Gr.ce, if_pos hA, if_pos hr, if_pos h3', if_neg fun h => hv h.2]) (by decide) (hu _)
  have hEl : Ein s.np s.x s.q ∧ Ein s.np s.v s.q := ⟨hx, hv⟩
  rw [decide_eq_true (hv0 ▸ hv)]
  simp -implicitDefEqProofs only [go_sem, Nat.reduceLT, Nat.reduceBEq, Nat.reduceAdd, Nat.reduceEqDiff, Nat.reduceLeDiff, Nat.reduceSub, Nat.reduceMul]
  refine call_of (sp_grs_twice s.x (by omega)) ?_
  by_cases hT : Tw s.np s.x
  · rw [decide_eq_true hT]
    simp -implicitDefEqProofs only [go_sem, Nat.reduceLT, Nat.reduceBEq, Nat.reduceAdd, Nat.reduceEqDiff, Nat.reduceLeDiff, Nat.reduceSub, Nat.reduceMul]
    exact bad _ _ _ 18 (by simp -implicitDefEqProofs only [go_sem, Nat.reduceLT, Nat.reduceBEq, Nat.reduceAdd, Nat.reduceEqDiff, Nat.reduceLeDiff, Nat.reduceSub, Nat.reduceMul]) (by simp -implicitDefEqProofs only [go_sem, Nat.reduceLT, Nat.reduceBEq, Nat.reduceAdd, Nat.reduceEqDiff, Nat.reduceLeDiff, Nat.reduceSub, Nat.reduceMul]) (by rw [Gr.ce, if_pos hA, if_pos hr, if_pos h3', if_pos hEl, if_pos hT]) (by decide) (hu _)
  rw [decide_eq_false hT]
  simp -implicitDefEqProofs only [go_sem, Nat.reduceLT, Nat.reduceBEq, Nat.reduceAdd, Nat.reduceEqDiff, Nat.reduceLeDiff, Nat.reduceSub, Nat.reduceMul]
  refine loop_rule (fun (i : Nat) E H' n' => n' = n + 1 ∧ H' n = some s.cs ∧ (∀ b, b < n → H' b = H b) ∧ E 1 = .ptr n 0 ∧ E 4 = h.gf ∧ E 6 = .int .i64 (s.np : Nat) ∧ E 51 = isl s.nm s.v ∧ E 52 = .int .i64 (s.nm : Nat) ∧ E 53 = .int .i64 (i : Nat) ∧ i ≤ s.nm ∧ ∀ t, t < i → s.v t ≠ 0) (fun i => s.nm - i) 0 ⟨rfl, by simp -implicitDefEqProofs only [go_sem, Nat.reduceLT, Nat.reduceBEq, Nat.reduceAdd, Nat.reduceEqDiff, Nat.reduceLeDiff, Nat.reduceSub, Nat.reduceMul], hu _, rfl, rfl, rfl, rfl, rfl, rfl, by omega, fun t ht => by omega⟩ ?_
  rintro i E H' n' ⟨rfl, h0, ho, e1, e4, e6, e51, e52, e53, hi, hj⟩
  simp -implicitDefEqProofs only [go_sem, Nat.reduceLT, Nat.reduceBEq, Nat.reduceAdd, Nat.reduceEqDiff, Nat.reduceLeDiff, Nat.reduceSub, Nat.reduceMul, e52, e53]
  refine c_split (fun hlt => ?_) (fun hlt => ?_)
  · have hiM : i < s.nm := by omega
    have hwi := wrap64 (x := (i : Int) + 1) (by omega)
    by_cases hv : s.v i = 0
    · simp -implicitDefEqProofs only [go_sem, Nat.reduceLT, Nat.reduceBEq, Nat.reduceAdd, Nat.reduceEqDiff, Nat.reduceLeDiff, Nat.reduceSub, Nat.reduceMul, e51, e53, hlt, hiM, gat_tab, hv]
      exact bad _ _ _ 7 (by simp -implicitDefEqProofs only [go_sem, Nat.reduceLT, Nat.reduceBEq, Nat.reduceAdd, Nat.reduceEqDiff, Nat.reduceLeDiff, Nat.reduceSub, Nat.reduceMul]) (by simp -implicitDefEqProofs only [go_sem, Nat.reduceLT, Nat.reduceBEq, Nat.reduceAdd, Nat.reduceEqDiff, Nat.reduceLeDiff, Nat.reduceSub, Nat.reduceMul]) (by rw [Gr.ce, if_pos hA, if_pos hr, if_pos h3', if_pos hEl, if_neg hT, if_neg fun h => h i (by omega) hv]) (by decide) ho
    · simp -implicitDefEqProofs only [go_sem, Nat.reduceLT, Nat.reduceBEq, Nat.reduceAdd, Nat.reduceEqDiff, Nat.reduceLeDiff, Nat.reduceSub, Nat.reduceMul, e51, e53, hlt, hiM, gat_tab, hv, hwi]
      refine l_n ⟨i + 1, by omega, rfl, h0, ho, by simp -implicitDefEqProofs only [go_sem, Nat.reduceLT, Nat.reduceBEq, Nat.reduceAdd, Nat.reduceEqDiff, Nat.reduceLeDiff, Nat.reduceSub, Nat.reduceMul, e1], by simp -implicitDefEqProofs only [go_sem, Nat.reduceLT, Nat.reduceBEq, Nat.reduceAdd, Nat.reduceEqDiff, Nat.reduceLeDiff, Nat.reduceSub, Nat.reduceMul, e4], by simp -implicitDefEqProofs only [go_sem, Nat.reduceLT, Nat.reduceBEq, Nat.reduceAdd, Nat.reduceEqDiff, Nat.reduceLeDiff, Nat.reduceSub, Nat.reduceMul, e6], by simp -implicitDefEqProofs only [go_sem, Nat.reduceLT, Nat.reduceBEq, Nat.reduceAdd, Nat.reduceEqDiff, Nat.reduceLeDiff, Nat.reduceSub, Nat.reduceMul, e51], by simp -implicitDefEqProofs only [go_sem, Nat.reduceLT, Nat.reduceBEq, Nat.reduceAdd, Nat.reduceEqDiff, Nat.reduceLeDiff, Nat.reduceSub, Nat.reduceMul, e52], by simp -implicitDefEqProofs only [go_sem, Nat.reduceLT, Nat.reduceBEq, Nat.reduceAdd, Nat.reduceEqDiff, Nat.reduceLeDiff, Nat.reduceSub, Nat.reduceMul]; rfl, by omega, fun t ht => ?_⟩
      by_cases et : t = i
      · subst et; exact hv
      · exact hj t (by omega)
  have hN : Nz s.np s.v := fun t ht => hj t (by omega)
  by_cases hK1 : s.K < 0
  · simp -implicitDefEqProofs only [go_sem, Nat.reduceLT, Nat.reduceBEq, Nat.reduceAdd, Nat.reduceEqDiff, Nat.reduceLeDiff, Nat.reduceSub, Nat.reduceMul, e1, h0, hK1]
    exact bad _ _ _ 6 (by simp -implicitDefEqProofs only [go_sem, Nat.reduceLT, Nat.reduceBEq, Nat.reduceAdd, Nat.reduceEqDiff, Nat.reduceLeDiff, Nat.reduceSub, Nat.reduceMul]) (by simp -implicitDefEqProofs only [go_sem, Nat.reduceLT, Nat.reduceBEq, Nat.reduceAdd, Nat.reduceEqDiff, Nat.reduceLeDiff, Nat.reduceSub, Nat.reduceMul]) (by rw [Gr.ce, if_pos hA, if_pos hr, if_pos h3', if_pos hEl, if_neg hT, if_pos hN, if_neg fun h => by omega]) (by decide) ho
  by_cases hK2 : (s.np : Int) < s.K
  · simp -implicitDefEqProofs only [go_sem, Nat.reduceLT, Nat.reduceBEq, Nat.reduceAdd, Nat.reduceEqDiff, Nat.reduceLeDiff, Nat.reduceSub, Nat.reduceMul, e1, e6, h0, hK1, hK2]
    exact bad _ _ _ 6 (by simp -implicitDefEqProofs only [go_sem, Nat.reduceLT, Nat.reduceBEq, Nat.reduceAdd, Nat.reduceEqDiff, Nat.reduceLeDiff, Nat.reduceSub, Nat.reduceMul]) (by simp -implicitDefEqProofs only [go_sem, Nat.reduceLT, Nat.reduceBEq, Nat.reduceAdd, Nat.reduceEqDiff, Nat.reduceLeDiff, Nat.reduceSub, Nat.reduceMul]) (by rw [Gr.ce, if_pos hA, if_pos hr, if_pos h3', if_pos hEl, if_neg hT, if_pos hN, if_neg fun h => by omega]) (by decide) ho
  have hce : s.ce = 0 := by rw [Gr.ce, if_pos hA, if_pos hr, if_pos h3', if_pos hEl, if_neg hT, if_pos hN, if_pos ⟨by omega, by omega⟩]
  rw [hce, if_pos rfl]
  simp -implicitDefEqProofs only [go_sem, Nat.reduceLT, Nat.reduceBEq, Nat.reduceAdd, Nat.reduceEqDiff, Nat.reduceLeDiff, Nat.reduceSub, Nat.reduceMul, e1, e4, e6, h0, hK1, hK2]
  exact fin_ret2 rfl (by decide) (by decide) (by simp -implicitDefEqProofs only [go_sem, Nat.reduceLT, Nat.reduceBEq, Nat.reduceAdd, Nat.reduceEqDiff, Nat.reduceLeDiff, Nat.reduceSub, Nat.reduceMul]; exact (pl_gf h.g).tr) (by simp -implicitDefEqProofs only [go_sem, Nat.reduceLT, Nat.reduceBEq, Nat.reduceAdd, Nat.reduceEqDiff, Nat.reduceLeDiff, Nat.reduceSub, Nat.reduceMul]; exact fz_int rfl) ho
theorem sp_grs_Check {H : Heap} {n : Nat} (s : Gr) : Spec prog fid_grs_Check [s.gv] H n (.int .i64 s.ce) H n := by
  refine spec_ends hmix ok_grs_Check rfl fun hF => ?_
  show gw prog B_grs_Check _ (tl 11 _) H n
  have hu : ∀ x b, b < n → upd H n x b = H b := fun x b hb => upd_ne _ _ (by omega)
  simp -implicitDefEqProofs only [B_grs_Check, go_sem, Nat.reduceLT, Nat.reduceBEq, Nat.reduceAdd, Nat.reduceEqDiff, Nat.reduceLeDiff, Nat.reduceSub, Nat.reduceMul]
  rcases s.cases with ⟨k, M, h, d⟩ | hf
  · refine call_of (sp_grs_open s h d) ?_
    simp -implicitDefEqProofs only [go_sem, Nat.reduceLT, Nat.reduceBEq, Nat.reduceAdd, Nat.reduceEqDiff, Nat.reduceLeDiff, Nat.reduceSub, Nat.reduceMul]
    exact fin_ret rfl (by decide) (fz_int rfl) (hu _)
  · refine call_of (sp_grs_open_fail s hf) ?_
    simp -implicitDefEqProofs only [go_sem, Nat.reduceLT, Nat.reduceBEq, Nat.reduceAdd, Nat.reduceEqDiff, Nat.reduceLeDiff, Nat.reduceSub, Nat.reduceMul]
    exact fin_ret rfl (by decide) (fz_int rfl) (hu _)
end Go.Proofs.Yteiafdhejcgjcaa.Gh
/- Products, Lagrange's sums, and how many values of a polynomial are 0. -/
namespace Go.Proofs.Yteiafdhejcgjcaa.Alg
section
variable {α : Type} [CR α]
/-- the product of f i over i < n -/
def pd (n : Nat) (f : Nat → α) : α := match n with
  | 0 => 1
  | n + 1 => pd n f * f n
theorem pd_zero (f : Nat → α) : pd 0 f = 1 := rfl
theorem pd_succ (n : Nat) (f : Nat → α) : pd (n + 1) f = pd n f * f n := rfl
theorem pd_congr {n : Nat} {f g : Nat → α} (h : ∀ i, i < n → f i = g i) : pd n f = pd n g := by
  induction n with
  | zero => rfl
  | succ n ih => rw [pd_succ, pd_succ, ih fun i hi => h i (by omega), h n (by omega)]
theorem pd_head (n : Nat) (f : Nat → α) : pd (n + 1) f = f 0 * pd n (fun i => f (i + 1)) := by
  induction n with
  | zero => rw [pd_succ, pd_zero, pd_zero, one_mul, mul_one]
  | succ n ih => rw [pd_succ, ih, pd_succ, mul_assoc]
theorem pd_has_zero {n i : Nat} {f : Nat → α} (hi : i < n) (h : f i = 0) : pd n f = 0 := by
  induction n with
  | zero => omega
  | succ n ih =>
    rw [pd_succ]
    by_cases e : i = n
    · subst e; rw [h, mul_zero]
    · rw [ih (by omega), zero_mul]
/-- the product of the differences to the other points -/
def df (n : Nat) (x : Nat → α) (i : Nat) : α := pd n fun j => if j = i then 1 else x i - x j
theorem df_last (n : Nat) (x : Nat → α) {i : Nat} (h : i < n) : df (n + 1) x i = df n x i * (x i - x n) := by
  rw [df, pd_succ, if_neg (by omega)]; rfl
theorem df_head (n : Nat) (x : Nat → α) (i : Nat) : df (n + 1) x (i + 1) = (x (i + 1) - x 0) * df n (fun j => x (j + 1)) i := by
  rw [df, pd_head, if_neg (by omega), df]
  congr 1
  exact pd_congr fun j _ => by
    by_cases e : j = i
    · rw [if_pos (by omega), if_pos e]
    · rw [if_neg (by omega), if_neg e]
end
/-- how many i < n have P -/
def cnt (n : Nat) (P : Nat → Bool) : Nat := match n with
  | 0 => 0
  | n + 1 => cnt n P + (if P n then 1 else 0)
theorem cnt_succ (n : Nat) (P : Nat → Bool) : cnt (n + 1) P = cnt n P + (if P n then 1 else 0) := rfl
theorem cnt_le (n : Nat) (P : Nat → Bool) : cnt n P ≤ n := by
  induction n with
  | zero => exact Nat.le_refl _
  | succ n ih => rw [cnt_succ]; split <;> omega
theorem cnt_congr {n : Nat} {P Q : Nat → Bool} (h : ∀ i, i < n → P i = Q i) : cnt n P = cnt n Q := by
  induction n with
  | zero => rfl
  | succ n ih => rw [cnt_succ, cnt_succ, ih fun i hi => h i (by omega), h n (by omega)]
theorem cnt_not (n : Nat) (P : Nat → Bool) : cnt n P + cnt n (fun i => !P i) = n := by
  induction n with
  | zero => rfl
  | succ n ih => rw [cnt_succ, cnt_succ]; cases P n <;> simp <;> omega
theorem cnt_filter (n : Nat) (P : Nat → Bool) : ((List.range n).filter P).length = cnt n P := by
  induction n with
  | zero => rfl
  | succ n ih => rw [List.range_succ, List.filter_append, List.length_append, ih, cnt_succ]; cases h : P n <;> simp [h]

section
variable {α : Type} [Fd α]
theorem sub_ne_zero {a b : α} (h : a ≠ b) : a - b ≠ 0 := fun e => h (sub_eq_zero.1 e)
theorem pd_ne_zero {n : Nat} {f : Nat → α} (h : ∀ i, i < n → f i ≠ 0) : pd n f ≠ 0 := by
  induction n with
  | zero => exact one_ne_zero
  | succ n ih => rw [pd_succ]; exact mul_ne_zero (ih fun i hi => h i (by omega)) (h n (by omega))
/-- the points are pairwise unlike -/
def Dist (n : Nat) (x : Nat → α) : Prop := ∀ i j, i < n → j < n → x i = x j → i = j
theorem df_ne_zero {n : Nat} {x : Nat → α} (h : Dist n x) {i : Nat} (hi : i < n) : df n x i ≠ 0 :=
  pd_ne_zero fun j hj => by
    by_cases e : j = i
    · rw [if_pos e]; exact one_ne_zero
    · rw [if_neg e]; exact sub_ne_zero fun e' => e (h i j hi hj e').symm
theorem inv_mul_distrib {a b : α} (ha : a ≠ 0) (hb : b ≠ 0) : Fd.inv (a * b) = Fd.inv a * Fd.inv b :=
  (inv_unique (by rw [mul_assoc, mul_left_comm b, mul_inv hb, mul_one, mul_inv ha])).symm
/-- Lagrange's sum -/
def lag (n : Nat) (x : Nat → α) (t : Nat) : α := sm n fun i => pw (x i) t * Fd.inv (df n x i)
theorem lag_last {n : Nat} {x : Nat → α} (h : Dist (n + 1) x) (t : Nat) : sm (n + 1) (fun i => (x i - x n) * (pw (x i) t * Fd.inv (df (n + 1) x i))) = lag n x t := by
  rw [sm_succ, sub_self, zero_mul, add_zero]
  refine sm_congr fun i hi => ?_
  have h1 : x i - x n ≠ 0 := sub_ne_zero fun e => by have := h i n (by omega) (by omega) e; omega
  have h2 : df n x i ≠ 0 := df_ne_zero (fun a b ha hb => h a b (by omega) (by omega)) hi
  rw [df_last n x hi, inv_mul_distrib h2 h1, mul_left_comm, mul_comm (x i - x n), mul_assoc, inv_mul h1, mul_one]
theorem lag_first {n : Nat} {x : Nat → α} (h : Dist (n + 1) x) (t : Nat) : sm (n + 1) (fun i => (x i - x 0) * (pw (x i) t * Fd.inv (df (n + 1) x i))) = lag n (fun i => x (i + 1)) t := by
  rw [sm_head, sub_self, zero_mul, zero_add]
  refine sm_congr fun i hi => ?_
  have h1 : x (i + 1) - x 0 ≠ 0 := sub_ne_zero fun e => by have := h (i + 1) 0 (by omega) (by omega) e; omega
  have h2 : df n (fun j => x (j + 1)) i ≠ 0 := df_ne_zero (fun a b ha hb e => by have := h (a + 1) (b + 1) (by omega) (by omega) e; omega) hi
  show (x (i + 1) - x 0) * (pw (x (i + 1)) t * Fd.inv (df (n + 1) x (i + 1))) = pw (x (i + 1)) t * _
  rw [df_head n x i, inv_mul_distrib h1 h2, mul_left_comm, ← mul_assoc (x (i + 1) - x 0), mul_inv h1, one_mul]
theorem lag_diff {n : Nat} {x : Nat → α} (h : Dist (n + 1) x) (t : Nat) : (x 0 - x n) * lag (n + 1) x t = lag n x t - lag n (fun i => x (i + 1)) t := by
  apply eq_sub_of_add
  rw [← lag_last h, ← lag_first h, lag, mul_sm, ← sm_add]
  refine sm_congr fun i _ => ?_
  rw [← add_mul]
  congr 1
  rw [sub_def, sub_def, sub_def, add_comm (x 0), add_assoc, add_left_comm (x 0), add_neg, add_zero, add_comm]
theorem lag_next {n : Nat} {x : Nat → α} (h : Dist (n + 1) x) (t : Nat) : lag (n + 1) x (t + 1) = x n * lag (n + 1) x t + lag n x t := by
  rw [← lag_last h, lag, lag, mul_sm, ← sm_add]
  refine sm_congr fun i _ => ?_
  rw [← add_mul, add_comm (x n), sub_add_cancel, pw_succ, mul_comm (pw (x i) t), mul_assoc]
theorem lag_main : ∀ (n : Nat) (x : Nat → α), Dist (n + 1) x → lag (n + 1) x n = 1 ∧ ∀ t, t < n → lag (n + 1) x t = 0 := by
  intro n
  induction n with
  | zero =>
    intro x _
    refine ⟨?_, fun t ht => by omega⟩
    have hd : df 1 x 0 = 1 := by rw [df, pd_succ, if_pos rfl, pd_zero, one_mul]
    rw [lag, sm_succ, sm_zero, zero_add, pw_zero, one_mul, hd]
    exact (inv_unique (one_mul 1)).symm
  | succ n ih =>
    intro x h
    have h1 := ih x fun a b ha hb => h a b (by omega) (by omega)
    have h2 := ih (fun i => x (i + 1)) fun a b ha hb e => by have := h (a + 1) (b + 1) (by omega) (by omega) e; omega
    have hne : x 0 - x (n + 1) ≠ 0 := sub_ne_zero fun e => by have := h 0 (n + 1) (by omega) (by omega) e; omega
    have h0 : ∀ t, t < n + 1 → lag (n + 2) x t = 0 := fun t ht => by
      refine mul_eq_zero hne ?_
      rw [lag_diff h]
      by_cases e : t = n
      · subst e; rw [h1.1, h2.1, sub_self]
      · rw [h1.2 t (by omega), h2.2 t (by omega), sub_self]
    refine ⟨?_, h0⟩
    rw [lag_next h, h0 n (by omega), mul_zero, zero_add, h1.1]
/-- the values of a polynomial of a degree below n - 1 are orthogonal to Lagrange's weights -/
theorem lag_ortho {n : Nat} {x : Nat → α} (h : Dist (n + 1) x) {p : Ps α} (hp : Dg p n) : sm (n + 1) (fun i => ev (n + 1) p (x i) * Fd.inv (df (n + 1) x i)) = 0 := by
  have h1 := (lag_main n x h).2
  have e1 : sm (n + 1) (fun i => ev (n + 1) p (x i) * Fd.inv (df (n + 1) x i)) = sm (n + 1) fun i => sm (n + 1) fun t => p.co t * (pw (x i) t * Fd.inv (df (n + 1) x i)) :=
    sm_congr fun i _ => by rw [ev, sm_mul]; exact sm_congr fun t _ => mul_assoc _ _ _
  rw [e1, sm_swap]
  refine sm_const_zero fun t ht => ?_
  rw [← mul_sm]
  show p.co t * lag (n + 1) x t = 0
  by_cases e : t = n
  · rw [hp t (by omega), zero_mul]
  · rw [h1 t (by omega), mul_zero]
/-- each codeword is orthogonal to each codeword of the dual description -/
theorem ortho {n K : Nat} (hK : K ≤ n + 1) {x v : Nat → α} (h : Dist (n + 1) x) (hv : ∀ i, i < n + 1 → v i ≠ 0) {p q : Ps α} (hp : Dg p K) (hq : Dg q (n + 1 - K)) :
    sm (n + 1) (fun i => v i * ev K p (x i) * (Fd.inv (v i * df (n + 1) x i) * ev (n + 1 - K) q (x i))) = 0 := by
  have hpq : Dg (p * q) n := Dg.mul' hp hq (by omega)
  rw [← lag_ortho h hpq]
  refine sm_congr fun i hi => ?_
  have h2 := df_ne_zero h hi
  have e1 : ev (n + 1) (p * q) (x i) = ev K p (x i) * ev (n + 1 - K) q (x i) := by
    have := ev_mul hp hq (x i)
    rwa [show K + (n + 1 - K) = n + 1 by omega] at this
  rw [e1, inv_mul_distrib (hv i hi) h2, mul_comm (v i), mul_assoc, mul_assoc (Fd.inv (v i)), ← mul_assoc (v i), mul_inv (hv i hi), one_mul, mul_comm (Fd.inv (df (n + 1) x i)), ← mul_assoc]
/-- the multipliers of the dual of the dual -/
theorem dual_dual {a d : α} (ha : a ≠ 0) (hd : d ≠ 0) : Fd.inv (Fd.inv (a * d) * d) = a :=
  (inv_unique (by rw [mul_assoc, mul_comm d, inv_mul (mul_ne_zero ha hd)])).symm
/-- a polynomial other than 0 has few zeros -/
theorem sep {n K : Nat} {x : Nat → α} (h : Dist n x) {p : Ps α} (hp : Dg p K) (h0 : p ≠ 0) (P : Nat → Bool) (hP : ∀ i, i < n → P i = false → ev K p (x i) = 0) : n + 1 ≤ cnt n P + K := by
  obtain ⟨K, rfl⟩ : ∃ k, K = k + 1 := ⟨K - 1, by
    rcases Nat.eq_zero_or_pos K with e | e
    · subst e; exact absurd hp.eq_zero h0
    · omega⟩
  have h1 := cnt_not n P
  rcases Nat.lt_or_ge K (cnt n fun i => !P i) with h2 | h2
  · exfalso
    refine h0 (roots_le K p (((List.range n).filter fun i => !P i).map x) hp ?_ ?_ ?_)
    · rw [List.nodup_iff_pairwise_ne, List.pairwise_map]
      have h3 : List.Pairwise (· < ·) ((List.range n).filter fun i => !P i) := List.Pairwise.filter _ List.pairwise_lt_range
      refine List.Pairwise.imp_of_mem ?_ h3
      intro i j hi hj hij e
      have hi' := List.mem_range.1 (List.mem_filter.1 hi).1
      have hj' := List.mem_range.1 (List.mem_filter.1 hj).1
      have := h i j hi' hj' e
      omega
    · intro y hy
      obtain ⟨i, hi, rfl⟩ := List.mem_map.1 hy
      have h4 := List.mem_filter.1 hi
      exact hP i (List.mem_range.1 h4.1) (by simpa using h4.2)
    · rw [List.length_map, cnt_filter]; exact h2
  · omega
end
/-- m unlike indices at which P is false -/
theorem cnt_few {n m : Nat} (P : Nat → Bool) (f : Nat → Nat) (hf : ∀ i j, i < j → j < m → f i ≠ f j) (hn : ∀ i, i < m → f i < n ∧ P (f i) = false) : cnt n P + m ≤ n := by
  have h1 := cnt_not n P
  have h2 : m ≤ cnt n fun i => !P i := by
    rw [← cnt_filter]
    have h3 := nodup_le ((List.range m).map f) ((List.range n).filter fun i => !P i) (nodup_map_range hf) fun y hy => by
      obtain ⟨i, hi, rfl⟩ := List.mem_map.1 hy
      have := hn i (List.mem_range.1 hi)
      exact List.mem_filter.2 ⟨List.mem_range.2 this.1, by simp [this.2]⟩
    rwa [List.length_map, List.length_range] at h3
  omega
end Go.Proofs.Yteiafdhejcgjcaa.Alg
/- The ghost code of some functions. -/
namespace Go.Proofs.Yteiafdhejcgjcaa.Gh
open Go Go.RowKit
def B_poly_Eval : GCode :=
  (.seq (.region [⟨(some 6), .mov (.c (.int .i64 0)), none⟩])
  (.seq (.region [⟨(some 7), .mov (.c (.int .i64 0)), none⟩])
  (.seq (.seq (.region [⟨(some 9), .mov (.t 1), none⟩,
    ⟨(some 10), .len (.t 9), none⟩,
    ⟨(some 11), .bin .sub (.t 10) (.c (.int .i64 1)), none⟩,
    ⟨(some 8), .mov (.t 11), none⟩])
  (.block 0 (.loop (.seq (.seq (.region [⟨(some 12), .mov (.t 8), none⟩,
    ⟨(some 13), .bin .geq (.t 12) (.c (.int .i64 0)), none⟩])
  (.cond (.t 13)
  .skip
  (.exit 0)))
  (.seq (.block 1 (.draw [0, 0, 0, 0, 14, 0, 0, 96, 224, 511, 1023]
    [⟨(some 16), .mov (.t 0), none⟩,
    ⟨(some 17), .mov (.t 0), none⟩,
    ⟨(some 18), .mov (.t 7), none⟩,
    ⟨(some 19), .mov (.t 2), none⟩,
    ⟨(some 20), .call fid_field_GF_Mul [(.t 17), (.t 18), (.t 19)], none⟩,
    ⟨(some 21), .mov (.t 1), none⟩,
    ⟨(some 22), .mov (.t 8), none⟩,
    ⟨(some 23), .indexAddr 1 (.t 21) (.t 22), none⟩,
    ⟨(some 24), .load none (.t 23), none⟩]
    [⟨(some 25), .call fid_field_GF_Add [(.t 16), (.t 20), (.t 24)], none⟩,
    ⟨(some 7), .mov (.t 25), none⟩]))
  (.region [⟨(some 14), .mov (.t 8), none⟩,
    ⟨(some 15), .bin .sub (.t 14) (.c (.int .i64 1)), none⟩,
    ⟨(some 8), .mov (.t 15), none⟩]))))))
  (.seq (.region [⟨(some 26), .mov (.t 7), none⟩,
    ⟨(some 6), .mov (.t 26), none⟩])
  .ret))))
def F_poly_Eval : GFun := ⟨3, 27, B_poly_Eval, [.t 6]⟩
theorem ok_poly_Eval : okFun Go.Proofs.Try.prog fid_poly_Eval F_poly_Eval = true := by kernel_rfl
end Go.Proofs.Yteiafdhejcgjcaa.Gh
/- The ghost code of some functions. -/
namespace Go.Proofs.Yteiafdhejcgjcaa.Gh
open Go Go.RowKit
def B_ref05_Canon : GCode :=
  (.seq (.region [⟨(some 2), .box (.t 0), none⟩,
    ⟨(some 4), .mov (.c (.nil)), none⟩])
  (.seq (.region [⟨(some 5), .mov (.c (.int .i64 0)), none⟩])
  (.seq (.seq (.region [⟨(some 6), .mov (.c (.int .i64 0)), none⟩])
  (.block 0 (.loop (.seq (.seq (.region [⟨(some 9), .mov (.t 6), none⟩,
    ⟨(some 10), .mov (.t 1), none⟩,
    ⟨(some 11), .len (.t 10), none⟩,
    ⟨(some 12), .bin .lss (.t 9) (.t 11), none⟩])
  (.cond (.t 12)
  .skip
  (.exit 0)))
  (.seq (.block 1 (.seq (.draw [0, 0, 0, 6, 14, 31, 63]
    [⟨(some 15), .load (some 3) (.t 2), none⟩,
    ⟨(some 16), .mov (.t 1), none⟩,
    ⟨(some 17), .mov (.t 6), none⟩,
    ⟨(some 18), .indexAddr 1 (.t 16) (.t 17), none⟩,
    ⟨(some 19), .load none (.t 18), none⟩]
    [⟨(some 20), .call fid_ref04_In [(.t 15), (.t 19)], none⟩,
    ⟨(some 21), .bin .neq (.t 20) (.c (.int .i64 0)), none⟩])
  (.cond (.t 21)
  (.region [⟨(some 22), .mov (.t 6), none⟩,
    ⟨(some 23), .bin .add (.t 22) (.c (.int .i64 1)), none⟩,
    ⟨(some 5), .mov (.t 23), none⟩])
  .skip)))
  (.region [⟨(some 13), .mov (.t 6), none⟩,
    ⟨(some 14), .bin .add (.t 13) (.c (.int .i64 1)), none⟩,
    ⟨(some 6), .mov (.t 14), none⟩]))))))
  (.seq (.region [⟨(some 24), .mov (.t 5), none⟩,
    ⟨(some 25), .mslice (.int .i64 0) 8 (.t 24) (.t 24), none⟩,
    ⟨(some 7), .mov (.t 25), none⟩])
  (.seq (.seq (.region [⟨(some 8), .mov (.c (.int .i64 0)), none⟩])
  (.block 2 (.loop (.seq (.seq (.region [⟨(some 26), .mov (.t 8), none⟩,
    ⟨(some 27), .mov (.t 5), none⟩,
    ⟨(some 28), .bin .lss (.t 26) (.t 27), none⟩])
  (.cond (.t 28)
  .skip
  (.exit 2)))
  (.seq (.block 3 (.draw [0, 0, 0, 0, 0, 24, 56, 124, 255, 511]
    [⟨(some 31), .mov (.t 7), none⟩,
    ⟨(some 32), .mov (.t 8), none⟩,
    ⟨(some 33), .load (some 3) (.t 2), none⟩,
    ⟨(some 34), .mov (.t 1), none⟩,
    ⟨(some 35), .mov (.t 8), none⟩,
    ⟨(some 36), .indexAddr 1 (.t 34) (.t 35), none⟩,
    ⟨(some 37), .load none (.t 36), none⟩,
    ⟨(some 38), .call fid_ref04_In [(.t 33), (.t 37)], none⟩]
    [⟨(some 39), .indexAddr 1 (.t 31) (.t 32), none⟩,
    ⟨none, .store 1 (.t 39) (.t 38), none⟩]))
  (.region [⟨(some 29), .mov (.t 8), none⟩,
    ⟨(some 30), .bin .add (.t 29) (.c (.int .i64 1)), none⟩,
    ⟨(some 8), .mov (.t 30), none⟩]))))))
  (.seq (.region [⟨(some 40), .mov (.t 7), none⟩,
    ⟨(some 4), .mov (.t 40), none⟩])
  .ret))))))
def F_ref05_Canon : GFun := ⟨2, 41, B_ref05_Canon, [.t 4]⟩
theorem ok_ref05_Canon : okFun Go.Proofs.Try.prog fid_ref05_Canon F_ref05_Canon = true := by kernel_rfl
def B_ref05_Eval : GCode :=
  (.seq (.region [⟨(some 3), .box (.t 0), none⟩,
    ⟨(some 6), .mov (.c (.int .i64 0)), none⟩])
  (.seq (.region [⟨(some 7), .mov (.c (.int .i64 0)), none⟩])
  (.seq (.region [⟨(some 8), .mov (.c (.int .i64 1)), none⟩])
  (.seq (.seq (.region [⟨(some 9), .mov (.c (.int .i64 0)), none⟩])
  (.block 0 (.loop (.seq (.seq (.region [⟨(some 10), .mov (.t 9), none⟩,
    ⟨(some 11), .mov (.t 1), none⟩,
    ⟨(some 12), .len (.t 11), none⟩,
    ⟨(some 13), .bin .lss (.t 10) (.t 12), none⟩])
  (.cond (.t 13)
  .skip
  (.exit 0)))
  (.seq (.block 1 (.seq (.draw [0, 0, 0, 0, 0, 24, 56, 0, 252, 511, 1023]
    [⟨(some 16), .load (some 3) (.t 3), none⟩,
    ⟨(some 17), .mov (.t 7), none⟩,
    ⟨(some 18), .load (some 3) (.t 3), none⟩,
    ⟨(some 19), .mov (.t 1), none⟩,
    ⟨(some 20), .mov (.t 9), none⟩,
    ⟨(some 21), .indexAddr 1 (.t 19) (.t 20), none⟩,
    ⟨(some 22), .load none (.t 21), none⟩,
    ⟨(some 23), .mov (.t 8), none⟩,
    ⟨(some 24), .call fid_ref04_Mul [(.t 18), (.t 22), (.t 23)], none⟩]
    [⟨(some 25), .call fid_ref04_Add [(.t 16), (.t 17), (.t 24)], none⟩,
    ⟨(some 7), .mov (.t 25), none⟩])
  (.region [⟨(some 26), .load (some 3) (.t 3), none⟩,
    ⟨(some 27), .mov (.t 8), none⟩,
    ⟨(some 28), .mov (.t 2), none⟩,
    ⟨(some 29), .call fid_ref04_Mul [(.t 26), (.t 27), (.t 28)], none⟩,
    ⟨(some 8), .mov (.t 29), none⟩])))
  (.region [⟨(some 14), .mov (.t 9), none⟩,
    ⟨(some 15), .bin .add (.t 14) (.c (.int .i64 1)), none⟩,
    ⟨(some 9), .mov (.t 15), none⟩]))))))
  (.seq (.region [⟨(some 30), .mov (.t 7), none⟩,
    ⟨(some 6), .mov (.t 30), none⟩])
  .ret)))))
def F_ref05_Eval : GFun := ⟨3, 31, B_ref05_Eval, [.t 6]⟩
theorem ok_ref05_Eval : okFun Go.Proofs.Try.prog fid_ref05_Eval F_ref05_Eval = true := by kernel_rfl
def B_ref05_FromRoots : GCode :=
  (.seq (.region [⟨(some 2), .box (.t 0), none⟩,
    ⟨(some 4), .mov (.c (.nil)), none⟩])
  (.seq (.region [⟨(some 7), .bslice 1 [.int .i64 0] [(0, 1, (.c (.int .i64 1)))], none⟩,
    ⟨(some 5), .mov (.t 7), none⟩])
  (.seq (.seq (.region [⟨(some 6), .mov (.c (.int .i64 0)), none⟩])
  (.block 0 (.loop (.seq (.seq (.region [⟨(some 8), .mov (.t 6), none⟩,
    ⟨(some 9), .mov (.t 1), none⟩,
    ⟨(some 10), .len (.t 9), none⟩,
    ⟨(some 11), .bin .lss (.t 8) (.t 10), none⟩])
  (.cond (.t 11)
  .skip
  (.exit 0)))
  (.seq (.block 1 (.draw [0, 0, 0, 0, 0, 24, 56, 124, 252, 511, 1023]
    [⟨(some 14), .load (some 3) (.t 2), none⟩,
    ⟨(some 15), .mov (.t 5), none⟩,
    ⟨(some 16), .load (some 3) (.t 2), none⟩,
    ⟨(some 17), .mov (.t 1), none⟩,
    ⟨(some 18), .mov (.t 6), none⟩,
    ⟨(some 19), .indexAddr 1 (.t 17) (.t 18), none⟩,
    ⟨(some 20), .load none (.t 19), none⟩,
    ⟨(some 21), .call fid_ref04_Neg [(.t 16), (.t 20)], none⟩,
    ⟨(some 22), .blit [.int .i64 0, .int .i64 0] [(0, 1, (.t 21)), (1, 1, (.c (.int .i64 1)))], none⟩]
    [⟨(some 23), .call fid_ref05_Mul [(.t 14), (.t 15), (.t 22)], none⟩,
    ⟨(some 5), .mov (.t 23), none⟩]))
  (.region [⟨(some 12), .mov (.t 6), none⟩,
    ⟨(some 13), .bin .add (.t 12) (.c (.int .i64 1)), none⟩,
    ⟨(some 6), .mov (.t 13), none⟩]))))))
  (.seq (.region [⟨(some 24), .mov (.t 5), none⟩,
    ⟨(some 4), .mov (.t 24), none⟩])
  .ret))))
def F_ref05_FromRoots : GFun := ⟨2, 25, B_ref05_FromRoots, [.t 4]⟩
theorem ok_ref05_FromRoots : okFun Go.Proofs.Try.prog fid_ref05_FromRoots F_ref05_FromRoots = true := by kernel_rfl
def B_ref05_Mul : GCode :=
  (.seq (.region [⟨(some 3), .box (.t 0), none⟩,
    ⟨(some 6), .mov (.c (.nil)), none⟩])
  (.seq (.region [⟨(some 10), .load (some 3) (.t 3), none⟩,
    ⟨(some 11), .mov (.t 1), none⟩,
    ⟨(some 12), .call fid_ref05_Canon [(.t 10), (.t 11)], none⟩,
    ⟨(some 1), .mov (.t 12), none⟩])
  (.seq (.region [⟨(some 13), .load (some 3) (.t 3), none⟩,
    ⟨(some 14), .mov (.t 2), none⟩,
    ⟨(some 15), .call fid_ref05_Canon [(.t 13), (.t 14)], none⟩,
    ⟨(some 2), .mov (.t 15), none⟩])
  (.seq (.region [⟨(some 16), .mov (.t 1), none⟩,
    ⟨(some 17), .len (.t 16), none⟩,
    ⟨(some 18), .mov (.t 2), none⟩,
    ⟨(some 19), .len (.t 18), none⟩,
    ⟨(some 20), .bin .add (.t 17) (.t 19), none⟩,
    ⟨(some 21), .mslice (.int .i64 0) 8 (.t 20) (.t 20), none⟩,
    ⟨(some 7), .mov (.t 21), none⟩])
  (.seq (.seq (.region [⟨(some 8), .mov (.c (.int .i64 0)), none⟩])
  (.block 0 (.loop (.seq (.seq (.region [⟨(some 22), .mov (.t 8), none⟩,
    ⟨(some 23), .mov (.t 1), none⟩,
    ⟨(some 24), .len (.t 23), none⟩,
    ⟨(some 25), .bin .lss (.t 22) (.t 24), none⟩])
  (.cond (.t 25)
  .skip
  (.exit 0)))
  (.seq (.block 1 (.seq (.region [⟨(some 9), .mov (.c (.int .i64 0)), none⟩])
  (.block 2 (.loop (.seq (.seq (.region [⟨(some 28), .mov (.t 9), none⟩,
    ⟨(some 29), .mov (.t 2), none⟩,
    ⟨(some 30), .len (.t 29), none⟩,
    ⟨(some 31), .bin .lss (.t 28) (.t 30), none⟩])
  (.cond (.t 31)
  .skip
  (.exit 2)))
  (.seq (.block 3 (.draw [0, 0, 0, 6, 0, 0, 0, 0, 192, 480, 992, 0, 0, 0, 12288, 28672, 0, 0, 196608, 458752, 1046528, 2097136, 4194303, 8388607]
    [⟨(some 34), .mov (.t 7), none⟩,
    ⟨(some 35), .mov (.t 8), none⟩,
    ⟨(some 36), .mov (.t 9), none⟩,
    ⟨(some 37), .bin .add (.t 35) (.t 36), none⟩,
    ⟨(some 38), .load (some 3) (.t 3), none⟩,
    ⟨(some 39), .mov (.t 7), none⟩,
    ⟨(some 40), .mov (.t 8), none⟩,
    ⟨(some 41), .mov (.t 9), none⟩,
    ⟨(some 42), .bin .add (.t 40) (.t 41), none⟩,
    ⟨(some 43), .indexAddr 1 (.t 39) (.t 42), none⟩,
    ⟨(some 44), .load none (.t 43), none⟩,
    ⟨(some 45), .load (some 3) (.t 3), none⟩,
    ⟨(some 46), .mov (.t 1), none⟩,
    ⟨(some 47), .mov (.t 8), none⟩,
    ⟨(some 48), .indexAddr 1 (.t 46) (.t 47), none⟩,
    ⟨(some 49), .load none (.t 48), none⟩,
    ⟨(some 50), .mov (.t 2), none⟩,
    ⟨(some 51), .mov (.t 9), none⟩,
    ⟨(some 52), .indexAddr 1 (.t 50) (.t 51), none⟩,
    ⟨(some 53), .load none (.t 52), none⟩,
    ⟨(some 54), .call fid_ref04_Mul [(.t 45), (.t 49), (.t 53)], none⟩,
    ⟨(some 55), .call fid_ref04_Add [(.t 38), (.t 44), (.t 54)], none⟩]
    [⟨(some 56), .indexAddr 1 (.t 34) (.t 37), none⟩,
    ⟨none, .store 1 (.t 56) (.t 55), none⟩]))
  (.region [⟨(some 32), .mov (.t 9), none⟩,
    ⟨(some 33), .bin .add (.t 32) (.c (.int .i64 1)), none⟩,
    ⟨(some 9), .mov (.t 33), none⟩])))))))
  (.region [⟨(some 26), .mov (.t 8), none⟩,
    ⟨(some 27), .bin .add (.t 26) (.c (.int .i64 1)), none⟩,
    ⟨(some 8), .mov (.t 27), none⟩]))))))
  (.seq (.region [⟨(some 57), .load (some 3) (.t 3), none⟩,
    ⟨(some 58), .mov (.t 7), none⟩,
    ⟨(some 59), .call fid_ref05_Canon [(.t 57), (.t 58)], none⟩,
    ⟨(some 6), .mov (.t 59), none⟩])
  .ret))))))
def F_ref05_Mul : GFun := ⟨3, 60, B_ref05_Mul, [.t 6]⟩
theorem ok_ref05_Mul : okFun Go.Proofs.Try.prog fid_ref05_Mul F_ref05_Mul = true := by kernel_rfl
end Go.Proofs.Yteiafdhejcgjcaa.Gh
/- The ghost code of some functions. -/
namespace Go.Proofs.Yteiafdhejcgjcaa.Gh
open Go Go.RowKit
def B_law18_GrsChecks : GCode :=
  (.seq (.region [⟨(some 1), .box (.t 0), none⟩,
    ⟨(some 2), .mov (.c (.bool false)), none⟩])
  (.seq (.seq (.region [⟨(some 3), .call fid_law18_alive [], none⟩,
    ⟨(some 4), .un .not (.t 3), none⟩])
  (.cond (.t 4)
  (.seq (.region [⟨(some 2), .mov (.c (.bool false)), none⟩])
  .ret)
  .skip))
  (.seq (.seq (.region [⟨(some 5), .fieldAddr 4 (.t 1), none⟩,
    ⟨(some 6), .load none (.t 5), none⟩,
    ⟨(some 7), .len (.t 6), none⟩,
    ⟨(some 8), .bin .gtr (.t 7) (.c (.int .i64 300)), none⟩])
  (.cond (.t 8)
  (.seq (.region [⟨(some 2), .mov (.c (.bool true)), none⟩])
  .ret)
  .skip))
  (.seq (.draw [0, 1, 0, 7, 15, 31]
    [⟨(some 9), .load (some 6) (.t 1), none⟩,
    ⟨(some 10), .call fid_grs_Check [(.t 9)], none⟩,
    ⟨(some 11), .load (some 6) (.t 1), none⟩]
    [⟨(some 12), .call fid_ref18_Check [(.t 11)], none⟩,
    ⟨(some 13), .bin .eql (.t 10) (.t 12), none⟩,
    ⟨(some 2), .mov (.t 13), none⟩])
  .ret))))
def F_law18_GrsChecks : GFun := ⟨1, 14, B_law18_GrsChecks, [.t 2]⟩
theorem ok_law18_GrsChecks : okFun Go.Proofs.Try.prog fid_law18_GrsChecks F_law18_GrsChecks = true := by kernel_rfl
def B_law18_GrsDuals : GCode :=
  (.seq (.region [⟨(some 1), .box (.t 0), none⟩,
    ⟨(some 2), .mov (.c (.bool false)), none⟩])
  (.seq (.seq (.region [⟨(some 8), .call fid_law18_alive [], none⟩,
    ⟨(some 9), .un .not (.t 8), none⟩])
  (.cond (.t 9)
  (.seq (.region [⟨(some 2), .mov (.c (.bool false)), none⟩])
  .ret)
  .skip))
  (.seq (.seq (.region [⟨(some 10), .fieldAddr 4 (.t 1), none⟩,
    ⟨(some 11), .load none (.t 10), none⟩,
    ⟨(some 12), .len (.t 11), none⟩,
    ⟨(some 13), .bin .gtr (.t 12) (.c (.int .i64 24)), none⟩])
  (.cond (.t 13)
  (.seq (.region [⟨(some 2), .mov (.c (.bool true)), none⟩])
  .ret)
  .skip))
  (.seq (.region [⟨(some 15), .load (some 6) (.t 1), none⟩,
    ⟨(some 16), .call fid_grs_Dual [(.t 15)], none⟩,
    ⟨(some 14), .mov (.t 16), none⟩,
    ⟨(some 17), .extract 0 (.t 14), none⟩,
    ⟨(some 18), .extract 1 (.t 14), none⟩,
    ⟨(some 3), .alloc [.int .i64 0, .int .i64 0, .nil, .int .i64 0, .nil, .nil], none⟩,
    ⟨none, .store 6 (.t 3) (.t 17), none⟩,
    ⟨(some 4), .mov (.t 18), none⟩])
  (.seq (.seq (.region [⟨(some 19), .load (some 6) (.t 1), none⟩,
    ⟨(some 20), .call fid_ref18_Check [(.t 19)], none⟩,
    ⟨(some 5), .mov (.t 20), none⟩])
  (.seq (.region [⟨(some 21), .mov (.t 5), none⟩,
    ⟨(some 22), .bin .neq (.t 21) (.c (.int .i64 0)), none⟩])
  (.cond (.t 22)
  (.seq (.region [⟨(some 23), .mov (.t 4), none⟩,
    ⟨(some 24), .mov (.t 5), none⟩,
    ⟨(some 25), .bin .eql (.t 23) (.t 24), none⟩,
    ⟨(some 26), .mov (.t 25), none⟩,
    ⟨(some 27), .load (some 6) (.t 3), (some (26, true))⟩,
    ⟨(some 28), .call fid_ref18_Zero [(.t 27)], (some (26, true))⟩,
    ⟨(some 29), .pick (.t 26) (.t 28) (.c (.bool false)), none⟩,
    ⟨(some 2), .mov (.t 29), none⟩])
  .ret)
  .skip)))
  (.seq (.region [⟨(some 31), .load (some 6) (.t 3), none⟩,
    ⟨(some 32), .call fid_grs_Dual [(.t 31)], none⟩,
    ⟨(some 30), .mov (.t 32), none⟩,
    ⟨(some 33), .extract 0 (.t 30), none⟩,
    ⟨(some 34), .extract 1 (.t 30), none⟩,
    ⟨(some 6), .alloc [.int .i64 0, .int .i64 0, .nil, .int .i64 0, .nil, .nil], none⟩,
    ⟨none, .store 6 (.t 6) (.t 33), none⟩,
    ⟨(some 7), .mov (.t 34), none⟩])
  (.seq (.draw [0, 1, 3, 7, 15, 31, 63, 127, 127, 383, 1023, 2047, 4095, 8191, 8191, 32767, 65535, 131071]
    [⟨(some 35), .mov (.t 4), none⟩,
    ⟨(some 36), .bin .eql (.t 35) (.c (.int .i64 0)), none⟩,
    ⟨(some 37), .mov (.t 36), none⟩,
    ⟨(some 38), .mov (.t 7), (some (37, true))⟩,
    ⟨(some 39), .bin .eql (.t 38) (.c (.int .i64 0)), (some (37, true))⟩,
    ⟨(some 40), .pick (.t 37) (.t 39) (.c (.bool false)), none⟩,
    ⟨(some 41), .mov (.t 40), none⟩,
    ⟨(some 42), .load (some 6) (.t 3), (some (41, true))⟩,
    ⟨(some 43), .load (some 6) (.t 1), (some (41, true))⟩,
    ⟨(some 44), .call fid_ref18_Dual [(.t 43)], (some (41, true))⟩,
    ⟨(some 45), .call fid_ref18_Same [(.t 42), (.t 44)], (some (41, true))⟩,
    ⟨(some 46), .pick (.t 41) (.t 45) (.c (.bool false)), none⟩,
    ⟨(some 47), .mov (.t 46), none⟩,
    ⟨(some 48), .load (some 6) (.t 6), (some (47, true))⟩,
    ⟨(some 49), .load (some 6) (.t 1), (some (47, true))⟩]
    [⟨(some 50), .call fid_ref18_Same [(.t 48), (.t 49)], (some (47, true))⟩,
    ⟨(some 51), .pick (.t 47) (.t 50) (.c (.bool false)), none⟩,
    ⟨(some 2), .mov (.t 51), none⟩])
  .ret)))))))
def F_law18_GrsDuals : GFun := ⟨1, 52, B_law18_GrsDuals, [.t 2]⟩
theorem ok_law18_GrsDuals : okFun Go.Proofs.Try.prog fid_law18_GrsDuals F_law18_GrsDuals = true := by kernel_rfl
def B_law18_GrsEncodes : GCode :=
  (.seq (.region [⟨(some 2), .box (.t 0), none⟩,
    ⟨(some 4), .mov (.c (.bool false)), none⟩])
  (.seq (.seq (.region [⟨(some 8), .call fid_law18_alive [], none⟩,
    ⟨(some 9), .un .not (.t 8), none⟩])
  (.cond (.t 9)
  (.seq (.region [⟨(some 4), .mov (.c (.bool false)), none⟩])
  .ret)
  .skip))
  (.seq (.seq (.region [⟨(some 10), .fieldAddr 4 (.t 2), none⟩,
    ⟨(some 11), .load none (.t 10), none⟩,
    ⟨(some 12), .len (.t 11), none⟩,
    ⟨(some 13), .bin .gtr (.t 12) (.c (.int .i64 24)), none⟩,
    ⟨(some 14), .mov (.t 13), none⟩,
    ⟨(some 15), .mov (.t 1), (some (14, false))⟩,
    ⟨(some 16), .len (.t 15), (some (14, false))⟩,
    ⟨(some 17), .bin .gtr (.t 16) (.c (.int .i64 300)), (some (14, false))⟩,
    ⟨(some 18), .pick (.t 14) (.c (.bool true)) (.t 17), none⟩])
  (.cond (.t 18)
  (.seq (.region [⟨(some 4), .mov (.c (.bool true)), none⟩])
  .ret)
  .skip))
  (.seq (.region [⟨(some 20), .load (some 6) (.t 2), none⟩,
    ⟨(some 21), .mov (.t 1), none⟩,
    ⟨(some 22), .call fid_grs_Encode [(.t 20), (.t 21)], none⟩,
    ⟨(some 19), .mov (.t 22), none⟩,
    ⟨(some 23), .extract 0 (.t 19), none⟩,
    ⟨(some 24), .extract 1 (.t 19), none⟩,
    ⟨(some 5), .mov (.t 23), none⟩,
    ⟨(some 6), .mov (.t 24), none⟩])
  (.seq (.region [⟨(some 25), .load (some 6) (.t 2), none⟩,
    ⟨(some 26), .call fid_ref18_Check [(.t 25)], none⟩,
    ⟨(some 7), .mov (.t 26), none⟩])
  (.seq (.seq (.region [⟨(some 27), .mov (.t 7), none⟩,
    ⟨(some 28), .bin .eql (.t 27) (.c (.int .i64 0)), none⟩])
  (.cond (.t 28)
  (.region [⟨(some 29), .fieldAddr 0 (.t 2), none⟩,
    ⟨(some 30), .load (some 3) (.t 29), none⟩,
    ⟨(some 31), .mov (.t 1), none⟩,
    ⟨(some 32), .fieldAddr 3 (.t 2), none⟩,
    ⟨(some 33), .load none (.t 32), none⟩,
    ⟨(some 34), .call fid_ref18_Elements [(.t 30), (.t 31), (.t 33), (.c (.int .i64 3))], none⟩,
    ⟨(some 7), .mov (.t 34), none⟩])
  .skip))
  (.seq (.seq (.region [⟨(some 35), .mov (.t 7), none⟩,
    ⟨(some 36), .bin .neq (.t 35) (.c (.int .i64 0)), none⟩])
  (.cond (.t 36)
  (.seq (.region [⟨(some 37), .mov (.t 6), none⟩,
    ⟨(some 38), .mov (.t 7), none⟩,
    ⟨(some 39), .bin .eql (.t 37) (.t 38), none⟩,
    ⟨(some 40), .mov (.t 39), none⟩,
    ⟨(some 41), .mov (.t 5), (some (40, true))⟩,
    ⟨(some 42), .len (.t 41), (some (40, true))⟩,
    ⟨(some 43), .bin .eql (.t 42) (.c (.int .i64 0)), (some (40, true))⟩,
    ⟨(some 44), .pick (.t 40) (.t 43) (.c (.bool false)), none⟩,
    ⟨(some 4), .mov (.t 44), none⟩])
  .ret)
  .skip))
  (.seq (.region [⟨(some 45), .mov (.t 6), none⟩,
    ⟨(some 46), .bin .eql (.t 45) (.c (.int .i64 0)), none⟩,
    ⟨(some 47), .mov (.t 46), none⟩,
    ⟨(some 48), .mov (.t 5), (some (47, true))⟩,
    ⟨(some 49), .load (some 6) (.t 2), (some (47, true))⟩,
    ⟨(some 50), .mov (.t 1), (some (47, true))⟩,
    ⟨(some 51), .call fid_ref18_Word [(.t 49), (.t 50)], (some (47, true))⟩,
    ⟨(some 52), .call fid_law18_same [(.t 48), (.t 51)], (some (47, true))⟩,
    ⟨(some 53), .pick (.t 47) (.t 52) (.c (.bool false)), none⟩,
    ⟨(some 4), .mov (.t 53), none⟩])
  .ret))))))))
def F_law18_GrsEncodes : GFun := ⟨2, 54, B_law18_GrsEncodes, [.t 4]⟩
theorem ok_law18_GrsEncodes : okFun Go.Proofs.Try.prog fid_law18_GrsEncodes F_law18_GrsEncodes = true := by kernel_rfl
def B_law18_GrsLightest : GCode :=
  (.seq (.region [⟨(some 2), .box (.t 0), none⟩,
    ⟨(some 4), .mov (.c (.bool false)), none⟩])
  (.seq (.seq (.region [⟨(some 10), .call fid_law18_alive [], none⟩,
    ⟨(some 11), .un .not (.t 10), none⟩])
  (.cond (.t 11)
  (.seq (.region [⟨(some 4), .mov (.c (.bool false)), none⟩])
  .ret)
  .skip))
  (.seq (.seq (.region [⟨(some 12), .load (some 6) (.t 2), none⟩,
    ⟨(some 13), .call fid_law18_good [(.t 12)], none⟩,
    ⟨(some 14), .un .not (.t 13), none⟩,
    ⟨(some 15), .mov (.t 14), none⟩,
    ⟨(some 16), .fieldAddr 3 (.t 2), (some (15, false))⟩,
    ⟨(some 17), .load none (.t 16), (some (15, false))⟩,
    ⟨(some 18), .bin .lss (.t 17) (.c (.int .i64 1)), (some (15, false))⟩,
    ⟨(some 19), .pick (.t 15) (.c (.bool true)) (.t 18), none⟩])
  (.cond (.t 19)
  (.seq (.region [⟨(some 4), .mov (.c (.bool true)), none⟩])
  .ret)
  .skip))
  (.seq (.region [⟨(some 20), .fieldAddr 4 (.t 2), none⟩,
    ⟨(some 21), .load none (.t 20), none⟩,
    ⟨(some 22), .len (.t 21), none⟩,
    ⟨(some 5), .mov (.t 22), none⟩])
  (.seq (.region [⟨(some 6), .mov (.c (.nil)), none⟩])
  (.seq (.seq (.region [⟨(some 23), .fieldAddr 3 (.t 2), none⟩,
    ⟨(some 24), .load none (.t 23), none⟩,
    ⟨(some 25), .bin .sub (.t 24) (.c (.int .i64 1)), none⟩,
    ⟨(some 26), .mov (.c (.int .i64 0)), none⟩])
  (.block 0 (.loop (.seq (.region [⟨(some 27), .bin .lss (.t 26) (.t 25), none⟩])
  (.seq (.cond (.t 27)
  .skip
  (.exit 0))
  (.seq (.block 1 (.seq (.region [⟨(some 28), .mov (.t 26), none⟩,
    ⟨(some 7), .mov (.t 28), none⟩])
  (.draw [0, 0, 2, 0, 0, 16, 0, 64, 240, 496, 1016, 0, 4088, 8190, 16382, 32766, 65535, 131071]
    [⟨(some 29), .mov (.t 6), none⟩,
    ⟨(some 30), .fieldAddr 4 (.t 2), none⟩,
    ⟨(some 31), .load none (.t 30), none⟩,
    ⟨(some 32), .mov (.t 7), none⟩,
    ⟨(some 33), .mov (.t 1), none⟩,
    ⟨(some 34), .conv .u64 (.t 33), none⟩,
    ⟨(some 35), .mov (.t 5), none⟩,
    ⟨(some 36), .conv .u64 (.t 35), none⟩,
    ⟨(some 37), .bin .rem (.t 34) (.t 36), none⟩,
    ⟨(some 38), .conv .i64 (.t 37), none⟩,
    ⟨(some 39), .bin .add (.t 32) (.t 38), none⟩,
    ⟨(some 40), .mov (.t 5), none⟩,
    ⟨(some 41), .bin .rem (.t 39) (.t 40), none⟩,
    ⟨(some 42), .indexAddr 1 (.t 31) (.t 41), none⟩,
    ⟨(some 43), .load none (.t 42), none⟩,
    ⟨(some 44), .blit [.int .i64 0] [(0, 1, (.t 43))], none⟩]
    [⟨(some 45), .append 8 (.t 29) (.t 44), none⟩,
    ⟨(some 6), .mov (.t 45), none⟩])))
  (.region [⟨(some 46), .bin .add (.t 26) (.c (.int .i64 1)), none⟩,
    ⟨(some 26), .mov (.t 46), none⟩])))))))
  (.seq (.draw [0, 0, 2, 0, 14, 31, 63, 127, 127, 255, 1023]
    [⟨(some 48), .load (some 6) (.t 2), none⟩,
    ⟨(some 49), .fieldAddr 0 (.t 2), none⟩,
    ⟨(some 50), .load (some 3) (.t 49), none⟩,
    ⟨(some 51), .mov (.t 6), none⟩,
    ⟨(some 52), .call fid_ref05_FromRoots [(.t 50), (.t 51)], none⟩,
    ⟨(some 53), .call fid_grs_Encode [(.t 48), (.t 52)], none⟩,
    ⟨(some 47), .mov (.t 53), none⟩,
    ⟨(some 54), .extract 0 (.t 47), none⟩,
    ⟨(some 55), .extract 1 (.t 47), none⟩,
    ⟨(some 8), .mov (.t 54), none⟩]
    [⟨(some 9), .mov (.t 55), none⟩])
  (.seq (.draw [0, 1, 3, 7, 15, 7, 63, 127, 255, 511, 1023, 511, 511, 4607, 14847, 31231, 65535, 131071, 262143]
    [⟨(some 56), .mov (.t 9), none⟩,
    ⟨(some 57), .bin .eql (.t 56) (.c (.int .i64 0)), none⟩,
    ⟨(some 58), .mov (.t 57), none⟩,
    ⟨(some 59), .mov (.t 8), (some (58, true))⟩,
    ⟨(some 60), .len (.t 59), (some (58, true))⟩,
    ⟨(some 61), .mov (.t 5), (some (58, true))⟩,
    ⟨(some 62), .bin .eql (.t 60) (.t 61), (some (58, true))⟩,
    ⟨(some 63), .pick (.t 58) (.t 62) (.c (.bool false)), none⟩,
    ⟨(some 64), .mov (.t 63), none⟩,
    ⟨(some 65), .mov (.t 8), (some (64, true))⟩,
    ⟨(some 66), .call fid_ref18_Weight [(.t 65)], (some (64, true))⟩,
    ⟨(some 67), .mov (.t 5), (some (64, true))⟩,
    ⟨(some 68), .fieldAddr 3 (.t 2), (some (64, true))⟩,
    ⟨(some 69), .load none (.t 68), (some (64, true))⟩,
    ⟨(some 70), .bin .sub (.t 67) (.t 69), (some (64, true))⟩,
    ⟨(some 71), .bin .add (.t 70) (.c (.int .i64 1)), (some (64, true))⟩]
    [⟨(some 72), .bin .eql (.t 66) (.t 71), (some (64, true))⟩,
    ⟨(some 73), .pick (.t 64) (.t 72) (.c (.bool false)), none⟩,
    ⟨(some 4), .mov (.t 73), none⟩])
  .ret))))))))
def F_law18_GrsLightest : GFun := ⟨2, 74, B_law18_GrsLightest, [.t 4]⟩
theorem ok_law18_GrsLightest : okFun Go.Proofs.Try.prog fid_law18_GrsLightest F_law18_GrsLightest = true := by kernel_rfl
def B_law18_GrsOrthogonal : GCode :=
  (.seq (.region [⟨(some 2), .box (.t 0), none⟩,
    ⟨(some 3), .box (.t 1), none⟩,
    ⟨(some 4), .mov (.c (.bool false)), none⟩])
  (.seq (.seq (.region [⟨(some 11), .call fid_law18_alive [], none⟩,
    ⟨(some 12), .un .not (.t 11), none⟩])
  (.cond (.t 12)
  (.seq (.region [⟨(some 4), .mov (.c (.bool false)), none⟩])
  .ret)
  .skip))
  (.seq (.seq (.region [⟨(some 13), .load (some 6) (.t 2), none⟩,
    ⟨(some 14), .call fid_law18_good [(.t 13)], none⟩,
    ⟨(some 15), .un .not (.t 14), none⟩,
    ⟨(some 16), .mov (.t 15), none⟩,
    ⟨(some 17), .fieldAddr 0 (.t 2), (some (16, false))⟩,
    ⟨(some 18), .load (some 3) (.t 17), (some (16, false))⟩,
    ⟨(some 19), .arrAddr 2 1 (.t 3) (.c (.int .i64 0)), (some (16, false))⟩,
    ⟨(some 20), .load none (.t 19), (some (16, false))⟩,
    ⟨(some 21), .fieldAddr 3 (.t 2), (some (16, false))⟩,
    ⟨(some 22), .load none (.t 21), (some (16, false))⟩,
    ⟨(some 23), .call fid_ref18_Elements [(.t 18), (.t 20), (.t 22), (.c (.int .i64 3))], (some (16, false))⟩,
    ⟨(some 24), .bin .neq (.t 23) (.c (.int .i64 0)), (some (16, false))⟩,
    ⟨(some 25), .pick (.t 16) (.c (.bool true)) (.t 24), none⟩,
    ⟨(some 26), .mov (.t 25), none⟩,
    ⟨(some 27), .fieldAddr 0 (.t 2), (some (26, false))⟩,
    ⟨(some 28), .load (some 3) (.t 27), (some (26, false))⟩,
    ⟨(some 29), .arrAddr 2 1 (.t 3) (.c (.int .i64 1)), (some (26, false))⟩,
    ⟨(some 30), .load none (.t 29), (some (26, false))⟩,
    ⟨(some 31), .fieldAddr 4 (.t 2), (some (26, false))⟩,
    ⟨(some 32), .load none (.t 31), (some (26, false))⟩,
    ⟨(some 33), .len (.t 32), (some (26, false))⟩,
    ⟨(some 34), .fieldAddr 3 (.t 2), (some (26, false))⟩,
    ⟨(some 35), .load none (.t 34), (some (26, false))⟩,
    ⟨(some 36), .bin .sub (.t 33) (.t 35), (some (26, false))⟩,
    ⟨(some 37), .call fid_ref18_Elements [(.t 28), (.t 30), (.t 36), (.c (.int .i64 3))], (some (26, false))⟩,
    ⟨(some 38), .bin .neq (.t 37) (.c (.int .i64 0)), (some (26, false))⟩,
    ⟨(some 39), .pick (.t 26) (.c (.bool true)) (.t 38), none⟩])
  (.cond (.t 39)
  (.seq (.region [⟨(some 4), .mov (.c (.bool true)), none⟩])
  .ret)
  .skip))
  (.seq (.region [⟨(some 41), .load (some 6) (.t 2), none⟩,
    ⟨(some 42), .call fid_grs_Dual [(.t 41)], none⟩,
    ⟨(some 40), .mov (.t 42), none⟩,
    ⟨(some 43), .extract 0 (.t 40), none⟩,
    ⟨(some 44), .extract 1 (.t 40), none⟩,
    ⟨(some 5), .alloc [.int .i64 0, .int .i64 0, .nil, .int .i64 0, .nil, .nil], none⟩,
    ⟨none, .store 6 (.t 5) (.t 43), none⟩,
    ⟨(some 6), .mov (.t 44), none⟩])
  (.seq (.region [⟨(some 46), .load (some 6) (.t 2), none⟩,
    ⟨(some 47), .arrAddr 2 1 (.t 3) (.c (.int .i64 0)), none⟩,
    ⟨(some 48), .load none (.t 47), none⟩,
    ⟨(some 49), .call fid_grs_Encode [(.t 46), (.t 48)], none⟩,
    ⟨(some 45), .mov (.t 49), none⟩,
    ⟨(some 50), .extract 0 (.t 45), none⟩,
    ⟨(some 51), .extract 1 (.t 45), none⟩,
    ⟨(some 7), .mov (.t 50), none⟩,
    ⟨(some 8), .mov (.t 51), none⟩])
  (.seq (.region [⟨(some 53), .load (some 6) (.t 5), none⟩,
    ⟨(some 54), .arrAddr 2 1 (.t 3) (.c (.int .i64 1)), none⟩,
    ⟨(some 55), .load none (.t 54), none⟩,
    ⟨(some 56), .call fid_grs_Encode [(.t 53), (.t 55)], none⟩,
    ⟨(some 52), .mov (.t 56), none⟩,
    ⟨(some 57), .extract 0 (.t 52), none⟩,
    ⟨(some 58), .extract 1 (.t 52), none⟩,
    ⟨(some 9), .mov (.t 57), none⟩,
    ⟨(some 10), .mov (.t 58), none⟩])
  (.seq (.region [⟨(some 59), .mov (.t 6), none⟩,
    ⟨(some 60), .bin .eql (.t 59) (.c (.int .i64 0)), none⟩,
    ⟨(some 61), .mov (.t 60), none⟩,
    ⟨(some 62), .mov (.t 8), (some (61, true))⟩,
    ⟨(some 63), .bin .eql (.t 62) (.c (.int .i64 0)), (some (61, true))⟩,
    ⟨(some 64), .pick (.t 61) (.t 63) (.c (.bool false)), none⟩,
    ⟨(some 65), .mov (.t 64), none⟩,
    ⟨(some 66), .mov (.t 10), (some (65, true))⟩,
    ⟨(some 67), .bin .eql (.t 66) (.c (.int .i64 0)), (some (65, true))⟩,
    ⟨(some 68), .pick (.t 65) (.t 67) (.c (.bool false)), none⟩,
    ⟨(some 69), .mov (.t 68), none⟩,
    ⟨(some 70), .mov (.t 7), (some (69, true))⟩,
    ⟨(some 71), .len (.t 70), (some (69, true))⟩,
    ⟨(some 72), .fieldAddr 4 (.t 2), (some (69, true))⟩,
    ⟨(some 73), .load none (.t 72), (some (69, true))⟩,
    ⟨(some 74), .len (.t 73), (some (69, true))⟩,
    ⟨(some 75), .bin .eql (.t 71) (.t 74), (some (69, true))⟩,
    ⟨(some 76), .pick (.t 69) (.t 75) (.c (.bool false)), none⟩,
    ⟨(some 77), .mov (.t 76), none⟩,
    ⟨(some 78), .mov (.t 9), (some (77, true))⟩,
    ⟨(some 79), .len (.t 78), (some (77, true))⟩,
    ⟨(some 80), .mov (.t 7), (some (77, true))⟩,
    ⟨(some 81), .len (.t 80), (some (77, true))⟩,
    ⟨(some 82), .bin .eql (.t 79) (.t 81), (some (77, true))⟩,
    ⟨(some 83), .pick (.t 77) (.t 82) (.c (.bool false)), none⟩,
    ⟨(some 84), .mov (.t 83), none⟩,
    ⟨(some 85), .fieldAddr 0 (.t 2), (some (84, true))⟩,
    ⟨(some 86), .load (some 3) (.t 85), (some (84, true))⟩,
    ⟨(some 87), .mov (.t 7), (some (84, true))⟩,
    ⟨(some 88), .mov (.t 9), (some (84, true))⟩,
    ⟨(some 89), .call fid_ref04_Dot [(.t 86), (.t 87), (.t 88)], (some (84, true))⟩,
    ⟨(some 90), .bin .eql (.t 89) (.c (.int .i64 0)), (some (84, true))⟩,
    ⟨(some 91), .pick (.t 84) (.t 90) (.c (.bool false)), none⟩,
    ⟨(some 4), .mov (.t 91), none⟩])
  .ret)))))))
def F_law18_GrsOrthogonal : GFun := ⟨2, 92, B_law18_GrsOrthogonal, [.t 4]⟩
theorem ok_law18_GrsOrthogonal : okFun Go.Proofs.Try.prog fid_law18_GrsOrthogonal F_law18_GrsOrthogonal = true := by kernel_rfl
def B_law18_GrsSeparates : GCode :=
  (.seq (.region [⟨(some 2), .box (.t 0), none⟩,
    ⟨(some 4), .mov (.c (.bool false)), none⟩])
  (.seq (.seq (.region [⟨(some 7), .call fid_law18_alive [], none⟩,
    ⟨(some 8), .un .not (.t 7), none⟩])
  (.cond (.t 8)
  (.seq (.region [⟨(some 4), .mov (.c (.bool false)), none⟩])
  .ret)
  .skip))
  (.seq (.seq (.region [⟨(some 9), .load (some 6) (.t 2), none⟩,
    ⟨(some 10), .call fid_law18_good [(.t 9)], none⟩,
    ⟨(some 11), .un .not (.t 10), none⟩,
    ⟨(some 12), .mov (.t 11), none⟩,
    ⟨(some 13), .fieldAddr 0 (.t 2), (some (12, false))⟩,
    ⟨(some 14), .load (some 3) (.t 13), (some (12, false))⟩,
    ⟨(some 15), .mov (.t 1), (some (12, false))⟩,
    ⟨(some 16), .fieldAddr 3 (.t 2), (some (12, false))⟩,
    ⟨(some 17), .load none (.t 16), (some (12, false))⟩,
    ⟨(some 18), .call fid_ref18_Elements [(.t 14), (.t 15), (.t 17), (.c (.int .i64 3))], (some (12, false))⟩,
    ⟨(some 19), .bin .neq (.t 18) (.c (.int .i64 0)), (some (12, false))⟩,
    ⟨(some 20), .pick (.t 12) (.c (.bool true)) (.t 19), none⟩,
    ⟨(some 21), .mov (.t 20), none⟩,
    ⟨(some 22), .mov (.t 1), (some (21, false))⟩,
    ⟨(some 23), .call fid_ref18_Weight [(.t 22)], (some (21, false))⟩,
    ⟨(some 24), .bin .eql (.t 23) (.c (.int .i64 0)), (some (21, false))⟩,
    ⟨(some 25), .pick (.t 21) (.c (.bool true)) (.t 24), none⟩])
  (.cond (.t 25)
  (.seq (.region [⟨(some 4), .mov (.c (.bool true)), none⟩])
  .ret)
  .skip))
  (.seq (.region [⟨(some 27), .load (some 6) (.t 2), none⟩,
    ⟨(some 28), .mov (.t 1), none⟩,
    ⟨(some 29), .call fid_grs_Encode [(.t 27), (.t 28)], none⟩,
    ⟨(some 26), .mov (.t 29), none⟩,
    ⟨(some 30), .extract 0 (.t 26), none⟩,
    ⟨(some 31), .extract 1 (.t 26), none⟩,
    ⟨(some 5), .mov (.t 30), none⟩,
    ⟨(some 6), .mov (.t 31), none⟩])
  (.seq (.draw [0, 1, 3, 7, 15, 7, 39, 103, 255, 511, 1023, 2047, 4095, 2047, 10239, 2047, 34815, 124927, 255999, 524287, 1048575, 2097151]
    [⟨(some 32), .mov (.t 6), none⟩,
    ⟨(some 33), .bin .eql (.t 32) (.c (.int .i64 0)), none⟩,
    ⟨(some 34), .mov (.t 33), none⟩,
    ⟨(some 35), .mov (.t 5), (some (34, true))⟩,
    ⟨(some 36), .len (.t 35), (some (34, true))⟩,
    ⟨(some 37), .fieldAddr 4 (.t 2), (some (34, true))⟩,
    ⟨(some 38), .load none (.t 37), (some (34, true))⟩,
    ⟨(some 39), .len (.t 38), (some (34, true))⟩,
    ⟨(some 40), .bin .eql (.t 36) (.t 39), (some (34, true))⟩,
    ⟨(some 41), .pick (.t 34) (.t 40) (.c (.bool false)), none⟩,
    ⟨(some 42), .mov (.t 41), none⟩,
    ⟨(some 43), .mov (.t 5), (some (42, true))⟩,
    ⟨(some 44), .call fid_ref18_Weight [(.t 43)], (some (42, true))⟩,
    ⟨(some 45), .mov (.t 5), (some (42, true))⟩,
    ⟨(some 46), .len (.t 45), (some (42, true))⟩,
    ⟨(some 47), .fieldAddr 3 (.t 2), (some (42, true))⟩,
    ⟨(some 48), .load none (.t 47), (some (42, true))⟩,
    ⟨(some 49), .bin .sub (.t 46) (.t 48), (some (42, true))⟩,
    ⟨(some 50), .bin .add (.t 49) (.c (.int .i64 1)), (some (42, true))⟩]
    [⟨(some 51), .bin .geq (.t 44) (.t 50), (some (42, true))⟩,
    ⟨(some 52), .pick (.t 42) (.t 51) (.c (.bool false)), none⟩,
    ⟨(some 4), .mov (.t 52), none⟩])
  .ret)))))
def F_law18_GrsSeparates : GFun := ⟨2, 53, B_law18_GrsSeparates, [.t 4]⟩
theorem ok_law18_GrsSeparates : okFun Go.Proofs.Try.prog fid_law18_GrsSeparates F_law18_GrsSeparates = true := by kernel_rfl
def B_law18_GrsStandard : GCode :=
  (.seq (.region [⟨(some 3), .box (.t 0), none⟩,
    ⟨(some 6), .mov (.c (.bool false)), none⟩])
  (.seq (.seq (.region [⟨(some 12), .call fid_law18_alive [], none⟩,
    ⟨(some 13), .un .not (.t 12), none⟩])
  (.cond (.t 13)
  (.seq (.region [⟨(some 6), .mov (.c (.bool false)), none⟩])
  .ret)
  .skip))
  (.seq (.region [⟨(some 15), .load (some 3) (.t 3), none⟩,
    ⟨(some 16), .mov (.t 1), none⟩,
    ⟨(some 17), .mov (.t 2), none⟩,
    ⟨(some 18), .call fid_grs_Standard [(.t 15), (.t 16), (.t 17)], none⟩,
    ⟨(some 14), .mov (.t 18), none⟩,
    ⟨(some 19), .extract 0 (.t 14), none⟩,
    ⟨(some 20), .extract 1 (.t 14), none⟩,
    ⟨(some 7), .alloc [.int .i64 0, .int .i64 0, .nil, .int .i64 0, .nil, .nil], none⟩,
    ⟨none, .store 6 (.t 7) (.t 19), none⟩,
    ⟨(some 8), .mov (.t 20), none⟩])
  (.seq (.region [⟨(some 21), .load (some 3) (.t 3), none⟩,
    ⟨(some 22), .call fid_ref04_Order [(.t 21)], none⟩,
    ⟨(some 9), .mov (.t 22), none⟩])
  (.seq (.block 0 (.seq (.region [⟨(some 24), .load (some 3) (.t 3), none⟩,
    ⟨(some 25), .call fid_ref04_Check [(.t 24)], none⟩,
    ⟨(some 26), .bin .neq (.t 25) (.c (.int .i64 0)), none⟩,
    ⟨(some 23), .mov (.t 26), none⟩])
  (.cond (.t 23)
  (.seq (.region [⟨(some 27), .mov (.t 8), none⟩,
    ⟨(some 28), .bin .eql (.t 27) (.c (.int .i64 1)), none⟩,
    ⟨(some 29), .mov (.t 28), none⟩,
    ⟨(some 30), .load (some 6) (.t 7), (some (29, true))⟩,
    ⟨(some 31), .call fid_ref18_Zero [(.t 30)], (some (29, true))⟩,
    ⟨(some 32), .pick (.t 29) (.t 31) (.c (.bool false)), none⟩,
    ⟨(some 6), .mov (.t 32), none⟩])
  .ret)
  (.seq (.region [⟨(some 34), .mov (.t 1), none⟩,
    ⟨(some 35), .bin .lss (.t 34) (.c (.int .i64 1)), none⟩,
    ⟨(some 36), .mov (.t 35), none⟩,
    ⟨(some 37), .mov (.t 1), (some (36, false))⟩,
    ⟨(some 38), .mov (.t 9), (some (36, false))⟩,
    ⟨(some 39), .mm false (.t 38) (.c (.int .i64 64)), (some (36, false))⟩,
    ⟨(some 40), .bin .gtr (.t 37) (.t 39), (some (36, false))⟩,
    ⟨(some 41), .pick (.t 36) (.c (.bool true)) (.t 40), none⟩,
    ⟨(some 33), .mov (.t 41), none⟩])
  (.cond (.t 33)
  (.seq (.region [⟨(some 42), .mov (.t 8), none⟩,
    ⟨(some 43), .bin .eql (.t 42) (.c (.int .i64 4)), none⟩,
    ⟨(some 44), .mov (.t 43), none⟩,
    ⟨(some 45), .load (some 6) (.t 7), (some (44, true))⟩,
    ⟨(some 46), .call fid_ref18_Zero [(.t 45)], (some (44, true))⟩,
    ⟨(some 47), .pick (.t 44) (.t 46) (.c (.bool false)), none⟩,
    ⟨(some 6), .mov (.t 47), none⟩])
  .ret)
  (.seq (.region [⟨(some 49), .mov (.t 2), none⟩,
    ⟨(some 50), .bin .lss (.t 49) (.c (.int .i64 0)), none⟩,
    ⟨(some 51), .mov (.t 50), none⟩,
    ⟨(some 52), .mov (.t 2), (some (51, false))⟩,
    ⟨(some 53), .mov (.t 1), (some (51, false))⟩,
    ⟨(some 54), .bin .gtr (.t 52) (.t 53), (some (51, false))⟩,
    ⟨(some 55), .pick (.t 51) (.c (.bool true)) (.t 54), none⟩,
    ⟨(some 48), .mov (.t 55), none⟩])
  (.cond (.t 48)
  (.seq (.region [⟨(some 56), .mov (.t 8), none⟩,
    ⟨(some 57), .bin .eql (.t 56) (.c (.int .i64 6)), none⟩,
    ⟨(some 58), .mov (.t 57), none⟩,
    ⟨(some 59), .load (some 6) (.t 7), (some (58, true))⟩,
    ⟨(some 60), .call fid_ref18_Zero [(.t 59)], (some (58, true))⟩,
    ⟨(some 61), .pick (.t 58) (.t 60) (.c (.bool false)), none⟩,
    ⟨(some 6), .mov (.t 61), none⟩])
  .ret)
  .skip)))))))
  (.seq (.region [⟨(some 62), .load (some 3) (.t 3), none⟩,
    ⟨(some 63), .mov (.t 2), none⟩,
    ⟨(some 64), .build [.int .i64 0, .int .i64 0, .nil, .int .i64 0, .nil, .nil] [(0, 3, (.t 62)), (3, 1, (.t 63))], none⟩,
    ⟨(some 10), .alloc [.int .i64 0, .int .i64 0, .nil, .int .i64 0, .nil, .nil], none⟩,
    ⟨none, .store 6 (.t 10) (.t 64), none⟩])
  (.seq (.seq (.region [⟨(some 65), .mov (.t 1), none⟩,
    ⟨(some 66), .mov (.c (.int .i64 0)), none⟩])
  (.block 1 (.loop (.seq (.region [⟨(some 67), .bin .lss (.t 66) (.t 65), none⟩])
  (.seq (.cond (.t 67)
  .skip
  (.exit 1))
  (.seq (.block 2 (.seq (.region [⟨(some 68), .mov (.t 66), none⟩,
    ⟨(some 11), .mov (.t 68), none⟩])
  (.seq (.region [⟨(some 69), .fieldAddr 4 (.t 10), none⟩,
    ⟨(some 70), .load none (.t 69), none⟩,
    ⟨(some 71), .mov (.t 11), none⟩,
    ⟨(some 72), .bslice 1 [.int .i64 0] [(0, 1, (.t 71))], none⟩,
    ⟨(some 73), .append 8 (.t 70) (.t 72), none⟩,
    ⟨(some 74), .fieldAddr 4 (.t 10), none⟩,
    ⟨none, .store 1 (.t 74) (.t 73), none⟩])
  (.region [⟨(some 75), .fieldAddr 5 (.t 10), none⟩,
    ⟨(some 76), .load none (.t 75), none⟩,
    ⟨(some 77), .bslice 1 [.int .i64 0] [(0, 1, (.c (.int .i64 1)))], none⟩,
    ⟨(some 78), .append 8 (.t 76) (.t 77), none⟩,
    ⟨(some 79), .fieldAddr 5 (.t 10), none⟩,
    ⟨none, .store 1 (.t 79) (.t 78), none⟩]))))
  (.region [⟨(some 80), .bin .add (.t 66) (.c (.int .i64 1)), none⟩,
    ⟨(some 66), .mov (.t 80), none⟩])))))))
  (.seq (.region [⟨(some 81), .mov (.t 8), none⟩,
    ⟨(some 82), .bin .eql (.t 81) (.c (.int .i64 0)), none⟩,
    ⟨(some 83), .mov (.t 82), none⟩,
    ⟨(some 84), .load (some 6) (.t 7), (some (83, true))⟩,
    ⟨(some 85), .load (some 6) (.t 10), (some (83, true))⟩,
    ⟨(some 86), .call fid_ref18_Same [(.t 84), (.t 85)], (some (83, true))⟩,
    ⟨(some 87), .pick (.t 83) (.t 86) (.c (.bool false)), none⟩,
    ⟨(some 88), .mov (.t 87), none⟩,
    ⟨(some 89), .load (some 6) (.t 7), (some (88, true))⟩,
    ⟨(some 90), .call fid_ref18_Check [(.t 89)], (some (88, true))⟩,
    ⟨(some 91), .bin .eql (.t 90) (.c (.int .i64 0)), (some (88, true))⟩,
    ⟨(some 92), .pick (.t 88) (.t 91) (.c (.bool false)), none⟩,
    ⟨(some 6), .mov (.t 92), none⟩])
  .ret))))))))
def F_law18_GrsStandard : GFun := ⟨3, 93, B_law18_GrsStandard, [.t 6]⟩
theorem ok_law18_GrsStandard : okFun Go.Proofs.Try.prog fid_law18_GrsStandard F_law18_GrsStandard = true := by kernel_rfl
def B_law18_alive : GCode :=
  (.seq (.region [⟨(some 0), .mov (.c (.bool false)), none⟩])
  (.seq (.region [⟨(some 8), .bslice 2 [.int .i64 0, .int .i64 0] [(0, 1, (.c (.int .i64 1))), (1, 1, (.c (.int .i64 1)))], none⟩,
    ⟨(some 9), .build [.int .i64 0, .int .i64 0, .nil] [(0, 1, (.c (.int .i64 2))), (1, 1, (.c (.int .i64 2))), (2, 1, (.t 8))], none⟩,
    ⟨(some 10), .call fid_grs_Standard [(.t 9), (.c (.int .i64 3)), (.c (.int .i64 2))], none⟩,
    ⟨(some 7), .mov (.t 10), none⟩,
    ⟨(some 11), .extract 0 (.t 7), none⟩,
    ⟨(some 12), .extract 1 (.t 7), none⟩,
    ⟨(some 1), .alloc [.int .i64 0, .int .i64 0, .nil, .int .i64 0, .nil, .nil], none⟩,
    ⟨none, .store 6 (.t 1) (.t 11), none⟩,
    ⟨(some 2), .mov (.t 12), none⟩])
  (.seq (.region [⟨(some 14), .load (some 6) (.t 1), none⟩,
    ⟨(some 15), .bslice 2 [.int .i64 0, .int .i64 0] [(0, 1, (.c (.int .i64 1))), (1, 1, (.c (.int .i64 1)))], none⟩,
    ⟨(some 16), .call fid_grs_Encode [(.t 14), (.t 15)], none⟩,
    ⟨(some 13), .mov (.t 16), none⟩,
    ⟨(some 17), .extract 0 (.t 13), none⟩,
    ⟨(some 18), .extract 1 (.t 13), none⟩,
    ⟨(some 3), .mov (.t 17), none⟩,
    ⟨(some 4), .mov (.t 18), none⟩])
  (.seq (.region [⟨(some 20), .load (some 6) (.t 1), none⟩,
    ⟨(some 21), .call fid_grs_Dual [(.t 20)], none⟩,
    ⟨(some 19), .mov (.t 21), none⟩,
    ⟨(some 22), .extract 0 (.t 19), none⟩,
    ⟨(some 23), .extract 1 (.t 19), none⟩,
    ⟨(some 5), .alloc [.int .i64 0, .int .i64 0, .nil, .int .i64 0, .nil, .nil], none⟩,
    ⟨none, .store 6 (.t 5) (.t 22), none⟩,
    ⟨(some 6), .mov (.t 23), none⟩])
  (.seq (.region [⟨(some 24), .mov (.t 2), none⟩,
    ⟨(some 25), .bin .eql (.t 24) (.c (.int .i64 0)), none⟩,
    ⟨(some 26), .mov (.t 25), none⟩,
    ⟨(some 27), .mov (.t 4), (some (26, true))⟩,
    ⟨(some 28), .bin .eql (.t 27) (.c (.int .i64 0)), (some (26, true))⟩,
    ⟨(some 29), .pick (.t 26) (.t 28) (.c (.bool false)), none⟩,
    ⟨(some 30), .mov (.t 29), none⟩,
    ⟨(some 31), .mov (.t 6), (some (30, true))⟩,
    ⟨(some 32), .bin .eql (.t 31) (.c (.int .i64 0)), (some (30, true))⟩,
    ⟨(some 33), .pick (.t 30) (.t 32) (.c (.bool false)), none⟩,
    ⟨(some 34), .mov (.t 33), none⟩,
    ⟨(some 35), .mov (.t 3), (some (34, true))⟩,
    ⟨(some 36), .bslice 3 [.int .i64 0, .int .i64 0, .int .i64 0] [(0, 1, (.c (.int .i64 1))), (1, 1, (.c (.int .i64 0))), (2, 1, (.c (.int .i64 3)))], (some (34, true))⟩,
    ⟨(some 37), .call fid_law18_same [(.t 35), (.t 36)], (some (34, true))⟩,
    ⟨(some 38), .pick (.t 34) (.t 37) (.c (.bool false)), none⟩,
    ⟨(some 39), .mov (.t 38), none⟩,
    ⟨(some 40), .fieldAddr 3 (.t 5), (some (39, true))⟩,
    ⟨(some 41), .load none (.t 40), (some (39, true))⟩,
    ⟨(some 42), .bin .eql (.t 41) (.c (.int .i64 1)), (some (39, true))⟩,
    ⟨(some 43), .pick (.t 39) (.t 42) (.c (.bool false)), none⟩,
    ⟨(some 44), .mov (.t 43), none⟩,
    ⟨(some 45), .fieldAddr 5 (.t 5), (some (44, true))⟩,
    ⟨(some 46), .load none (.t 45), (some (44, true))⟩,
    ⟨(some 47), .bslice 3 [.int .i64 0, .int .i64 0, .int .i64 0] [(0, 1, (.c (.int .i64 3))), (1, 1, (.c (.int .i64 2))), (2, 1, (.c (.int .i64 1)))], (some (44, true))⟩,
    ⟨(some 48), .call fid_law18_same [(.t 46), (.t 47)], (some (44, true))⟩,
    ⟨(some 49), .pick (.t 44) (.t 48) (.c (.bool false)), none⟩,
    ⟨(some 0), .mov (.t 49), none⟩])
  .ret)))))
def F_law18_alive : GFun := ⟨0, 50, B_law18_alive, [.t 0]⟩
theorem ok_law18_alive : okFun Go.Proofs.Try.prog fid_law18_alive F_law18_alive = true := by kernel_rfl
def B_law18_good : GCode :=
  (.seq (.region [⟨(some 1), .box (.t 0), none⟩,
    ⟨(some 2), .mov (.c (.bool false)), none⟩])
  (.seq (.region [⟨(some 3), .fieldAddr 4 (.t 1), none⟩,
    ⟨(some 4), .load none (.t 3), none⟩,
    ⟨(some 5), .len (.t 4), none⟩,
    ⟨(some 6), .bin .leq (.t 5) (.c (.int .i64 24)), none⟩,
    ⟨(some 7), .mov (.t 6), none⟩,
    ⟨(some 8), .load (some 6) (.t 1), (some (7, true))⟩,
    ⟨(some 9), .call fid_ref18_Check [(.t 8)], (some (7, true))⟩,
    ⟨(some 10), .bin .eql (.t 9) (.c (.int .i64 0)), (some (7, true))⟩,
    ⟨(some 11), .pick (.t 7) (.t 10) (.c (.bool false)), none⟩,
    ⟨(some 2), .mov (.t 11), none⟩])
  .ret))
def F_law18_good : GFun := ⟨1, 12, B_law18_good, [.t 2]⟩
theorem ok_law18_good : okFun Go.Proofs.Try.prog fid_law18_good F_law18_good = true := by kernel_rfl
def B_law18_same : GCode :=
  (.seq (.region [⟨(some 4), .mov (.c (.bool false)), none⟩])
  (.seq (.seq (.region [⟨(some 6), .mov (.t 0), none⟩,
    ⟨(some 7), .len (.t 6), none⟩,
    ⟨(some 8), .mov (.t 1), none⟩,
    ⟨(some 9), .len (.t 8), none⟩,
    ⟨(some 10), .bin .neq (.t 7) (.t 9), none⟩])
  (.cond (.t 10)
  (.seq (.region [⟨(some 4), .mov (.c (.bool false)), none⟩])
  .ret)
  .skip))
  (.seq (.seq (.region [⟨(some 11), .mov (.t 0), none⟩,
    ⟨(some 12), .len (.t 11), none⟩,
    ⟨(some 13), .mov (.c (.int .i64 0)), none⟩])
  (.block 0 (.loop (.seq (.region [⟨(some 14), .bin .lss (.t 13) (.t 12), none⟩])
  (.seq (.cond (.t 14)
  .skip
  (.exit 0))
  (.seq (.block 1 (.seq (.region [⟨(some 15), .mov (.t 13), none⟩,
    ⟨(some 5), .mov (.t 15), none⟩])
  (.seq (.draw [0, 0, 3, 7, 0, 0, 48, 112, 255]
    [⟨(some 16), .mov (.t 0), none⟩,
    ⟨(some 17), .mov (.t 5), none⟩,
    ⟨(some 18), .indexAddr 1 (.t 16) (.t 17), none⟩,
    ⟨(some 19), .load none (.t 18), none⟩,
    ⟨(some 20), .mov (.t 1), none⟩,
    ⟨(some 21), .mov (.t 5), none⟩,
    ⟨(some 22), .indexAddr 1 (.t 20) (.t 21), none⟩,
    ⟨(some 23), .load none (.t 22), none⟩]
    [⟨(some 24), .bin .neq (.t 19) (.t 23), none⟩])
  (.cond (.t 24)
  (.seq (.region [⟨(some 4), .mov (.c (.bool false)), none⟩])
  .ret)
  .skip))))
  (.region [⟨(some 25), .bin .add (.t 13) (.c (.int .i64 1)), none⟩,
    ⟨(some 13), .mov (.t 25), none⟩])))))))
  (.seq (.region [⟨(some 4), .mov (.c (.bool true)), none⟩])
  .ret))))
def F_law18_same : GFun := ⟨2, 26, B_law18_same, [.t 4]⟩
theorem ok_law18_same : okFun Go.Proofs.Try.prog fid_law18_same F_law18_same = true := by kernel_rfl
end Go.Proofs.Yteiafdhejcgjcaa.Gh
/- Values of polynomials, codewords. -/
namespace Go.Proofs.Yteiafdhejcgjcaa.Gh
open Go Go.RowKit
open Alg (CR Ps Dg Zm Mn El Cg sm pw Irr Prm)
set_option linter.unusedVariables false
set_option linter.unusedSimpArgs false

section
variable {k : Nat} {M : Mn k}
/-- the polynomial of a row -/
def pf (M : Mn k) (f : Nat → Int) : Ps (El M) := ⟨fun i => ein M (f i)⟩
theorem sm_horner {α : Type} [CR α] (p : Nat → α) (x : α) (m : Nat) : sm (m + 1) (fun t => p t * pw x t) = sm m (fun t => p (t + 1) * pw x t) * x + p 0 := by
  rw [Alg.sm_head, Alg.pw_zero, Alg.mul_one, Alg.add_comm, Alg.sm_mul]
  congr 1
  exact Alg.sm_congr fun t _ => by rw [Alg.pw_succ, Alg.mul_assoc]
theorem sp_poly_Eval {H : Heap} {n : Nat} (h : Fi M) {a : GV} {l : Nat} {f : Nat → Int} (ha : Rd H n a l f) (hl : l ≤ 1000000) (x : Int) :
    Spec prog fid_poly_Eval [h.gf, a, .int .i64 x] H n (.int .i64 (cn (Alg.ev l (pf M f) (ein M x)) : Nat)) H n := by
  refine spec_ends hmix ok_poly_Eval rfl fun hF => ?_
  show gw prog B_poly_Eval _ (tl 27 _) H n
  have hal := ha.len
  have hw0 := wrap64 (x := (l : Int) - 1) (by omega)
  simp -implicitDefEqProofs only [B_poly_Eval, go_sem, Nat.reduceLT, Nat.reduceBEq, Nat.reduceAdd, Nat.reduceEqDiff, Nat.reduceLeDiff, Nat.reduceSub, Nat.reduceMul, hal, hw0]
  refine loop_rule (fun (j : Nat) E H' n' => H' = H ∧ n' = n ∧ E 0 = h.gf ∧ E 1 = a ∧ E 2 = .int .i64 x ∧ E 7 = .int .i64 (cn (sm (l - j) fun t => ein M (f (j + t)) * pw (ein M x) t) : Nat) ∧ E 8 = .int .i64 ((j : Int) - 1) ∧ j ≤ l) (fun j => j) l ⟨rfl, rfl, rfl, rfl, rfl, ?_, rfl, by omega⟩ ?_
  · simp -implicitDefEqProofs only [go_sem, Nat.reduceLT, Nat.reduceBEq, Nat.reduceAdd, Nat.reduceEqDiff, Nat.reduceLeDiff, Nat.reduceSub, Nat.reduceMul, Nat.sub_self, Alg.sm_zero, cn_zero]; rfl
  rintro j E H' n' ⟨rfl, rfl, e0, e1, e2, e7, e8, hj⟩
  cases j with
  | zero =>
    have h0 : (((0 : Nat) : Int) - 1 : Int) = -1 := rfl
    have h1 : ¬ (0 : Int) ≤ -1 := by omega
    rw [h0] at e8
    simp -implicitDefEqProofs only [go_sem, Nat.reduceLT, Nat.reduceBEq, Nat.reduceAdd, Nat.reduceEqDiff, Nat.reduceLeDiff, Nat.reduceSub, Nat.reduceMul, e7, e8, h1]
    refine fin_ret rfl (by decide) ?_ fun _ _ => rfl
    simp -implicitDefEqProofs only [go_sem, Nat.reduceLT, Nat.reduceBEq, Nat.reduceAdd, Nat.reduceEqDiff, Nat.reduceLeDiff, Nat.reduceSub, Nat.reduceMul]
    refine fz_int (congrArg (fun z : El M => ((cn z : Nat) : Int)) ?_)
    rw [Alg.ev]
    exact Alg.sm_congr fun t _ => rfl
  | succ j =>
    have h0 : (((j + 1 : Nat) : Int) - 1 : Int) = (j : Nat) := by omega
    have h1 : (0 : Int) ≤ (j : Nat) := by omega
    rw [h0] at e8
    obtain ⟨pa, pa1, pa2, pa3⟩ := ha.idx j (by omega)
    have pa4 := fun q => pa3 q H' n' (Nat.le_refl _) fun _ _ => rfl
    have hwj := wrap64 (x := (j : Int) - 1) (by omega)
    simp -implicitDefEqProofs only [go_sem, Nat.reduceLT, Nat.reduceBEq, Nat.reduceAdd, Nat.reduceEqDiff, Nat.reduceLeDiff, Nat.reduceSub, Nat.reduceMul, e0, e1, e2, e7, e8, h1, pa1, pa4]
    refine mcall_of (.int _ _) (fun H1 n1 _ _ => sp_GF_Mul h.fc h.g h.gg _ _) ?_
    rw [ein_cn h.fc]
    simp -implicitDefEqProofs only [go_sem, Nat.reduceLT, Nat.reduceBEq, Nat.reduceAdd, Nat.reduceEqDiff, Nat.reduceLeDiff, Nat.reduceSub, Nat.reduceMul, e0, e1, e8, pa1, pa4]
    refine call_of (sp_GF_Add h.fc h.g _ _) ?_
    rw [ein_cn h.fc]
    simp -implicitDefEqProofs only [go_sem, Nat.reduceLT, Nat.reduceBEq, Nat.reduceAdd, Nat.reduceEqDiff, Nat.reduceLeDiff, Nat.reduceSub, Nat.reduceMul, e8, hwj]
    refine l_n ⟨j, by omega, rfl, rfl, by simp -implicitDefEqProofs only [go_sem, Nat.reduceLT, Nat.reduceBEq, Nat.reduceAdd, Nat.reduceEqDiff, Nat.reduceLeDiff, Nat.reduceSub, Nat.reduceMul, e0], by simp -implicitDefEqProofs only [go_sem, Nat.reduceLT, Nat.reduceBEq, Nat.reduceAdd, Nat.reduceEqDiff, Nat.reduceLeDiff, Nat.reduceSub, Nat.reduceMul, e1], by simp -implicitDefEqProofs only [go_sem, Nat.reduceLT, Nat.reduceBEq, Nat.reduceAdd, Nat.reduceEqDiff, Nat.reduceLeDiff, Nat.reduceSub, Nat.reduceMul, e2], ?_, by simp -implicitDefEqProofs only [go_sem, Nat.reduceLT, Nat.reduceBEq, Nat.reduceAdd, Nat.reduceEqDiff, Nat.reduceLeDiff, Nat.reduceSub, Nat.reduceMul], by omega⟩
    simp -implicitDefEqProofs only [go_sem, Nat.reduceLT, Nat.reduceBEq, Nat.reduceAdd, Nat.reduceEqDiff, Nat.reduceLeDiff, Nat.reduceSub, Nat.reduceMul]
    rw [show l - j = (l - (j + 1)) + 1 by omega, sm_horner (fun t => ein M (f (j + t)))]
    have : (fun t => ein M (f (j + (t + 1))) * pw (ein M x) t) = fun t => ein M (f (j + 1 + t)) * pw (ein M x) t := by funext t; rw [show j + (t + 1) = j + 1 + t by omega]
    rw [this]; rfl
theorem sp_ref05_Eval {H : Heap} {n : Nat} (h : Fi M) (l : Nat) (f : Nat → Int) (hl : l ≤ 1000000) (x : Int) :
    Spec prog fid_ref05_Eval [fd M, isl l f, .int .i64 x] H n (.int .i64 (cn (Alg.ev l (pf M f) (ein M x)) : Nat)) H n := by
  refine spec_ends hmix ok_ref05_Eval rfl fun hF => ?_
  show gw prog B_ref05_Eval _ (tl 31 _) H n
  have hone : ((cn (1 : El M) : Nat) : Int) = 1 := by rw [cn_one]; rfl
  simp -implicitDefEqProofs only [B_ref05_Eval, fd, go_sem, Nat.reduceLT, Nat.reduceBEq, Nat.reduceAdd, Nat.reduceEqDiff, Nat.reduceLeDiff, Nat.reduceSub, Nat.reduceMul]
  refine loop_rule (fun (i : Nat) E H' n' => n' = n + 1 ∧ H' n = some [.int .i64 ((k : Int) + 2), .int .i64 (M.m : Nat), fmod M] ∧ (∀ b, b < n → H' b = H b) ∧ E 1 = isl l f ∧ E 2 = .int .i64 x ∧ E 3 = .ptr n 0 ∧ E 7 = .int .i64 (cn (Alg.ev i (pf M f) (ein M x)) : Nat) ∧ E 8 = .int .i64 (cn (pw (ein M x) i) : Nat) ∧ E 9 = .int .i64 (i : Nat) ∧ i ≤ l) (fun i => l - i) 0 ?_ ?_
  · refine ⟨rfl, by simp -implicitDefEqProofs only [go_sem, Nat.reduceLT, Nat.reduceBEq, Nat.reduceAdd, Nat.reduceEqDiff, Nat.reduceLeDiff, Nat.reduceSub, Nat.reduceMul], fun b hb => upd_ne _ _ (by omega), rfl, rfl, rfl, ?_, ?_, rfl, by omega⟩
    · simp -implicitDefEqProofs only [go_sem, Nat.reduceLT, Nat.reduceBEq, Nat.reduceAdd, Nat.reduceEqDiff, Nat.reduceLeDiff, Nat.reduceSub, Nat.reduceMul, Alg.ev, Alg.sm_zero, cn_zero]; rfl
    · simp -implicitDefEqProofs only [go_sem, Nat.reduceLT, Nat.reduceBEq, Nat.reduceAdd, Nat.reduceEqDiff, Nat.reduceLeDiff, Nat.reduceSub, Nat.reduceMul, Alg.pw_zero, hone]
  rintro i E H' n' ⟨rfl, h0, ho, e1, e2, e3, e7, e8, e9, hi⟩
  simp -implicitDefEqProofs only [go_sem, Nat.reduceLT, Nat.reduceBEq, Nat.reduceAdd, Nat.reduceEqDiff, Nat.reduceLeDiff, Nat.reduceSub, Nat.reduceMul, e1, e9]
  refine c_split (fun hc => ?_) (fun hc => ?_)
  · have hiN : i < l := by omega
    have hwi := wrap64 (x := (i : Int) + 1) (by omega)
    simp -implicitDefEqProofs only [go_sem, Nat.reduceLT, Nat.reduceBEq, Nat.reduceAdd, Nat.reduceEqDiff, Nat.reduceLeDiff, Nat.reduceSub, Nat.reduceMul, e1, e2, e3, e7, e8, e9, h0, hc, hiN, gat_tab]
    refine mcall_of (.int _ _) (fun H1 n1 _ _ => sp_ref04_Mul h.fc _ _) ?_
    rw [ein_cn h.fc, cd_cn]
    simp -implicitDefEqProofs only [go_sem, Nat.reduceLT, Nat.reduceBEq, Nat.reduceAdd, Nat.reduceEqDiff, Nat.reduceLeDiff, Nat.reduceSub, Nat.reduceMul]
    refine call_of (sp_ref04_Add h.fc _ _) ?_
    rw [ein_cn h.fc, ein_cn h.fc, cd_cn]
    simp -implicitDefEqProofs only [go_sem, Nat.reduceLT, Nat.reduceBEq, Nat.reduceAdd, Nat.reduceEqDiff, Nat.reduceLeDiff, Nat.reduceSub, Nat.reduceMul, e2, e3, e8, h0]
    refine call_of (sp_ref04_Mul h.fc _ _) ?_
    rw [ein_cn h.fc, cd_cn]
    simp -implicitDefEqProofs only [go_sem, Nat.reduceLT, Nat.reduceBEq, Nat.reduceAdd, Nat.reduceEqDiff, Nat.reduceLeDiff, Nat.reduceSub, Nat.reduceMul, e9, hwi]
    exact l_n ⟨i + 1, by omega, rfl, h0, ho, by simp -implicitDefEqProofs only [go_sem, Nat.reduceLT, Nat.reduceBEq, Nat.reduceAdd, Nat.reduceEqDiff, Nat.reduceLeDiff, Nat.reduceSub, Nat.reduceMul, e1], by simp -implicitDefEqProofs only [go_sem, Nat.reduceLT, Nat.reduceBEq, Nat.reduceAdd, Nat.reduceEqDiff, Nat.reduceLeDiff, Nat.reduceSub, Nat.reduceMul, e2], by simp -implicitDefEqProofs only [go_sem, Nat.reduceLT, Nat.reduceBEq, Nat.reduceAdd, Nat.reduceEqDiff, Nat.reduceLeDiff, Nat.reduceSub, Nat.reduceMul, e3], by simp -implicitDefEqProofs only [go_sem, Nat.reduceLT, Nat.reduceBEq, Nat.reduceAdd, Nat.reduceEqDiff, Nat.reduceLeDiff, Nat.reduceSub, Nat.reduceMul]; rfl, by simp -implicitDefEqProofs only [go_sem, Nat.reduceLT, Nat.reduceBEq, Nat.reduceAdd, Nat.reduceEqDiff, Nat.reduceLeDiff, Nat.reduceSub, Nat.reduceMul]; rfl, by simp -implicitDefEqProofs only [go_sem, Nat.reduceLT, Nat.reduceBEq, Nat.reduceAdd, Nat.reduceEqDiff, Nat.reduceLeDiff, Nat.reduceSub, Nat.reduceMul]; rfl, by omega⟩
  · have : i = l := by omega
    subst this
    simp -implicitDefEqProofs only [go_sem, Nat.reduceLT, Nat.reduceBEq, Nat.reduceAdd, Nat.reduceEqDiff, Nat.reduceLeDiff, Nat.reduceSub, Nat.reduceMul, e7]
    exact fin_ret rfl (by decide) (by simp -implicitDefEqProofs only [go_sem, Nat.reduceLT, Nat.reduceBEq, Nat.reduceAdd, Nat.reduceEqDiff, Nat.reduceLeDiff, Nat.reduceSub, Nat.reduceMul]; exact fz_int rfl) ho
/-- the codeword -/
noncomputable def Gr.w (s : Gr) (M : Mn k) (l : Nat) (f : Nat → Int) : Nat → Int := fun i => (cn (ein M (s.v i) * Alg.ev l (pf M f) (ein M (s.x i))) : Nat)
theorem sp_grs_encode {H : Heap} {n : Nat} (h : Fi M) (s : Gr) (hs : s.Ok) {a : GV} {l : Nat} {f : Nat → Int} (ha : Rd H n a l f) (hl : l ≤ 1000000) :
    Spec prog fid_grs_encode [h.gf, s.gv, a] H n (isl s.np (s.w M l f)) H n := by
  refine spec_ends hmix ok_grs_encode rfl fun hF => ?_
  show gw prog B_grs_encode _ (tl 38 _) H n
  have hnp := hs.n64
  have hnm := hs.nm
  simp -implicitDefEqProofs only [B_grs_encode, go_sem, Nat.reduceLT, Nat.reduceBEq, Nat.reduceAdd, Nat.reduceEqDiff, Nat.reduceLeDiff, Nat.reduceSub, Nat.reduceMul]
  repeat with_reducible refine And.intro (by omega) ?_
  refine loop_rule (fun (i : Nat) E H' n' => n' = n + 2 ∧ H' n = some s.cs ∧ H' (n + 1) = some (tab s.np (it (mix (s.w M l f) (fun _ => 0) i))) ∧ (∀ b, b < n → H' b = H b) ∧ E 0 = h.gf ∧ E 2 = a ∧ E 4 = .ptr n 0 ∧ E 7 = .own (n + 1) 0 s.np ∧ E 15 = isl s.np s.x ∧ E 16 = .int .i64 (s.np : Nat) ∧ E 17 = .int .i64 (i : Nat) ∧ i ≤ s.np) (fun i => s.np - i) 0 ?_ ?_
  · refine ⟨rfl, by simp -implicitDefEqProofs only [go_sem, Nat.reduceLT, Nat.reduceBEq, Nat.reduceAdd, Nat.reduceEqDiff, Nat.reduceLeDiff, Nat.reduceSub, Nat.reduceMul], by simp -implicitDefEqProofs only [go_sem, Nat.reduceLT, Nat.reduceBEq, Nat.reduceAdd, Nat.reduceEqDiff, Nat.reduceLeDiff, Nat.reduceSub, Nat.reduceMul, tab_rep, mix_zero]; rfl, fun b hb => by rw [upd_ne _ _ (by omega), upd_ne _ _ (by omega)], rfl, rfl, rfl, rfl, rfl, rfl, rfl, by omega⟩
  rintro i E H' n' ⟨rfl, h0, h1, ho, e0, e2, e4, e7, e15, e16, e17, hi⟩
  simp -implicitDefEqProofs only [go_sem, Nat.reduceLT, Nat.reduceBEq, Nat.reduceAdd, Nat.reduceEqDiff, Nat.reduceLeDiff, Nat.reduceSub, Nat.reduceMul, e16, e17]
  refine c_split (fun hc => ?_) (fun hc => ?_)
  · have hiN : i < s.np := by omega
    have hiM : i < s.nm := by omega
    have hcM : (i : Int) < (s.nm : Int) := by omega
    have hwi := wrap64 (x := (i : Int) + 1) (by omega)
    have hst := mix_step (s.w M l f) (fun _ => 0) i
    have hk := ha.keep (n' := n + 2) (by omega) ho
    simp -implicitDefEqProofs only [go_sem, Nat.reduceLT, Nat.reduceBEq, Nat.reduceAdd, Nat.reduceEqDiff, Nat.reduceLeDiff, Nat.reduceSub, Nat.reduceMul, e0, e2, e4, e7, e15, e17, h0, hc, hcM, hiN, hiM, gat_tab]
    refine mcall_of (.int _ _) (fun H1 n1 k1 k2 => sp_poly_Eval h (hk.keep k2 k1) hl _) ?_
    simp -implicitDefEqProofs only [go_sem, Nat.reduceLT, Nat.reduceBEq, Nat.reduceAdd, Nat.reduceEqDiff, Nat.reduceLeDiff, Nat.reduceSub, Nat.reduceMul]
    refine mcall_of (.int _ _) (fun H1 n1 k1 k2 => sp_GF_Mul h.fc h.g h.gg _ _) ?_
    rw [ein_cn h.fc]
    have hwv : ((cn (ein M (s.v i) * Alg.ev l (pf M f) (ein M (s.x i))) : Nat) : Int) = s.w M l f i := rfl
    rw [hwv]
    simp -implicitDefEqProofs only [go_sem, Nat.reduceLT, Nat.reduceBEq, Nat.reduceAdd, Nat.reduceEqDiff, Nat.reduceLeDiff, Nat.reduceSub, Nat.reduceMul, h1, hc, hiN, e17, hwi, hst]
    repeat with_reducible refine And.intro (by omega) ?_
    exact l_n ⟨i + 1, by omega, rfl, by simp -implicitDefEqProofs only [go_sem, Nat.reduceLT, Nat.reduceBEq, Nat.reduceAdd, Nat.reduceEqDiff, Nat.reduceLeDiff, Nat.reduceSub, Nat.reduceMul, h0], by simp -implicitDefEqProofs only [go_sem, Nat.reduceLT, Nat.reduceBEq, Nat.reduceAdd, Nat.reduceEqDiff, Nat.reduceLeDiff, Nat.reduceSub, Nat.reduceMul], fun b hb => by rw [upd_ne _ _ (by omega)]; exact ho b hb, by simp -implicitDefEqProofs only [go_sem, Nat.reduceLT, Nat.reduceBEq, Nat.reduceAdd, Nat.reduceEqDiff, Nat.reduceLeDiff, Nat.reduceSub, Nat.reduceMul, e0], by simp -implicitDefEqProofs only [go_sem, Nat.reduceLT, Nat.reduceBEq, Nat.reduceAdd, Nat.reduceEqDiff, Nat.reduceLeDiff, Nat.reduceSub, Nat.reduceMul, e2], by simp -implicitDefEqProofs only [go_sem, Nat.reduceLT, Nat.reduceBEq, Nat.reduceAdd, Nat.reduceEqDiff, Nat.reduceLeDiff, Nat.reduceSub, Nat.reduceMul, e4], by simp -implicitDefEqProofs only [go_sem, Nat.reduceLT, Nat.reduceBEq, Nat.reduceAdd, Nat.reduceEqDiff, Nat.reduceLeDiff, Nat.reduceSub, Nat.reduceMul, e7], by simp -implicitDefEqProofs only [go_sem, Nat.reduceLT, Nat.reduceBEq, Nat.reduceAdd, Nat.reduceEqDiff, Nat.reduceLeDiff, Nat.reduceSub, Nat.reduceMul, e15], by simp -implicitDefEqProofs only [go_sem, Nat.reduceLT, Nat.reduceBEq, Nat.reduceAdd, Nat.reduceEqDiff, Nat.reduceLeDiff, Nat.reduceSub, Nat.reduceMul, e16], by simp -implicitDefEqProofs only [go_sem, Nat.reduceLT, Nat.reduceBEq, Nat.reduceAdd, Nat.reduceEqDiff, Nat.reduceLeDiff, Nat.reduceSub, Nat.reduceMul]; rfl, by omega⟩
  · have : i = s.np := by omega
    subst this
    simp -implicitDefEqProofs only [go_sem, Nat.reduceLT, Nat.reduceBEq, Nat.reduceAdd, Nat.reduceEqDiff, Nat.reduceLeDiff, Nat.reduceSub, Nat.reduceMul, e7]
    refine fin_ret rfl (by decide) ?_ ho
    simp -implicitDefEqProofs only [go_sem, Nat.reduceLT, Nat.reduceBEq, Nat.reduceAdd, Nat.reduceEqDiff, Nat.reduceLeDiff, Nat.reduceSub, Nat.reduceMul]
    have hrow : H' (n + 1) = some (tab s.np (it (s.w M l f))) := by
      rw [h1]; exact congrArg some (tab_congr fun j hj => congrArg (GV.int .i64) (mix_lt _ _ hj))
    exact fz_own_isl hrow (by omega)
/-- the code of the first error of Encode -/
noncomputable def Gr.ec (s : Gr) (l : Nat) (f : Nat → Int) : Int := if s.ce = 0 then (if (l : Int) = s.K then (if Ein l f s.q then 0 else 2) else 3) else s.ce
theorem sp_grs_Encode_fail {H : Heap} {n : Nat} (s : Gr) (hs : ¬ s.Fok) {a : GV} {l : Nat} {f : Nat → Int} (ha : Rd H n a l f) :
    Spec prog fid_grs_Encode [s.gv, a] H n (.tup [.nil, .int .i64 (s.ec l f)]) H n := by
  refine spec_ends hmix ok_grs_Encode rfl fun hF => ?_
  show gw prog B_grs_Encode _ (tl 32 _) H n
  have hce := Gr.ce_fail hs
  have h10 : ((1 : Int) = 0) = False := by simp
  have hec : s.ec l f = 1 := by rw [Gr.ec, hce, if_neg (by decide)]
  rw [hec]
  simp -implicitDefEqProofs only [B_grs_Encode, go_sem, Nat.reduceLT, Nat.reduceBEq, Nat.reduceAdd, Nat.reduceEqDiff, Nat.reduceLeDiff, Nat.reduceSub, Nat.reduceMul]
  refine call_of (sp_grs_open_fail s hs) ?_
  rw [hce]
  simp -implicitDefEqProofs only [go_sem, Nat.reduceLT, Nat.reduceBEq, Nat.reduceAdd, Nat.reduceEqDiff, Nat.reduceLeDiff, Nat.reduceSub, Nat.reduceMul, h10]
  exact fin_ret2 rfl (by decide) (by decide) .nil (fz_int rfl) fun b hb => upd_ne _ _ (by omega)
theorem sp_grs_Encode {H : Heap} {n : Nat} (h : Fi M) (s : Gr) (d : s.Des M) {a : GV} {l : Nat} {f : Nat → Int} (ha : Rd H n a l f) (hl : l ≤ 1000000) :
    Spec prog fid_grs_Encode [s.gv, a] H n (.tup [if s.ec l f = 0 then isl s.np (s.w M l f) else .nil, .int .i64 (s.ec l f)]) H n := by
  refine spec_ends hmix ok_grs_Encode rfl fun hF => ?_
  show gw prog B_grs_Encode _ (tl 32 _) H n
  have hu : ∀ x b, b < n → upd H n x b = H b := fun x b hb => upd_ne _ _ (by omega)
  have hk := fun x => ha.keep (n' := n + 1) (by omega) (hu x)
  have hal := ha.len
  have hq := Gr.Des.qo d h
  simp -implicitDefEqProofs only [B_grs_Encode, go_sem, Nat.reduceLT, Nat.reduceBEq, Nat.reduceAdd, Nat.reduceEqDiff, Nat.reduceLeDiff, Nat.reduceSub, Nat.reduceMul]
  refine call_of (sp_grs_open s h d) ?_
  by_cases hce : s.ce = 0
  case neg =>
    have hec : s.ec l f = s.ce := if_neg hce
    rw [hec, if_neg hce, if_neg hce]
    simp -implicitDefEqProofs only [go_sem, Nat.reduceLT, Nat.reduceBEq, Nat.reduceAdd, Nat.reduceEqDiff, Nat.reduceLeDiff, Nat.reduceSub, Nat.reduceMul, hce]
    exact fin_ret2 rfl (by decide) (by decide) .nil (fz_int rfl) (hu _)
  rw [hce, if_pos rfl]
  by_cases hK : (l : Int) = s.K
  case neg =>
    have hec : s.ec l f = 3 := by rw [Gr.ec, if_pos hce, if_neg hK]
    rw [hec, if_neg (by decide)]
    simp -implicitDefEqProofs only [go_sem, Nat.reduceLT, Nat.reduceBEq, Nat.reduceAdd, Nat.reduceEqDiff, Nat.reduceLeDiff, Nat.reduceSub, Nat.reduceMul, hal, hK]
    exact fin_ret2 rfl (by decide) (by decide) .nil (fz_int rfl) (hu _)
  simp -implicitDefEqProofs only [go_sem, Nat.reduceLT, Nat.reduceBEq, Nat.reduceAdd, Nat.reduceEqDiff, Nat.reduceLeDiff, Nat.reduceSub, Nat.reduceMul, hal, hK]
  refine call_of (sp_grs_elements h.g (hk _) hl) ?_
  by_cases hE : Ein l f s.q
  case neg =>
    have hec : s.ec l f = 2 := by rw [Gr.ec, if_pos hce, if_pos hK, if_neg hE]
    rw [hec, if_neg (by decide), decide_eq_false (hq ▸ hE)]
    simp -implicitDefEqProofs only [go_sem, Nat.reduceLT, Nat.reduceBEq, Nat.reduceAdd, Nat.reduceEqDiff, Nat.reduceLeDiff, Nat.reduceSub, Nat.reduceMul]
    exact fin_ret2 rfl (by decide) (by decide) .nil (fz_int rfl) (hu _)
  have hec : s.ec l f = 0 := by rw [Gr.ec, if_pos hce, if_pos hK, if_pos hE]
  rw [hec, if_pos rfl, decide_eq_true (hq ▸ hE)]
  simp -implicitDefEqProofs only [go_sem, Nat.reduceLT, Nat.reduceBEq, Nat.reduceAdd, Nat.reduceEqDiff, Nat.reduceLeDiff, Nat.reduceSub, Nat.reduceMul]
  refine call_of (sp_grs_encode h s (Gr.ok hce) (hk _) hl) ?_
  simp -implicitDefEqProofs only [go_sem, Nat.reduceLT, Nat.reduceBEq, Nat.reduceAdd, Nat.reduceEqDiff, Nat.reduceLeDiff, Nat.reduceSub, Nat.reduceMul]
  exact fin_ret2 rfl (by decide) (by decide) (by simp -implicitDefEqProofs only [go_sem, Nat.reduceLT, Nat.reduceBEq, Nat.reduceAdd, Nat.reduceEqDiff, Nat.reduceLeDiff, Nat.reduceSub, Nat.reduceMul]; exact (pl_isl _ _).tr) (fz_int rfl) (hu _)
theorem sp_ref18_Word {H : Heap} {n : Nat} (h : Fi M) (s : Gr) (d : s.Des M) (hs : s.Ok) (l : Nat) (f : Nat → Int) (hl : l ≤ 1000000) :
    Spec prog fid_ref18_Word [s.gv, isl l f] H n (isl s.np (s.w M l f)) H n := by
  refine spec_ends hmix ok_ref18_Word rfl fun hF => ?_
  show gw prog B_ref18_Word _ (tl 38 _) H n
  have hnp := hs.n64
  have hnm := hs.nm
  have hfd : fgv s.p s.m (isl s.l s.mo) = fd M := d.fd
  simp -implicitDefEqProofs only [B_ref18_Word, go_sem, Nat.reduceLT, Nat.reduceBEq, Nat.reduceAdd, Nat.reduceEqDiff, Nat.reduceLeDiff, Nat.reduceSub, Nat.reduceMul]
  repeat with_reducible refine And.intro (by omega) ?_
  refine loop_rule (fun (i : Nat) E H' n' => n' = n + 2 ∧ H' n = some s.cs ∧ H' (n + 1) = some (tab s.np (it (mix (s.w M l f) (fun _ => 0) i))) ∧ (∀ b, b < n → H' b = H b) ∧ E 1 = isl l f ∧ E 2 = .ptr n 0 ∧ E 5 = .own (n + 1) 0 s.np ∧ E 6 = .int .i64 (i : Nat) ∧ i ≤ s.np) (fun i => s.np - i) 0 ?_ ?_
  · refine ⟨rfl, by simp -implicitDefEqProofs only [go_sem, Nat.reduceLT, Nat.reduceBEq, Nat.reduceAdd, Nat.reduceEqDiff, Nat.reduceLeDiff, Nat.reduceSub, Nat.reduceMul], by simp -implicitDefEqProofs only [go_sem, Nat.reduceLT, Nat.reduceBEq, Nat.reduceAdd, Nat.reduceEqDiff, Nat.reduceLeDiff, Nat.reduceSub, Nat.reduceMul, tab_rep, mix_zero]; rfl, fun b hb => by rw [upd_ne _ _ (by omega), upd_ne _ _ (by omega)], rfl, rfl, rfl, rfl, by omega⟩
  rintro i E H' n' ⟨rfl, h0, h1, ho, e1, e2, e5, e6, hi⟩
  simp -implicitDefEqProofs only [go_sem, Nat.reduceLT, Nat.reduceBEq, Nat.reduceAdd, Nat.reduceEqDiff, Nat.reduceLeDiff, Nat.reduceSub, Nat.reduceMul, e5, e6]
  refine c_split (fun hc => ?_) (fun hc => ?_)
  · have hiN : i < s.np := by omega
    have hiM : i < s.nm := by omega
    have hcM : (i : Int) < (s.nm : Int) := by omega
    have hwi := wrap64 (x := (i : Int) + 1) (by omega)
    have hst := mix_step (s.w M l f) (fun _ => 0) i
    have hev : ∀ (H : Heap) (n : Nat), Spec prog fid_ref05_Eval [fgv s.p s.m (isl s.l s.mo), isl l f, .int .i64 (s.x i)] H n (.int .i64 (cn (Alg.ev l (pf M f) (ein M (s.x i))) : Nat)) H n := fun H n => by rw [hfd]; exact sp_ref05_Eval h l f hl _
    have hml : ∀ (H : Heap) (n : Nat) (y : Int), Spec prog fid_ref04_Mul [fgv s.p s.m (isl s.l s.mo), .int .i64 (s.v i), .int .i64 y] H n (.int .i64 (cd (ein M (s.v i) * ein M y))) H n := fun H n y => by rw [hfd]; exact sp_ref04_Mul h.fc _ _
    simp -implicitDefEqProofs only [go_sem, Nat.reduceLT, Nat.reduceBEq, Nat.reduceAdd, Nat.reduceEqDiff, Nat.reduceLeDiff, Nat.reduceSub, Nat.reduceMul, e1, e2, e5, e6, h0, hc, hcM, hiN, hiM, gat_tab]
    refine mcall_of (.int _ _) (fun H1 n1 k1 k2 => hev _ _) ?_
    simp -implicitDefEqProofs only [go_sem, Nat.reduceLT, Nat.reduceBEq, Nat.reduceAdd, Nat.reduceEqDiff, Nat.reduceLeDiff, Nat.reduceSub, Nat.reduceMul]
    refine mcall_of (.int _ _) (fun H1 n1 k1 k2 => hml _ _ _) ?_
    rw [ein_cn h.fc, cd_cn]
    have hwv : ((cn (ein M (s.v i) * Alg.ev l (pf M f) (ein M (s.x i))) : Nat) : Int) = s.w M l f i := rfl
    rw [hwv]
    simp -implicitDefEqProofs only [go_sem, Nat.reduceLT, Nat.reduceBEq, Nat.reduceAdd, Nat.reduceEqDiff, Nat.reduceLeDiff, Nat.reduceSub, Nat.reduceMul, h1, hc, hiN, e6, hwi, hst]
    repeat with_reducible refine And.intro (by omega) ?_
    exact l_n ⟨i + 1, by omega, rfl, by simp -implicitDefEqProofs only [go_sem, Nat.reduceLT, Nat.reduceBEq, Nat.reduceAdd, Nat.reduceEqDiff, Nat.reduceLeDiff, Nat.reduceSub, Nat.reduceMul, h0], by simp -implicitDefEqProofs only [go_sem, Nat.reduceLT, Nat.reduceBEq, Nat.reduceAdd, Nat.reduceEqDiff, Nat.reduceLeDiff, Nat.reduceSub, Nat.reduceMul], fun b hb => by rw [upd_ne _ _ (by omega)]; exact ho b hb, by simp -implicitDefEqProofs only [go_sem, Nat.reduceLT, Nat.reduceBEq, Nat.reduceAdd, Nat.reduceEqDiff, Nat.reduceLeDiff, Nat.reduceSub, Nat.reduceMul, e1], by simp -implicitDefEqProofs only [go_sem, Nat.reduceLT, Nat.reduceBEq, Nat.reduceAdd, Nat.reduceEqDiff, Nat.reduceLeDiff, Nat.reduceSub, Nat.reduceMul, e2], by simp -implicitDefEqProofs only [go_sem, Nat.reduceLT, Nat.reduceBEq, Nat.reduceAdd, Nat.reduceEqDiff, Nat.reduceLeDiff, Nat.reduceSub, Nat.reduceMul, e5], by simp -implicitDefEqProofs only [go_sem, Nat.reduceLT, Nat.reduceBEq, Nat.reduceAdd, Nat.reduceEqDiff, Nat.reduceLeDiff, Nat.reduceSub, Nat.reduceMul]; rfl, by omega⟩
  · have : i = s.np := by omega
    subst this
    simp -implicitDefEqProofs only [go_sem, Nat.reduceLT, Nat.reduceBEq, Nat.reduceAdd, Nat.reduceEqDiff, Nat.reduceLeDiff, Nat.reduceSub, Nat.reduceMul, e5]
    refine fin_ret rfl (by decide) ?_ ho
    simp -implicitDefEqProofs only [go_sem, Nat.reduceLT, Nat.reduceBEq, Nat.reduceAdd, Nat.reduceEqDiff, Nat.reduceLeDiff, Nat.reduceSub, Nat.reduceMul]
    have hrow : H' (n + 1) = some (tab s.np (it (s.w M l f))) := by
      rw [h1]; exact congrArg some (tab_congr fun j hj => congrArg (GV.int .i64) (mix_lt _ _ hj))
    exact fz_own_isl hrow (by omega)
end
theorem sp_law18_same {H : Heap} {n : Nat} {a b : GV} {l m : Nat} {f g : Nat → Int} (ha : Rd H n a l f) (hb : Rd H n b m g) (hl : l ≤ 1000000) :
    Spec prog fid_law18_same [a, b] H n (.bool (decide (l = m ∧ ∀ i, i < l → f i = g i))) H n := by
  generalize hR : decide (l = m ∧ ∀ i, i < l → f i = g i) = R
  refine spec_ends hmix ok_law18_same rfl fun hF => ?_
  show gw prog B_law18_same _ (tl 26 _) H n
  have hal := ha.len
  have hbl := hb.len
  by_cases hlm : l = m
  · subst hlm
    simp -implicitDefEqProofs only [B_law18_same, go_sem, Nat.reduceLT, Nat.reduceBEq, Nat.reduceAdd, Nat.reduceEqDiff, Nat.reduceLeDiff, Nat.reduceSub, Nat.reduceMul, hal, hbl]
    refine loop_rule (fun (i : Nat) E H' n' => H' = H ∧ n' = n ∧ E 0 = a ∧ E 1 = b ∧ E 12 = .int .i64 (l : Nat) ∧ E 13 = .int .i64 (i : Nat) ∧ i ≤ l ∧ ∀ j, j < i → f j = g j) (fun i => l - i) 0 ⟨rfl, rfl, rfl, rfl, rfl, rfl, by omega, fun j hj => by omega⟩ ?_
    rintro i E H' n' ⟨rfl, rfl, e0, e1, e12, e13, hi, hj⟩
    simp -implicitDefEqProofs only [go_sem, Nat.reduceLT, Nat.reduceBEq, Nat.reduceAdd, Nat.reduceEqDiff, Nat.reduceLeDiff, Nat.reduceSub, Nat.reduceMul, e12, e13]
    refine c_split (fun hc => ?_) (fun hc => ?_)
    · have hiN : i < l := by omega
      have hwi := wrap64 (x := (i : Int) + 1) (by omega)
      obtain ⟨pa, pa1, pa2, pa3⟩ := ha.idx i hiN
      obtain ⟨pb, pb1, pb2, pb3⟩ := hb.idx i hiN
      have pa4 := fun q => pa3 q H' n' (Nat.le_refl _) fun _ _ => rfl
      have pb4 := fun q => pb3 q H' n' (Nat.le_refl _) fun _ _ => rfl
      by_cases hx : f i = g i
      · simp -implicitDefEqProofs only [go_sem, Nat.reduceLT, Nat.reduceBEq, Nat.reduceAdd, Nat.reduceEqDiff, Nat.reduceLeDiff, Nat.reduceSub, Nat.reduceMul, e0, e1, e13, pa1, pb1, pa4, pb4, hx, hwi]
        refine l_n ⟨i + 1, by omega, rfl, rfl, by simp -implicitDefEqProofs only [go_sem, Nat.reduceLT, Nat.reduceBEq, Nat.reduceAdd, Nat.reduceEqDiff, Nat.reduceLeDiff, Nat.reduceSub, Nat.reduceMul, e0], by simp -implicitDefEqProofs only [go_sem, Nat.reduceLT, Nat.reduceBEq, Nat.reduceAdd, Nat.reduceEqDiff, Nat.reduceLeDiff, Nat.reduceSub, Nat.reduceMul, e1], by simp -implicitDefEqProofs only [go_sem, Nat.reduceLT, Nat.reduceBEq, Nat.reduceAdd, Nat.reduceEqDiff, Nat.reduceLeDiff, Nat.reduceSub, Nat.reduceMul, e12], by simp -implicitDefEqProofs only [go_sem, Nat.reduceLT, Nat.reduceBEq, Nat.reduceAdd, Nat.reduceEqDiff, Nat.reduceLeDiff, Nat.reduceSub, Nat.reduceMul]; rfl, by omega, fun j h1 => ?_⟩
        by_cases e : j = i
        · subst e; exact hx
        · exact hj j (by omega)
      · simp -implicitDefEqProofs only [go_sem, Nat.reduceLT, Nat.reduceBEq, Nat.reduceAdd, Nat.reduceEqDiff, Nat.reduceLeDiff, Nat.reduceSub, Nat.reduceMul, e0, e1, e13, pa1, pb1, pa4, pb4, hx]
        exact fin_ret rfl (by decide) (fz_bool (hR.symm.trans (decide_eq_false fun h => hx (h.2 i hiN))).symm) fun _ _ => rfl
    · simp -implicitDefEqProofs only [go_sem, Nat.reduceLT, Nat.reduceBEq, Nat.reduceAdd, Nat.reduceEqDiff, Nat.reduceLeDiff, Nat.reduceSub, Nat.reduceMul]
      exact fin_ret rfl (by decide) (fz_bool (hR.symm.trans (decide_eq_true ⟨rfl, fun j h1 => hj j (by omega)⟩)).symm) fun _ _ => rfl
  · have hlI : ¬ ((l : Int) = (m : Int)) := by omega
    simp -implicitDefEqProofs only [B_law18_same, go_sem, Nat.reduceLT, Nat.reduceBEq, Nat.reduceAdd, Nat.reduceEqDiff, Nat.reduceLeDiff, Nat.reduceSub, Nat.reduceMul, hal, hbl, hlI]
    exact fin_ret rfl (by decide) (fz_bool (hR.symm.trans (decide_eq_false fun h => hlm h.1)).symm) fun _ _ => rfl
/-- how many entries are not 0 -/
def wt (l : Nat) (f : Nat → Int) : Nat := Alg.cnt l fun i => decide (f i ≠ 0)
theorem sp_ref18_Weight {H : Heap} {n : Nat} (l : Nat) (f : Nat → Int) (hl : l ≤ 1000000) : Spec prog fid_ref18_Weight [isl l f] H n (.int .i64 (wt l f : Nat)) H n := by
  refine spec_ends hmix ok_ref18_Weight rfl fun hF => ?_
  show gw prog B_ref18_Weight _ (tl 19 _) H n
  simp -implicitDefEqProofs only [B_ref18_Weight, go_sem, Nat.reduceLT, Nat.reduceBEq, Nat.reduceAdd, Nat.reduceEqDiff, Nat.reduceLeDiff, Nat.reduceSub, Nat.reduceMul]
  refine loop_rule (fun (i : Nat) E H' n' => H' = H ∧ n' = n ∧ E 0 = isl l f ∧ E 3 = .int .i64 (wt i f : Nat) ∧ E 4 = .int .i64 (i : Nat) ∧ i ≤ l) (fun i => l - i) 0 ⟨rfl, rfl, rfl, rfl, rfl, by omega⟩ ?_
  rintro i E H' n' ⟨rfl, rfl, e0, e3, e4, hi⟩
  simp -implicitDefEqProofs only [go_sem, Nat.reduceLT, Nat.reduceBEq, Nat.reduceAdd, Nat.reduceEqDiff, Nat.reduceLeDiff, Nat.reduceSub, Nat.reduceMul, e0, e4]
  refine c_split (fun hc => ?_) (fun hc => ?_)
  · have hiN : i < l := by omega
    have hwi := wrap64 (x := (i : Int) + 1) (by omega)
    have hle := Alg.cnt_le i fun i => decide (f i ≠ 0)
    have hs : wt (i + 1) f = wt i f + if decide (f i ≠ 0) then 1 else 0 := rfl
    by_cases hx : f i = 0
    · have hs' : wt (i + 1) f = wt i f := by rw [hs, if_neg (by simp [hx])]; rfl
      simp -implicitDefEqProofs only [go_sem, Nat.reduceLT, Nat.reduceBEq, Nat.reduceAdd, Nat.reduceEqDiff, Nat.reduceLeDiff, Nat.reduceSub, Nat.reduceMul, e0, e4, hc, hiN, gat_tab, hx, hwi]
      exact l_n ⟨i + 1, by omega, rfl, rfl, by simp -implicitDefEqProofs only [go_sem, Nat.reduceLT, Nat.reduceBEq, Nat.reduceAdd, Nat.reduceEqDiff, Nat.reduceLeDiff, Nat.reduceSub, Nat.reduceMul, e0], by simp -implicitDefEqProofs only [go_sem, Nat.reduceLT, Nat.reduceBEq, Nat.reduceAdd, Nat.reduceEqDiff, Nat.reduceLeDiff, Nat.reduceSub, Nat.reduceMul, e3, hs'], by simp -implicitDefEqProofs only [go_sem, Nat.reduceLT, Nat.reduceBEq, Nat.reduceAdd, Nat.reduceEqDiff, Nat.reduceLeDiff, Nat.reduceSub, Nat.reduceMul]; rfl, by omega⟩
    · have hs' : wt (i + 1) f = wt i f + 1 := by rw [hs, if_pos (by simp [hx])]
      have hw : IntKind.i64.wrap (((wt i f : Nat) : Int) + 1) = ((wt (i + 1) f : Nat) : Int) := (wrap64 (by have : wt i f ≤ i := hle; omega)).trans (by omega)
      simp -implicitDefEqProofs only [go_sem, Nat.reduceLT, Nat.reduceBEq, Nat.reduceAdd, Nat.reduceEqDiff, Nat.reduceLeDiff, Nat.reduceSub, Nat.reduceMul, e0, e3, e4, hc, hiN, gat_tab, hx, hwi, hw]
      exact l_n ⟨i + 1, by omega, rfl, rfl, by simp -implicitDefEqProofs only [go_sem, Nat.reduceLT, Nat.reduceBEq, Nat.reduceAdd, Nat.reduceEqDiff, Nat.reduceLeDiff, Nat.reduceSub, Nat.reduceMul, e0], by simp -implicitDefEqProofs only [go_sem, Nat.reduceLT, Nat.reduceBEq, Nat.reduceAdd, Nat.reduceEqDiff, Nat.reduceLeDiff, Nat.reduceSub, Nat.reduceMul], by simp -implicitDefEqProofs only [go_sem, Nat.reduceLT, Nat.reduceBEq, Nat.reduceAdd, Nat.reduceEqDiff, Nat.reduceLeDiff, Nat.reduceSub, Nat.reduceMul]; rfl, by omega⟩
  · have : i = l := by omega
    subst this
    simp -implicitDefEqProofs only [go_sem, Nat.reduceLT, Nat.reduceBEq, Nat.reduceAdd, Nat.reduceEqDiff, Nat.reduceLeDiff, Nat.reduceSub, Nat.reduceMul, e3]
    exact fin_ret rfl (by decide) (by simp -implicitDefEqProofs only [go_sem, Nat.reduceLT, Nat.reduceBEq, Nat.reduceAdd, Nat.reduceEqDiff, Nat.reduceLeDiff, Nat.reduceSub, Nat.reduceMul]; exact fz_int rfl) fun _ _ => rfl
end Go.Proofs.Yteiafdhejcgjcaa.Gh
/- A slice of the call's own that is handed on for good: it is only read from then on. -/
namespace Go.Proofs.Yteiafdhejcgjcaa.Gh
open Go Go.RowKit
set_option linter.unusedVariables false
set_option linter.unusedSimpArgs false

/-- the block b is only read from now on -/
def lay (K : Kr) (b : Nat) : Kr := ⟨K.σ, K.sz, upd K.H b none, K.lo, K.w, fun B => K.S B ∨ (0 < K.sz b ∧ B = K.σ b)⟩
section
variable {K : Kr} {b : Nat} {cs : List GV}
theorem lay_step (hb : b < K.lo) (hH : K.H b = some cs) : KStep K (lay K b) where
  os := rfl
  tape := rfl
  output := rfl
  size := Nat.le_refl _
  S B h := .inl h
  keep B h := rfl
  lo := Nat.le_refl _
  live x h1 h2 := ⟨rfl, rfl⟩
  dies x h1 h2 := by
    by_cases e : x = b
    · subst e; exact hb
    · have h2 : upd K.H b none x = none := h2
      rw [upd_ne _ _ e] at h2; exact absurd h2 h1
  dead x h1 h2 := by
    show upd K.H b none x = none
    by_cases e : x = b
    · subst e; exact upd_same _ _ _
    · rw [upd_ne _ _ e]; exact h2
theorem lay_sat (hs : Sat K) (hb : b < K.lo) (hH : K.H b = some cs) : Sat (lay K b) := by
  have hst := lay_step hb hH
  refine ⟨?_, ?_, ?_, ?_⟩
  · intro x cs' e
    have e : upd K.H b none x = some cs' := e
    by_cases hx : x = b
    · subst hx; rw [upd_same] at e; cases e
    · rw [upd_ne _ _ hx] at e; exact hs.len x cs' e
  · intro x cs' e hz
    have e : upd K.H b none x = some cs' := e
    by_cases hx : x = b
    · subst hx; rw [upd_same] at e; cases e
    · rw [upd_ne _ _ hx] at e
      obtain ⟨row, T, h1, h2, h3, h4⟩ := hs.blk x cs' e hz
      refine ⟨row, T, h1, h2, fun j hj => (h3 j hj).mono hst, fun h => ?_⟩
      rcases h with h | ⟨hz', h⟩
      · exact h4 h
      · exact hx (hs.inj x b (by rw [e]; simp) (by rw [hH]; simp) hz hz' h)
  · intro x y h1 h2 hz1 hz2 e
    have h1 : upd K.H b none x ≠ none := h1
    have h2 : upd K.H b none y ≠ none := h2
    have hx : x ≠ b := fun e => by subst e; rw [upd_same] at h1; exact h1 rfl
    have hy : y ≠ b := fun e => by subst e; rw [upd_same] at h2; exact h2 rfl
    rw [upd_ne _ _ hx] at h1
    rw [upd_ne _ _ hy] at h2
    exact hs.inj x y h1 h2 hz1 hz2 e
  · intro B h
    rcases h with h | ⟨hz, rfl⟩
    · exact hs.sS B h
    · obtain ⟨row, T, h1, _⟩ := hs.blk b cs hH hz
      exact (Array.getElem?_eq_some_iff.1 h1).1
theorem lay_VR (hs : Sat K) (hb : b < K.lo) (hH : K.H b = some cs) {m : Nat} (hl : cs.length = m) {v : Value} (h : VR K (.own b 0 m) v) : VR (lay K b) (.sl m cs) v := by
  have hst := lay_step hb hH
  have zero : ∀ (A : Option Addr) (c : Nat), m = 0 → VR (lay K b) (.sl m cs) (.slice A m c) := fun A c h0 => by
    have hc : cs = [] := List.length_eq_zero_iff.1 (by omega)
    subst hc
    exact .sl0 m c A (by omega)
  cases h with
  | own _ _ _ c h1 h2 h3 =>
    rcases Nat.eq_zero_or_pos m with h0 | h0
    · exact zero _ _ h0
    · have hz : 0 < K.sz b := by omega
      obtain ⟨row, T, r1, r2, r3, r4⟩ := hs.blk b cs hH hz
      refine .sl m c (K.σ b) 0 cs (fun j => vat row j) h3 (.inr ⟨hz, rfl⟩) (fun j hj => ?_) fun j hj => (r3 j hj).mono hst
      have hlen := hs.len b cs hH
      show K.w.cell? ⟨K.σ b, 0 + j, none⟩ = _
      unfold World.cell?
      rw [r1]
      have hj' : j < row.size := by omega
      simp [vat, Array.getD, hj']
  | own0 _ _ A h1 => exact zero _ _ rfl
  | owns _ _ _ B c h1 h2 h3 => rw [hH] at h1; cases h1
end
/-- a slice of the call's own is handed on, and never used again -/
theorem spec_frz {P : Program} {f : FuncId} {xs ys : List GV} {H H' : Heap} {n n' b m : Nat} {cs : List GV} {g : GV} (hb : b < n) (hH : H b = some cs) (hl : cs.length = m)
    (h : Spec P f (xs ++ .sl m cs :: ys) (upd H b none) n g H' n') : Spec P f (xs ++ .own b 0 m :: ys) H n g H' n' := by
  intro K vs e1 e2 hF hs hv
  subst e1 e2
  have hst := lay_step hb hH
  refine Calls.mono (h (lay K b) vs rfl rfl (fun x hx => ?_) (lay_sat hs hb hH) ⟨by rw [hv.1]; simp, fun j hj => ?_⟩) ?_
  · show upd K.H b none x = none
    rw [upd_ne _ _ (by omega)]; exact hF x hx
  · have hj' : j < (xs ++ GV.own b 0 m :: ys).length := by simpa using hj
    have h1 := hv.2 j hj'
    rcases Nat.lt_trichotomy j xs.length with e | e | e
    · have g1 : gat (xs ++ GV.own b 0 m :: ys) j = gat xs j := by simp [gat, List.getD_eq_getElem?_getD, List.getElem?_append, e]
      have g2 : gat (xs ++ GV.sl m cs :: ys) j = gat xs j := by simp [gat, List.getD_eq_getElem?_getD, List.getElem?_append, e]
      rw [g1] at h1; rw [g2]; exact h1.mono hst
    · subst e
      have g1 : gat (xs ++ GV.own b 0 m :: ys) xs.length = .own b 0 m := by simp [gat, List.getD_eq_getElem?_getD]
      have g2 : gat (xs ++ GV.sl m cs :: ys) xs.length = .sl m cs := by simp [gat, List.getD_eq_getElem?_getD]
      rw [g1] at h1; rw [g2]; exact lay_VR hs hb hH hl h1
    · obtain ⟨d, rfl⟩ : ∃ d, j = xs.length + (d + 1) := ⟨j - xs.length - 1, by omega⟩
      have g1 : gat (xs ++ GV.own b 0 m :: ys) (xs.length + (d + 1)) = gat ys d := by simp [gat, List.getD_eq_getElem?_getD, List.getElem?_append_right]
      have g2 : gat (xs ++ GV.sl m cs :: ys) (xs.length + (d + 1)) = gat ys d := by simp [gat, List.getD_eq_getElem?_getD, List.getElem?_append_right]
      rw [g1] at h1; rw [g2]; exact h1.mono hst
  · rintro e w' ⟨v, K', h1, h2, h3, h4, h5, h6, h7, h8⟩
    exact ⟨v, K', h1, h2, hst.trans h3, h4, h5, h6, h7, h8⟩
end Go.Proofs.Yteiafdhejcgjcaa.Gh
/- Standard descriptions, duals. -/
namespace Go.Proofs.Yteiafdhejcgjcaa.Gh
open Go Go.RowKit
open Alg (CR Ps Dg Zm Mn El Cg sm pw Irr Prm)
set_option linter.unusedVariables false
set_option linter.unusedSimpArgs false

/-- g2 is g, with the block b told as read-only -/
inductive Ly (b m : Nat) (cs : List GV) : GV → GV → Prop
  | refl (g : GV) : Ly b m cs g g
  | own : Ly b m cs (.own b 0 m) (.sl m cs)
  | agg (gs gs' : List GV) : gs'.length = gs.length → (∀ j, j < gs.length → Ly b m cs (gat gs j) (gat gs' j)) → Ly b m cs (.agg gs) (.agg gs')
theorem ly_VR {K : Kr} {b m : Nat} {cs : List GV} (hs : Sat K) (hb : b < K.lo) (hH : K.H b = some cs) (hl : cs.length = m) {g g' : GV} (t : Ly b m cs g g') : ∀ {v : Value}, VR K g v → VR (lay K b) g' v := by
  induction t with
  | refl g => intro v h; exact h.mono (lay_step hb hH)
  | own => intro v h; exact lay_VR hs hb hH hl h
  | agg gs gs' hl' _ ih =>
    intro v h
    cases h with
    | agg _ us h1 h3 => exact .agg gs' us (by omega) fun j hj => ih j (by omega) (h3 j (by omega))
/-- blocks in the arguments are handed on, and never used again -/
theorem spec_ly {P : Program} {f : FuncId} {xs ys : List GV} {H H' : Heap} {n n' b m : Nat} {cs : List GV} {g : GV} (hb : b < n) (hH : H b = some cs) (hl : cs.length = m)
    (hlen : ys.length = xs.length) (hly : ∀ j, j < xs.length → Ly b m cs (gat xs j) (gat ys j))
    (h : Spec P f ys (upd H b none) n g H' n') : Spec P f xs H n g H' n' := by
  intro K vs e1 e2 hF hs hv
  subst e1 e2
  have hst := lay_step hb hH
  refine Calls.mono (h (lay K b) vs rfl rfl (fun x hx => ?_) (lay_sat hs hb hH) ⟨by rw [hv.1, hlen], fun j hj => ?_⟩) ?_
  · show upd K.H b none x = none
    rw [upd_ne _ _ (by omega)]; exact hF x hx
  · exact ly_VR hs hb hH hl (hly j (by omega)) (hv.2 j (by omega))
  · rintro e w' ⟨v, K', h1, h2, h3, h4, h5, h6, h7, h8⟩
    exact ⟨v, K', h1, h2, hst.trans h3, h4, h5, h6, h7, h8⟩

section
variable {F : GFun} {H : Heap} {n : Nat} {g g' : GV}
theorem fin_cell2 {H1 : Heap} {n1 N i j m b o : Nat} {E : Env} {cs : List GV} (hr : F.res = [.cell i (some m), .t j]) (hi : i < N) (hj : j < N) (he : E i = .ptr b o) (hc : H1 b = some cs) (hl : o + m ≤ cs.length) (hz : Fz H1 n (.agg ((cs.drop o).take m)) g) (hz' : Fz H1 n (E j) g') (ho : ∀ b, b < n → H1 b = H b) : F.ends H n (.tup [g, g']) .ret (tl N E) H1 n1 :=
  ⟨⟨.tup [.agg ((cs.drop o).take m), E j], by rw [hr]; simp only [gretv, gress, gres, gat_tl hi, gat_tl hj, he, gread1, hc, if_pos hl], .tup _ _ rfl fun k hk => by
    match k, hk with
    | 0, _ => exact hz
    | 1, _ => exact hz', ho⟩, rfl⟩
theorem fin_cell1 {H1 : Heap} {n1 N i m b o c : Nat} {E : Env} {cs ds ds' : List GV} (hr : F.res = [.cell i (some m)]) (hi : i < N) (he : E i = .ptr b o) (hc : H1 b = some cs) (hl : o + m ≤ cs.length) (hz : Tr H1 n (n + 1) (fun _ => c) (.agg ((cs.drop o).take m)) g) (hn : n ≤ c) (hd : H1 c = some ds) (ht : Trs H1 n (n + 1) (fun _ => c) ds ds') (ho : ∀ b, b < n → H1 b = H b) : F.ends1 H n g ds' .ret (tl N E) H1 n1 :=
  ⟨_, c, ds, by rw [hr]; simp only [gretv, gress, gres, gat_tl hi, he, gread1, hc, if_pos hl], hz, hn, hd, ht, ho, rfl⟩
end
/-- the cells of an empty description read as nothing -/
theorem fz_g0 {H : Heap} {n : Nat} : Fz H n (.agg [.int .i64 0, .int .i64 0, .nil, .int .i64 0, .nil, .nil]) g0.gv := by
  refine .agg _ _ rfl fun j hj => ?_
  rcases j with _ | _ | _ | _ | _ | _ | j
  · exact .int _ _
  · exact .int _ _
  · exact .nilsl
  · exact .int _ _
  · exact .nilsl
  · exact .nilsl
  · simp at hj; omega
theorem pl_gr (s : Gr) : Pl s.gv := .agg _ fun j hj => by
  rcases j with _ | _ | _ | _ | _ | _ | j
  · exact .int _ _
  · exact .int _ _
  · exact pl_isl _ _
  · exact .int _ _
  · exact pl_isl _ _
  · exact pl_isl _ _
  · simp at hj; omega
/-- the standard description -/
def gstd (p m : Int) (l : Nat) (mo : Nat → Int) (N : Nat) (K : Int) : Gr := ⟨p, m, l, mo, K, N, fun i => (i : Nat), N, fun _ => 1⟩
theorem sp_grs_Standard_fail {H : Heap} {n : Nat} (p m : Int) (l : Nat) (mo : Nat → Int) (N K : Int) (h : ¬ Fok p m l mo) : Spec prog fid_grs_Standard [fgv p m (isl l mo), .int .i64 N, .int .i64 K] H n (.tup [g0.gv, .int .i64 1]) H n := by
  refine spec_ends hmix ok_grs_Standard rfl fun hF => ?_
  show gw prog B_grs_Standard _ (tl 63 _) H n
  have h10 : ((1 : Int) = 0) = False := by simp
  simp -implicitDefEqProofs only [B_grs_Standard, go_sem, Nat.reduceLT, Nat.reduceBEq, Nat.reduceAdd, Nat.reduceEqDiff, Nat.reduceLeDiff, Nat.reduceSub, Nat.reduceMul]
  refine call_of (sp_field_New_fail p m l mo h) ?_
  simp -implicitDefEqProofs only [go_sem, Nat.reduceLT, Nat.reduceBEq, Nat.reduceAdd, Nat.reduceEqDiff, Nat.reduceLeDiff, Nat.reduceSub, Nat.reduceMul, h10]
  exact fin_cell2 (b := n + 1) (o := 0) rfl (by decide) (by decide) (by simp -implicitDefEqProofs only [go_sem, Nat.reduceLT, Nat.reduceBEq, Nat.reduceAdd, Nat.reduceEqDiff, Nat.reduceLeDiff, Nat.reduceSub, Nat.reduceMul]) (by simp -implicitDefEqProofs only [go_sem, Nat.reduceLT, Nat.reduceBEq, Nat.reduceAdd, Nat.reduceEqDiff, Nat.reduceLeDiff, Nat.reduceSub, Nat.reduceMul]; rfl) (Nat.le_refl _) fz_g0 (fz_int rfl) fun b hb => by rw [upd_ne _ _ (by omega), upd_ne _ _ (by omega)]
section
variable {k : Nat} {M : Mn k}
/-- the code of the error of Standard -/
def gse (q N K : Int) : Int := if N < 1 ∨ min 64 q < N then 4 else if K < 0 ∨ N < K then 6 else 0
set_option maxHeartbeats 4000000 in
theorem sp_grs_Standard_err {H : Heap} {n : Nat} (p m : Int) (l : Nat) (mo : Nat → Int) (h : Fi M) (d : Gh.Des p m l mo M) (N K : Int) (he : gse (qn M : Nat) N K ≠ 0) : Spec prog fid_grs_Standard [fgv p m (isl l mo), .int .i64 N, .int .i64 K] H n (.tup [g0.gv, .int .i64 (gse (qn M : Nat) N K)]) H n := by
  refine spec_ends hmix ok_grs_Standard rfl fun hF => ?_
  show gw prog B_grs_Standard _ (tl 63 _) H n
  have hnw : ∀ (H : Heap) (n : Nat), Spec prog fid_field_New [fgv p m (isl l mo)] H n (.tup [h.gf, .int .i64 0]) H n := fun H n => by rw [d.fd]; exact sp_field_New h
  have hu2 : ∀ x y b, b < n → upd (upd H n x) (n + 1) y b = H b := fun x y b hb => by rw [upd_ne _ _ (by omega), upd_ne _ _ (by omega)]
  have fin : ∀ (E : Env) (v : Int) (x : Option (List GV)), E 6 = .ptr (n + 1) 0 → E 7 = .int .i64 v → gse (qn M : Nat) N K = v → F_grs_Standard.ends H n (.tup [g0.gv, .int .i64 (gse (qn M : Nat) N K)]) .ret (tl 63 E) (upd (upd H n x) (n + 1) (some [.int .i64 0, .int .i64 0, .nil, .int .i64 0, .nil, .nil])) (n + 2) := by
    intro E v x h6 h7 hv
    exact fin_cell2 (b := n + 1) (o := 0) rfl (by decide) (by decide) h6 (upd_same _ _ _) (Nat.le_refl _) fz_g0 (by rw [h7]; exact fz_int hv.symm) (hu2 _ _)
  simp -implicitDefEqProofs only [B_grs_Standard, go_sem, Nat.reduceLT, Nat.reduceBEq, Nat.reduceAdd, Nat.reduceEqDiff, Nat.reduceLeDiff, Nat.reduceSub, Nat.reduceMul]
  refine call_of (hnw _ _) ?_
  by_cases h1 : N < 1
  · simp -implicitDefEqProofs only [go_sem, Nat.reduceLT, Nat.reduceBEq, Nat.reduceAdd, Nat.reduceEqDiff, Nat.reduceLeDiff, Nat.reduceSub, Nat.reduceMul, h1]
    exact fin _ 4 _ (by simp -implicitDefEqProofs only [go_sem, Nat.reduceLT, Nat.reduceBEq, Nat.reduceAdd, Nat.reduceEqDiff, Nat.reduceLeDiff, Nat.reduceSub, Nat.reduceMul]) (by simp -implicitDefEqProofs only [go_sem, Nat.reduceLT, Nat.reduceBEq, Nat.reduceAdd, Nat.reduceEqDiff, Nat.reduceLeDiff, Nat.reduceSub, Nat.reduceMul]) (by rw [gse, if_pos (.inl h1)])
  simp -implicitDefEqProofs only [go_sem, Nat.reduceLT, Nat.reduceBEq, Nat.reduceAdd, Nat.reduceEqDiff, Nat.reduceLeDiff, Nat.reduceSub, Nat.reduceMul, h1]
  refine call_of (sp_GF_Order h.g) ?_
  by_cases h2 : min 64 ((qn M : Nat) : Int) < N
  · simp -implicitDefEqProofs only [go_sem, Nat.reduceLT, Nat.reduceBEq, Nat.reduceAdd, Nat.reduceEqDiff, Nat.reduceLeDiff, Nat.reduceSub, Nat.reduceMul, h2]
    exact fin _ 4 _ (by simp -implicitDefEqProofs only [go_sem, Nat.reduceLT, Nat.reduceBEq, Nat.reduceAdd, Nat.reduceEqDiff, Nat.reduceLeDiff, Nat.reduceSub, Nat.reduceMul]) (by simp -implicitDefEqProofs only [go_sem, Nat.reduceLT, Nat.reduceBEq, Nat.reduceAdd, Nat.reduceEqDiff, Nat.reduceLeDiff, Nat.reduceSub, Nat.reduceMul]) (by rw [gse, if_pos (.inr h2)])
  have hg1 : ¬ (N < 1 ∨ min 64 ((qn M : Nat) : Int) < N) := by omega
  by_cases h3 : K < 0
  · simp -implicitDefEqProofs only [go_sem, Nat.reduceLT, Nat.reduceBEq, Nat.reduceAdd, Nat.reduceEqDiff, Nat.reduceLeDiff, Nat.reduceSub, Nat.reduceMul, h2, h3]
    exact fin _ 6 _ (by simp -implicitDefEqProofs only [go_sem, Nat.reduceLT, Nat.reduceBEq, Nat.reduceAdd, Nat.reduceEqDiff, Nat.reduceLeDiff, Nat.reduceSub, Nat.reduceMul]) (by simp -implicitDefEqProofs only [go_sem, Nat.reduceLT, Nat.reduceBEq, Nat.reduceAdd, Nat.reduceEqDiff, Nat.reduceLeDiff, Nat.reduceSub, Nat.reduceMul]) (by rw [gse, if_neg hg1, if_pos (.inl h3)])
  by_cases h4 : N < K
  · simp -implicitDefEqProofs only [go_sem, Nat.reduceLT, Nat.reduceBEq, Nat.reduceAdd, Nat.reduceEqDiff, Nat.reduceLeDiff, Nat.reduceSub, Nat.reduceMul, h2, h3, h4]
    exact fin _ 6 _ (by simp -implicitDefEqProofs only [go_sem, Nat.reduceLT, Nat.reduceBEq, Nat.reduceAdd, Nat.reduceEqDiff, Nat.reduceLeDiff, Nat.reduceSub, Nat.reduceMul]) (by simp -implicitDefEqProofs only [go_sem, Nat.reduceLT, Nat.reduceBEq, Nat.reduceAdd, Nat.reduceEqDiff, Nat.reduceLeDiff, Nat.reduceSub, Nat.reduceMul]) (by rw [gse, if_neg hg1, if_pos (.inr h4)])
  exact absurd (by rw [gse, if_neg hg1, if_neg (by omega)]) he
set_option maxHeartbeats 4000000 in
theorem sp_grs_Standard {H : Heap} {n : Nat} (p m : Int) (l : Nat) (mo : Nat → Int) (h : Fi M) (d : Gh.Des p m l mo M) (N : Nat) (K : Int) (he : gse (qn M : Nat) N K = 0) : Spec prog fid_grs_Standard [fgv p m (isl l mo), .int .i64 (N : Nat), .int .i64 K] H n (.tup [(gstd p m l mo N K).gv, .int .i64 0]) H n := by
  refine spec_ends hmix ok_grs_Standard rfl fun hF => ?_
  show gw prog B_grs_Standard _ (tl 63 _) H n
  have hnw : ∀ (H : Heap) (n : Nat), Spec prog fid_field_New [fgv p m (isl l mo)] H n (.tup [h.gf, .int .i64 0]) H n := fun H n => by rw [d.fd]; exact sp_field_New h
  have hfl : ∀ (H : Heap) (n : Nat), Spec prog fid_field_GF_Field [h.gf] H n (fgv p m (isl l mo)) H n := fun H n => by rw [d.fd]; exact sp_GF_Field h.fc h.g
  have h1 : ¬ (N : Int) < 1 := fun hc => by rw [gse, if_pos (.inl hc)] at he; omega
  have h2 : ¬ min 64 ((qn M : Nat) : Int) < (N : Int) := fun hc => by rw [gse, if_pos (.inr hc)] at he; omega
  have hg1 : ¬ ((N : Int) < 1 ∨ min 64 ((qn M : Nat) : Int) < (N : Int)) := by omega
  have h3 : ¬ K < 0 := fun hc => by rw [gse, if_neg hg1, if_pos (.inl hc)] at he; omega
  have h4 : ¬ (N : Int) < K := fun hc => by rw [gse, if_neg hg1, if_pos (.inr hc)] at he; omega
  simp -implicitDefEqProofs only [B_grs_Standard, go_sem, Nat.reduceLT, Nat.reduceBEq, Nat.reduceAdd, Nat.reduceEqDiff, Nat.reduceLeDiff, Nat.reduceSub, Nat.reduceMul]
  refine call_of (hnw _ _) ?_
  simp -implicitDefEqProofs only [go_sem, Nat.reduceLT, Nat.reduceBEq, Nat.reduceAdd, Nat.reduceEqDiff, Nat.reduceLeDiff, Nat.reduceSub, Nat.reduceMul, h1]
  refine call_of (sp_GF_Order h.g) ?_
  simp -implicitDefEqProofs only [go_sem, Nat.reduceLT, Nat.reduceBEq, Nat.reduceAdd, Nat.reduceEqDiff, Nat.reduceLeDiff, Nat.reduceSub, Nat.reduceMul, h2, h3, h4]
  refine call_of (hfl _ _) ?_
  simp -implicitDefEqProofs only [go_sem, Nat.reduceLT, Nat.reduceBEq, Nat.reduceAdd, Nat.reduceEqDiff, Nat.reduceLeDiff, Nat.reduceSub, Nat.reduceMul]
  refine loop_rule (fun (i : Nat) E H' n' => ∃ g1 g2, n + 3 ≤ n' ∧ H' (n + 1) = some [.int .i64 0, .int .i64 0, .nil, .int .i64 0, .nil, .nil] ∧ H' (n + 2) = some [.int .i64 p, .int .i64 m, isl l mo, .int .i64 K, g1, g2] ∧ (∀ b, b < n → H' b = H b) ∧ Sl H' (n + 3) n' g1 i (it fun t => (t : Nat)) ∧ Sl H' (n + 3) n' g2 i (it fun _ => 1) ∧ (∀ c, Own g1 c → ¬ Own g2 c) ∧ E 6 = .ptr (n + 1) 0 ∧ E 10 = .ptr (n + 2) 0 ∧ E 46 = .int .i64 (N : Nat) ∧ E 47 = .int .i64 (i : Nat) ∧ i ≤ N) (fun i => N - i) 0 ?_ ?_
  · exact ⟨.nil, .nil, by omega, by simp -implicitDefEqProofs only [go_sem, Nat.reduceLT, Nat.reduceBEq, Nat.reduceAdd, Nat.reduceEqDiff, Nat.reduceLeDiff, Nat.reduceSub, Nat.reduceMul], by simp -implicitDefEqProofs only [go_sem, Nat.reduceLT, Nat.reduceBEq, Nat.reduceAdd, Nat.reduceEqDiff, Nat.reduceLeDiff, Nat.reduceSub, Nat.reduceMul], fun b hb => by rw [upd_ne _ _ (by omega), upd_ne _ _ (by omega), upd_ne _ _ (by omega)], .nil, .nil, fun c h => absurd h own_nil, rfl, rfl, rfl, rfl, by omega⟩
  rintro i E H' n' ⟨g1, g2, hn, c1, c2, ho, s1, s2, hd, e6, e10, e46, e47, hi⟩
  simp -implicitDefEqProofs only [go_sem, Nat.reduceLT, Nat.reduceBEq, Nat.reduceAdd, Nat.reduceEqDiff, Nat.reduceLeDiff, Nat.reduceSub, Nat.reduceMul, e46, e47]
  refine c_split (fun hc => ?_) (fun hc => ?_)
  · have hiN : i < N := by omega
    have hwi := wrap64 (x := (i : Int) + 1) (by omega)
    have k1 := s1.cell
    have k2 := s2.cell
    have f2 : (n + 2 = n') = False := eq_false (by omega)
    simp -implicitDefEqProofs only [go_sem, Nat.reduceLT, Nat.reduceBEq, Nat.reduceAdd, Nat.reduceEqDiff, Nat.reduceLeDiff, Nat.reduceSub, Nat.reduceMul, e10, e47, upd_no, f2, c2, k1, k2]
    have s1' : Sl (upd H' n' (some [GV.int .i64 (i : Nat)])) (n + 3) (n' + 1) g1 i (it fun t => (t : Nat)) := s1.keep (fun c hc => upd_ne _ _ (by have := s1.lt hc; omega)) (by omega)
    refine app_one s1' rfl rfl (by omega) fun H2 a1 a2 => ?_
    have f3 : ¬ Own g1 (n + 2) := fun h => by have := s1.lt h; omega
    have c2' : H2 (n + 2) = some [.int .i64 p, .int .i64 m, isl l mo, .int .i64 K, g1, g2] := by rw [a2 _ (by omega) f3, upd_ne _ _ (by omega), c2]
    have s2' : Sl H2 (n + 3) (n' + 2) g2 i (it fun _ => 1) := s2.keep (fun c hc => by rw [a2 c (by have := s2.lt hc; omega) (fun h => hd c h hc), upd_ne _ _ (by have := s2.lt hc; omega)]) (by omega)
    have f4 : (n + 2 = n' + 1 + 1) = False := eq_false (by omega)
    simp -implicitDefEqProofs only [go_sem, Nat.reduceLT, Nat.reduceBEq, Nat.reduceAdd, Nat.reduceEqDiff, Nat.reduceLeDiff, Nat.reduceSub, Nat.reduceMul, e10, c2', k2, upd_no, f4]
    refine app_one (m := i) (lo := n + 3) (f := it fun _ => 1) ?_ rfl rfl (by omega) fun H3 b1 b2 => ?_
    · exact s2'.keep (fun c hc => by rw [upd_ne _ _ (by have := s2.lt hc; omega), upd_ne _ _ (by have := s2.lt hc; omega)]) (by omega)
    have f5 : ¬ Own g2 (n + 2) := fun h => by have := s2.lt h; omega
    have c3 : H3 (n + 2) = some [.int .i64 p, .int .i64 m, isl l mo, .int .i64 K, .own (n' + 1) 0 (i + 1), g2] := by
      rw [b2 _ (by omega) f5, upd_ne _ _ (by omega), upd_same]
    simp -implicitDefEqProofs only [go_sem, Nat.reduceLT, Nat.reduceBEq, Nat.reduceAdd, Nat.reduceEqDiff, Nat.reduceLeDiff, Nat.reduceSub, Nat.reduceMul, e10, c3, e47, hwi]
    refine l_n ⟨i + 1, by omega, .own (n' + 1) 0 (i + 1), .own (n' + 1 + 1 + 1) 0 (i + 1), by omega, ?_, by simp -implicitDefEqProofs only [go_sem, Nat.reduceLT, Nat.reduceBEq, Nat.reduceAdd, Nat.reduceEqDiff, Nat.reduceLeDiff, Nat.reduceSub, Nat.reduceMul], fun b hb => ?_, .inr ⟨n' + 1, by omega, by omega, rfl, ?_⟩, .inr ⟨n' + 1 + 1 + 1, by omega, by omega, rfl, ?_⟩, fun c h1 h2 => ?_, by simp -implicitDefEqProofs only [go_sem, Nat.reduceLT, Nat.reduceBEq, Nat.reduceAdd, Nat.reduceEqDiff, Nat.reduceLeDiff, Nat.reduceSub, Nat.reduceMul, e6], by simp -implicitDefEqProofs only [go_sem, Nat.reduceLT, Nat.reduceBEq, Nat.reduceAdd, Nat.reduceEqDiff, Nat.reduceLeDiff, Nat.reduceSub, Nat.reduceMul, e10], by simp -implicitDefEqProofs only [go_sem, Nat.reduceLT, Nat.reduceBEq, Nat.reduceAdd, Nat.reduceEqDiff, Nat.reduceLeDiff, Nat.reduceSub, Nat.reduceMul, e46], by simp -implicitDefEqProofs only [go_sem, Nat.reduceLT, Nat.reduceBEq, Nat.reduceAdd, Nat.reduceEqDiff, Nat.reduceLeDiff, Nat.reduceSub, Nat.reduceMul]; rfl, by omega⟩
    · rw [upd_ne _ _ (by omega), b2 _ (by omega) (fun h => by have := s2.lt h; omega), upd_ne _ _ (by omega), upd_ne _ _ (by omega), a2 _ (by omega) (fun h => by have := s1.lt h; omega), upd_ne _ _ (by omega), c1]
    · rw [upd_ne _ _ (by omega), b2 _ (by omega) (fun h => by have := s2.lt h; omega), upd_ne _ _ (by omega), upd_ne _ _ (by omega), a2 _ (by omega) (fun h => by have := s1.lt h; omega), upd_ne _ _ (by omega), ho b hb]
    · rw [upd_ne _ _ (by omega), b2 _ (by omega) (fun h => by have := s2.lt h; omega), upd_ne _ _ (by omega), upd_ne _ _ (by omega), a1]
    · rw [upd_ne _ _ (by omega), b1]
    · rw [own_own] at h1 h2; omega
  · have : i = N := by omega
    subst this
    have k1 := s1.cell
    have k2 := s2.cell
    have f1 : (n + 2 = n + 1) = False := eq_false (by omega)
    obtain ⟨b1, r1, r2, rfl, r4⟩ := s1.own (by omega)
    obtain ⟨b2, q1, q2, rfl, q4⟩ := s2.own (by omega)
    simp -implicitDefEqProofs only [go_sem, Nat.reduceLT, Nat.reduceBEq, Nat.reduceAdd, Nat.reduceEqDiff, Nat.reduceLeDiff, Nat.reduceSub, Nat.reduceMul, e6, e10, c1, c2]
    refine fin_cell2 (b := n + 1) (o := 0) rfl (by decide) (by decide) (by simp -implicitDefEqProofs only [go_sem, Nat.reduceLT, Nat.reduceBEq, Nat.reduceAdd, Nat.reduceEqDiff, Nat.reduceLeDiff, Nat.reduceSub, Nat.reduceMul, e6]) (by simp -implicitDefEqProofs only [go_sem, Nat.reduceLT, Nat.reduceBEq, Nat.reduceAdd, Nat.reduceEqDiff, Nat.reduceLeDiff, Nat.reduceSub, Nat.reduceMul]; rfl) (Nat.le_refl _) ?_ (by simp -implicitDefEqProofs only [go_sem, Nat.reduceLT, Nat.reduceBEq, Nat.reduceAdd, Nat.reduceEqDiff, Nat.reduceLeDiff, Nat.reduceSub, Nat.reduceMul]; exact fz_int rfl) fun b hb => ?_
    · refine .agg _ _ rfl fun j hj => ?_
      rcases j with _ | _ | _ | _ | _ | _ | j
      · exact .int _ _
      · exact .int _ _
      · exact (pl_isl _ _).tr
      · exact .int _ _
      · exact fz_own_isl (by rw [upd_ne _ _ (by omega)]; exact r4) (by omega)
      · exact fz_own_isl (by rw [upd_ne _ _ (by omega)]; exact q4) (by omega)
      · simp at hj; omega
    · rw [upd_ne _ _ (by omega)]; exact ho b hb

theorem sp_grs_copied {H : Heap} {n : Nat} (h : Fi M) (s : Gr) (d : s.Des M) (hs : s.Ok) : Spec prog fid_grs_copied [h.gf, s.gv] H n (.agg [.int .i64 s.p, .int .i64 s.m, isl s.l s.mo, .int .i64 s.K, isl s.np s.x, .own n 0 s.nm]) (upd H n (some (tab s.nm (it s.v)))) (n + 1) := by
  refine spec_ends1 hmix ok_grs_copied rfl fun hF => ?_
  show gw prog B_grs_copied _ (tl 18 _) H n
  have hnp := hs.n64
  have hnm := hs.nm
  have hfl : ∀ (H : Heap) (n : Nat), Spec prog fid_field_GF_Field [h.gf] H n (fgv s.p s.m (isl s.l s.mo)) H n := fun H n => by rw [d.fd]; exact sp_GF_Field h.fc h.g
  simp -implicitDefEqProofs only [B_grs_copied, go_sem, Nat.reduceLT, Nat.reduceBEq, Nat.reduceAdd, Nat.reduceEqDiff, Nat.reduceLeDiff, Nat.reduceSub, Nat.reduceMul]
  refine mcall_of (Pl.nr (.agg _ fun j hj => by
    rcases j with _ | _ | _ | j
    · exact .int _ _
    · exact .int _ _
    · exact pl_isl _ _
    · simp at hj; omega)) (fun H1 n1 _ _ => hfl _ _) ?_
  simp -implicitDefEqProofs only [go_sem, Nat.reduceLT, Nat.reduceBEq, Nat.reduceAdd, Nat.reduceEqDiff, Nat.reduceLeDiff, Nat.reduceSub, Nat.reduceMul]
  repeat with_reducible refine And.intro (by omega) ?_
  refine fin_cell1 (b := n + 1) (o := 0) (c := n + 3) rfl (by decide) (by simp -implicitDefEqProofs only [go_sem, Nat.reduceLT, Nat.reduceBEq, Nat.reduceAdd, Nat.reduceEqDiff, Nat.reduceLeDiff, Nat.reduceSub, Nat.reduceMul]) (by simp -implicitDefEqProofs only [go_sem, Nat.reduceLT, Nat.reduceBEq, Nat.reduceAdd, Nat.reduceEqDiff, Nat.reduceLeDiff, Nat.reduceSub, Nat.reduceMul]; rfl) (Nat.le_refl _) ?_ (by omega) (by simp -implicitDefEqProofs only [go_sem, Nat.reduceLT, Nat.reduceBEq, Nat.reduceAdd, Nat.reduceEqDiff, Nat.reduceLeDiff, Nat.reduceSub, Nat.reduceMul]) trs_it fun b hb => ?_
  · refine .agg _ _ rfl fun j hj => ?_
    rcases j with _ | _ | _ | _ | _ | _ | j
    · exact .int _ _
    · exact .int _ _
    · exact (pl_isl _ _).tr
    · exact .int _ _
    · refine .ownf (n + 2) 0 s.np _ _ (by simp -implicitDefEqProofs only [go_sem, Nat.reduceLT, Nat.reduceBEq, Nat.reduceAdd, Nat.reduceEqDiff, Nat.reduceLeDiff, Nat.reduceSub, Nat.reduceMul]; rfl) (by omega) (fun i a c => by omega) (by rw [tab_len]; omega) tab_len fun j hj => ?_
      rw [Nat.zero_add]; rw [gat_tab hj, it_at]; exact .int _ _
    · exact .ownk (κ := fun _ => n + 3) n 0 s.nm (Nat.le_refl _) (by omega) (by simp -implicitDefEqProofs only [go_sem, Nat.reduceLT, Nat.reduceBEq, Nat.reduceAdd, Nat.reduceEqDiff, Nat.reduceLeDiff, Nat.reduceSub, Nat.reduceMul]; simp)
    · simp at hj; omega
  · simp only [upd, if_neg (show b ≠ n by omega), if_neg (show b ≠ n + 1 by omega), if_neg (show b ≠ n + 2 by omega), if_neg (show b ≠ n + 3 by omega)]
end
end Go.Proofs.Yteiafdhejcgjcaa.Gh
/- Dual descriptions. -/
namespace Go.Proofs.Yteiafdhejcgjcaa.Gh
open Go Go.RowKit
open Alg (CR Ps Dg Zm Mn El Cg sm pw Irr Prm)
set_option linter.unusedVariables false
set_option linter.unusedSimpArgs false

section
variable {k : Nat} {M : Mn k}
/-- the points, as residues -/
def Gr.X (s : Gr) (M : Mn k) : Nat → El M := fun j => ein M (s.x j)
noncomputable def Gr.fc (s : Gr) (M : Mn k) (i : Nat) : Nat → El M := fun j => if j = i then 1 else s.X M i - s.X M j
noncomputable def Gr.dfv (s : Gr) (M : Mn k) (i : Nat) : El M := ein M (s.v i) * Alg.df s.np (s.X M) i
theorem Gr.dfv_eq (s : Gr) (i : Nat) : s.dfv M i = ein M (s.v i) * Alg.pd s.np (s.fc M i) := rfl
theorem Gr.Ok.vne {s : Gr} (hs : s.Ok) (h : Fi M) (d : s.Des M) {i : Nat} (hi : i < s.np) : ein M (s.v i) ≠ 0 := fun e => by
  have hq := Gr.Des.qo d h
  have h1 := hs.v i hi
  rw [hq] at h1
  have h2 := cn_ein h.fc h1.1 h1.2
  rw [e, cn_zero] at h2
  exact hs.nz i hi h2.symm
theorem Gr.Ok.inj {s : Gr} (hs : s.Ok) (h : Fi M) (d : s.Des M) {i j : Nat} (hi : i < s.np) (hj : j < s.np) (e : s.X M i = s.X M j) : i = j := by
  have hq := Gr.Des.qo d h
  have h1 := hs.x i hi
  have h2 := hs.x j hj
  rw [hq] at h1 h2
  have e1 := cn_ein h.fc h1.1 h1.2
  have e2 := cn_ein h.fc h2.1 h2.2
  have e' : ein M (s.x i) = ein M (s.x j) := e
  have hx : s.x i = s.x j := by rw [← e1, ← e2, e']
  rcases Nat.lt_trichotomy i j with c | c | c
  · exact absurd ⟨j, i, hj, c, hx.symm⟩ hs.tw
  · exact c
  · exact absurd ⟨i, j, hi, c, hx⟩ hs.tw
theorem Gr.Ok.df_ne {s : Gr} (hs : s.Ok) (h : Fi M) (d : s.Des M) {i : Nat} (hi : i < s.np) : Alg.df s.np (s.X M) i ≠ 0 := by
  letI : Alg.Fd (El M) := Alg.elFd h.prm h.irr
  exact Alg.df_ne_zero (fun a b ha hb => hs.inj h d ha hb) hi
theorem Gr.Ok.dfv_ne {s : Gr} (hs : s.Ok) (h : Fi M) (d : s.Des M) {i : Nat} (hi : i < s.np) : s.dfv M i ≠ 0 := by
  letI : Alg.Fd (El M) := Alg.elFd h.prm h.irr
  exact Alg.mul_ne_zero (hs.vne h d hi) (hs.df_ne h d hi)
/-- the multipliers of the dual -/
noncomputable def Gr.dv (s : Gr) (h : Fi M) : Nat → Int := fun i => (cn (h.iv (s.dfv M i)) : Nat)
noncomputable def Gr.dual (s : Gr) (h : Fi M) : Gr := ⟨s.p, s.m, s.l, s.mo, (s.np : Int) - s.K, s.np, s.x, s.np, s.dv h⟩
abbrev z6 : List GV := [.int .i64 0, .int .i64 0, .nil, .int .i64 0, .nil, .nil]

theorem sp_grs_Dual_fail {H : Heap} {n : Nat} (s : Gr) (h : ¬ s.Fok) : Spec prog fid_grs_Dual [s.gv] H n (.tup [g0.gv, .int .i64 s.ce]) H n := by
  refine spec_ends hmix ok_grs_Dual rfl fun hF => ?_
  show gw prog B_grs_Dual _ (tl 75 _) H n
  have h10 : ((1 : Int) = 0) = False := by simp
  have hce := Gr.ce_fail h
  rw [hce]
  simp -implicitDefEqProofs only [B_grs_Dual, go_sem, Nat.reduceLT, Nat.reduceBEq, Nat.reduceAdd, Nat.reduceEqDiff, Nat.reduceLeDiff, Nat.reduceSub, Nat.reduceMul]
  refine call_of (sp_grs_open_fail s h) ?_
  rw [hce]
  simp -implicitDefEqProofs only [go_sem, Nat.reduceLT, Nat.reduceBEq, Nat.reduceAdd, Nat.reduceEqDiff, Nat.reduceLeDiff, Nat.reduceSub, Nat.reduceMul, h10]
  exact fin_cell2 (b := n + 1) (o := 0) rfl (by decide) (by decide) (by simp -implicitDefEqProofs only [go_sem, Nat.reduceLT, Nat.reduceBEq, Nat.reduceAdd, Nat.reduceEqDiff, Nat.reduceLeDiff, Nat.reduceSub, Nat.reduceMul]) (by simp -implicitDefEqProofs only [go_sem, Nat.reduceLT, Nat.reduceBEq, Nat.reduceAdd, Nat.reduceEqDiff, Nat.reduceLeDiff, Nat.reduceSub, Nat.reduceMul]; rfl) (Nat.le_refl _) fz_g0 (fz_int rfl) fun b hb => by rw [upd_ne _ _ (by omega), upd_ne _ _ (by omega)]
theorem sp_grs_Dual_err {H : Heap} {n : Nat} (h : Fi M) (s : Gr) (d : s.Des M) (hc : s.ce ≠ 0) : Spec prog fid_grs_Dual [s.gv] H n (.tup [g0.gv, .int .i64 s.ce]) H n := by
  refine spec_ends hmix ok_grs_Dual rfl fun hF => ?_
  show gw prog B_grs_Dual _ (tl 75 _) H n
  simp -implicitDefEqProofs only [B_grs_Dual, go_sem, Nat.reduceLT, Nat.reduceBEq, Nat.reduceAdd, Nat.reduceEqDiff, Nat.reduceLeDiff, Nat.reduceSub, Nat.reduceMul]
  refine call_of (sp_grs_open s h d) ?_
  simp -implicitDefEqProofs only [go_sem, Nat.reduceLT, Nat.reduceBEq, Nat.reduceAdd, Nat.reduceEqDiff, Nat.reduceLeDiff, Nat.reduceSub, Nat.reduceMul, hc]
  exact fin_cell2 (b := n + 1) (o := 0) rfl (by decide) (by decide) (by simp -implicitDefEqProofs only [go_sem, Nat.reduceLT, Nat.reduceBEq, Nat.reduceAdd, Nat.reduceEqDiff, Nat.reduceLeDiff, Nat.reduceSub, Nat.reduceMul]) (by simp -implicitDefEqProofs only [go_sem, Nat.reduceLT, Nat.reduceBEq, Nat.reduceAdd, Nat.reduceEqDiff, Nat.reduceLeDiff, Nat.reduceSub, Nat.reduceMul]; rfl) (Nat.le_refl _) fz_g0 (fz_int rfl) fun b hb => by rw [upd_ne _ _ (by omega), upd_ne _ _ (by omega)]
set_option maxHeartbeats 4000000 in
theorem sp_grs_Dual {H : Heap} {n : Nat} (h : Fi M) (s : Gr) (d : s.Des M) (hs : s.Ok) : Spec prog fid_grs_Dual [s.gv] H n (.tup [(s.dual h).gv, .int .i64 0]) H n := by
  refine spec_ends hmix ok_grs_Dual rfl fun hF => ?_
  show gw prog B_grs_Dual _ (tl 75 _) H n
  have hce := hs.ce
  have hnp := hs.n64
  have hnm := hs.nm
  have hK0 := hs.K0
  have hKn := hs.Kn
  have hop := sp_grs_open (H := upd (upd H n (some s.cs)) (n + 1) (some z6)) (n := n + 2) s h d
  rw [hce, if_pos rfl] at hop
  have hwK := wrap64 (x := (s.np : Int) - s.K) (by omega)
  simp -implicitDefEqProofs only [B_grs_Dual, go_sem, Nat.reduceLT, Nat.reduceBEq, Nat.reduceAdd, Nat.reduceEqDiff, Nat.reduceLeDiff, Nat.reduceSub, Nat.reduceMul]
  refine call_of hop ?_
  simp -implicitDefEqProofs only [go_sem, Nat.reduceLT, Nat.reduceBEq, Nat.reduceAdd, Nat.reduceEqDiff, Nat.reduceLeDiff, Nat.reduceSub, Nat.reduceMul]
  refine call_of (sp_grs_copied h s d hs) ?_
  have f1 : (n = n + 2) = False := eq_false (by omega)
  have f2 : (n = n + 1) = False := eq_false (by omega)
  have f3 : (n = n + 3) = False := eq_false (by omega)
  simp -implicitDefEqProofs only [go_sem, Nat.reduceLT, Nat.reduceBEq, Nat.reduceAdd, Nat.reduceEqDiff, Nat.reduceLeDiff, Nat.reduceSub, Nat.reduceMul, upd_no, f1, f2, f3, hwK]
  refine loop_rule (fun (i : Nat) E H' n' => n' = n + 4 ∧ H' n = some s.cs ∧ H' (n + 1) = some z6 ∧ H' (n + 2) = some (tab s.np (it (mix (s.dv h) s.v i))) ∧ H' (n + 3) = some [.int .i64 s.p, .int .i64 s.m, isl s.l s.mo, .int .i64 ((s.np : Int) - s.K), isl s.np s.x, .own (n + 2) 0 s.np] ∧ (∀ b, b < n → H' b = H b) ∧ E 1 = .ptr n 0 ∧ E 2 = .ptr (n + 1) 0 ∧ E 4 = h.gf ∧ E 6 = .ptr (n + 3) 0 ∧ E 32 = isl s.np s.x ∧ E 33 = .int .i64 (s.np : Nat) ∧ E 34 = .int .i64 (i : Nat) ∧ i ≤ s.np) (fun i => s.np - i) 0 ?_ ?_
  · refine ⟨rfl, by simp -implicitDefEqProofs only [go_sem, Nat.reduceLT, Nat.reduceBEq, Nat.reduceAdd, Nat.reduceEqDiff, Nat.reduceLeDiff, Nat.reduceSub, Nat.reduceMul, upd_no, f1, f2, f3], by simp -implicitDefEqProofs only [go_sem, Nat.reduceLT, Nat.reduceBEq, Nat.reduceAdd, Nat.reduceEqDiff, Nat.reduceLeDiff, Nat.reduceSub, Nat.reduceMul], by simp -implicitDefEqProofs only [go_sem, Nat.reduceLT, Nat.reduceBEq, Nat.reduceAdd, Nat.reduceEqDiff, Nat.reduceLeDiff, Nat.reduceSub, Nat.reduceMul, mix_zero, hnm], by simp -implicitDefEqProofs only [go_sem, Nat.reduceLT, Nat.reduceBEq, Nat.reduceAdd, Nat.reduceEqDiff, Nat.reduceLeDiff, Nat.reduceSub, Nat.reduceMul, hnm], fun b hb => ?_, rfl, rfl, rfl, rfl, rfl, rfl, rfl, by omega⟩
    simp only [upd, if_neg (show b ≠ n by omega), if_neg (show b ≠ n + 1 by omega), if_neg (show b ≠ n + 2 by omega), if_neg (show b ≠ n + 3 by omega)]
  rintro i E H' n' ⟨rfl, h0, h1, h2, h3, ho, e1, e2, e4, e6, e32, e33, e34, hi⟩
  simp -implicitDefEqProofs only [go_sem, Nat.reduceLT, Nat.reduceBEq, Nat.reduceAdd, Nat.reduceEqDiff, Nat.reduceLeDiff, Nat.reduceSub, Nat.reduceMul, e33, e34]
  refine c_split (fun hc => ?_) (fun hc => ?_)
  · have hiN : i < s.np := by omega
    have hiM : i < s.nm := by omega
    have hcM : (i : Int) < (s.nm : Int) := by omega
    have hwi := wrap64 (x := (i : Int) + 1) (by omega)
    simp -implicitDefEqProofs only [go_sem, Nat.reduceLT, Nat.reduceBEq, Nat.reduceAdd, Nat.reduceEqDiff, Nat.reduceLeDiff, Nat.reduceSub, Nat.reduceMul, e1, e32, e34, h0, hc, hcM, hiN, hiM, gat_tab]
    refine loop_rule (fun (j : Nat) E H1 n1 => H1 = H' ∧ n1 = n + 4 ∧ E 1 = .ptr n 0 ∧ E 2 = .ptr (n + 1) 0 ∧ E 4 = h.gf ∧ E 6 = .ptr (n + 3) 0 ∧ E 7 = .int .i64 (i : Nat) ∧ E 8 = .int .i64 (s.x i) ∧ E 9 = .int .i64 (cn (ein M (s.v i) * Alg.pd j (s.fc M i)) : Nat) ∧ E 32 = isl s.np s.x ∧ E 33 = .int .i64 (s.np : Nat) ∧ E 34 = .int .i64 (i : Nat) ∧ E 45 = isl s.np s.x ∧ E 46 = .int .i64 (s.np : Nat) ∧ E 47 = .int .i64 (j : Nat) ∧ j ≤ s.np) (fun j => s.np - j) 0 ?_ ?_
    · refine ⟨rfl, rfl, by simp -implicitDefEqProofs only [go_sem, Nat.reduceLT, Nat.reduceBEq, Nat.reduceAdd, Nat.reduceEqDiff, Nat.reduceLeDiff, Nat.reduceSub, Nat.reduceMul, e1], by simp -implicitDefEqProofs only [go_sem, Nat.reduceLT, Nat.reduceBEq, Nat.reduceAdd, Nat.reduceEqDiff, Nat.reduceLeDiff, Nat.reduceSub, Nat.reduceMul, e2], by simp -implicitDefEqProofs only [go_sem, Nat.reduceLT, Nat.reduceBEq, Nat.reduceAdd, Nat.reduceEqDiff, Nat.reduceLeDiff, Nat.reduceSub, Nat.reduceMul, e4], by simp -implicitDefEqProofs only [go_sem, Nat.reduceLT, Nat.reduceBEq, Nat.reduceAdd, Nat.reduceEqDiff, Nat.reduceLeDiff, Nat.reduceSub, Nat.reduceMul, e6], by simp -implicitDefEqProofs only [go_sem, Nat.reduceLT, Nat.reduceBEq, Nat.reduceAdd, Nat.reduceEqDiff, Nat.reduceLeDiff, Nat.reduceSub, Nat.reduceMul], by simp -implicitDefEqProofs only [go_sem, Nat.reduceLT, Nat.reduceBEq, Nat.reduceAdd, Nat.reduceEqDiff, Nat.reduceLeDiff, Nat.reduceSub, Nat.reduceMul], ?_, by simp -implicitDefEqProofs only [go_sem, Nat.reduceLT, Nat.reduceBEq, Nat.reduceAdd, Nat.reduceEqDiff, Nat.reduceLeDiff, Nat.reduceSub, Nat.reduceMul, e32], by simp -implicitDefEqProofs only [go_sem, Nat.reduceLT, Nat.reduceBEq, Nat.reduceAdd, Nat.reduceEqDiff, Nat.reduceLeDiff, Nat.reduceSub, Nat.reduceMul, e33], by simp -implicitDefEqProofs only [go_sem, Nat.reduceLT, Nat.reduceBEq, Nat.reduceAdd, Nat.reduceEqDiff, Nat.reduceLeDiff, Nat.reduceSub, Nat.reduceMul, e34], rfl, rfl, rfl, by omega⟩
      have hv := hs.v i hiN
      rw [Gr.Des.qo d h] at hv
      simp -implicitDefEqProofs only [go_sem, Nat.reduceLT, Nat.reduceBEq, Nat.reduceAdd, Nat.reduceEqDiff, Nat.reduceLeDiff, Nat.reduceSub, Nat.reduceMul, Alg.pd_zero, Alg.mul_one, cn_ein h.fc hv.1 hv.2]
    clear e34 e33 e32 e6 e4 e2 e1 E
    rintro j E H1 n1 ⟨rfl, rfl, e1, e2, e4, e6, e7, e8, e9, e32, e33, e34, e45, e46, e47, hj⟩
    simp -implicitDefEqProofs only [go_sem, Nat.reduceLT, Nat.reduceBEq, Nat.reduceAdd, Nat.reduceEqDiff, Nat.reduceLeDiff, Nat.reduceSub, Nat.reduceMul, e46, e47]
    refine c_split (fun hc' => ?_) (fun hc' => ?_)
    · have hjN : j < s.np := by omega
      have hwj := wrap64 (x := (j : Int) + 1) (by omega)
      by_cases hji : j = i
      · subst hji
        have hstep : Alg.pd (j + 1) (s.fc M j) = Alg.pd j (s.fc M j) := by rw [Alg.pd_succ, show s.fc M j j = 1 from if_pos rfl, Alg.mul_one]
        simp -implicitDefEqProofs only [go_sem, Nat.reduceLT, Nat.reduceBEq, Nat.reduceAdd, Nat.reduceEqDiff, Nat.reduceLeDiff, Nat.reduceSub, Nat.reduceMul, e7, e45, e47, hc', hjN, gat_tab, hwj]
        refine l_n ⟨j + 1, by omega, rfl, rfl, by simp -implicitDefEqProofs only [go_sem, Nat.reduceLT, Nat.reduceBEq, Nat.reduceAdd, Nat.reduceEqDiff, Nat.reduceLeDiff, Nat.reduceSub, Nat.reduceMul, e1], by simp -implicitDefEqProofs only [go_sem, Nat.reduceLT, Nat.reduceBEq, Nat.reduceAdd, Nat.reduceEqDiff, Nat.reduceLeDiff, Nat.reduceSub, Nat.reduceMul, e2], by simp -implicitDefEqProofs only [go_sem, Nat.reduceLT, Nat.reduceBEq, Nat.reduceAdd, Nat.reduceEqDiff, Nat.reduceLeDiff, Nat.reduceSub, Nat.reduceMul, e4], by simp -implicitDefEqProofs only [go_sem, Nat.reduceLT, Nat.reduceBEq, Nat.reduceAdd, Nat.reduceEqDiff, Nat.reduceLeDiff, Nat.reduceSub, Nat.reduceMul, e6], by simp -implicitDefEqProofs only [go_sem, Nat.reduceLT, Nat.reduceBEq, Nat.reduceAdd, Nat.reduceEqDiff, Nat.reduceLeDiff, Nat.reduceSub, Nat.reduceMul, e7], by simp -implicitDefEqProofs only [go_sem, Nat.reduceLT, Nat.reduceBEq, Nat.reduceAdd, Nat.reduceEqDiff, Nat.reduceLeDiff, Nat.reduceSub, Nat.reduceMul, e8], by simp -implicitDefEqProofs only [go_sem, Nat.reduceLT, Nat.reduceBEq, Nat.reduceAdd, Nat.reduceEqDiff, Nat.reduceLeDiff, Nat.reduceSub, Nat.reduceMul, e9, hstep], by simp -implicitDefEqProofs only [go_sem, Nat.reduceLT, Nat.reduceBEq, Nat.reduceAdd, Nat.reduceEqDiff, Nat.reduceLeDiff, Nat.reduceSub, Nat.reduceMul, e32], by simp -implicitDefEqProofs only [go_sem, Nat.reduceLT, Nat.reduceBEq, Nat.reduceAdd, Nat.reduceEqDiff, Nat.reduceLeDiff, Nat.reduceSub, Nat.reduceMul, e33], by simp -implicitDefEqProofs only [go_sem, Nat.reduceLT, Nat.reduceBEq, Nat.reduceAdd, Nat.reduceEqDiff, Nat.reduceLeDiff, Nat.reduceSub, Nat.reduceMul, e34], by simp -implicitDefEqProofs only [go_sem, Nat.reduceLT, Nat.reduceBEq, Nat.reduceAdd, Nat.reduceEqDiff, Nat.reduceLeDiff, Nat.reduceSub, Nat.reduceMul, e45], by simp -implicitDefEqProofs only [go_sem, Nat.reduceLT, Nat.reduceBEq, Nat.reduceAdd, Nat.reduceEqDiff, Nat.reduceLeDiff, Nat.reduceSub, Nat.reduceMul, e46], by simp -implicitDefEqProofs only [go_sem, Nat.reduceLT, Nat.reduceBEq, Nat.reduceAdd, Nat.reduceEqDiff, Nat.reduceLeDiff, Nat.reduceSub, Nat.reduceMul]; rfl, by omega⟩
      · have hjI : ¬ (j : Int) = (i : Int) := by omega
        have hstep : Alg.pd (j + 1) (s.fc M i) = Alg.pd j (s.fc M i) * (ein M (s.x i) - ein M (s.x j)) := by rw [Alg.pd_succ, show s.fc M i j = ein M (s.x i) - ein M (s.x j) from if_neg hji]
        simp -implicitDefEqProofs only [go_sem, Nat.reduceLT, Nat.reduceBEq, Nat.reduceAdd, Nat.reduceEqDiff, Nat.reduceLeDiff, Nat.reduceSub, Nat.reduceMul, e4, e7, e8, e9, e45, e47, hc', hjN, gat_tab, hjI]
        refine call_of (sp_GF_Sub h.fc h.g _ _) ?_
        simp -implicitDefEqProofs only [go_sem, Nat.reduceLT, Nat.reduceBEq, Nat.reduceAdd, Nat.reduceEqDiff, Nat.reduceLeDiff, Nat.reduceSub, Nat.reduceMul]
        refine call_of (sp_GF_Mul h.fc h.g h.gg _ _) ?_
        rw [ein_cn h.fc, ein_cn h.fc, Alg.mul_assoc, ← hstep]
        simp -implicitDefEqProofs only [go_sem, Nat.reduceLT, Nat.reduceBEq, Nat.reduceAdd, Nat.reduceEqDiff, Nat.reduceLeDiff, Nat.reduceSub, Nat.reduceMul, e47, hwj]
        exact l_n ⟨j + 1, by omega, rfl, rfl, by simp -implicitDefEqProofs only [go_sem, Nat.reduceLT, Nat.reduceBEq, Nat.reduceAdd, Nat.reduceEqDiff, Nat.reduceLeDiff, Nat.reduceSub, Nat.reduceMul, e1], by simp -implicitDefEqProofs only [go_sem, Nat.reduceLT, Nat.reduceBEq, Nat.reduceAdd, Nat.reduceEqDiff, Nat.reduceLeDiff, Nat.reduceSub, Nat.reduceMul, e2], by simp -implicitDefEqProofs only [go_sem, Nat.reduceLT, Nat.reduceBEq, Nat.reduceAdd, Nat.reduceEqDiff, Nat.reduceLeDiff, Nat.reduceSub, Nat.reduceMul, e4], by simp -implicitDefEqProofs only [go_sem, Nat.reduceLT, Nat.reduceBEq, Nat.reduceAdd, Nat.reduceEqDiff, Nat.reduceLeDiff, Nat.reduceSub, Nat.reduceMul, e6], by simp -implicitDefEqProofs only [go_sem, Nat.reduceLT, Nat.reduceBEq, Nat.reduceAdd, Nat.reduceEqDiff, Nat.reduceLeDiff, Nat.reduceSub, Nat.reduceMul, e7], by simp -implicitDefEqProofs only [go_sem, Nat.reduceLT, Nat.reduceBEq, Nat.reduceAdd, Nat.reduceEqDiff, Nat.reduceLeDiff, Nat.reduceSub, Nat.reduceMul, e8], by simp -implicitDefEqProofs only [go_sem, Nat.reduceLT, Nat.reduceBEq, Nat.reduceAdd, Nat.reduceEqDiff, Nat.reduceLeDiff, Nat.reduceSub, Nat.reduceMul], by simp -implicitDefEqProofs only [go_sem, Nat.reduceLT, Nat.reduceBEq, Nat.reduceAdd, Nat.reduceEqDiff, Nat.reduceLeDiff, Nat.reduceSub, Nat.reduceMul, e32], by simp -implicitDefEqProofs only [go_sem, Nat.reduceLT, Nat.reduceBEq, Nat.reduceAdd, Nat.reduceEqDiff, Nat.reduceLeDiff, Nat.reduceSub, Nat.reduceMul, e33], by simp -implicitDefEqProofs only [go_sem, Nat.reduceLT, Nat.reduceBEq, Nat.reduceAdd, Nat.reduceEqDiff, Nat.reduceLeDiff, Nat.reduceSub, Nat.reduceMul, e34], by simp -implicitDefEqProofs only [go_sem, Nat.reduceLT, Nat.reduceBEq, Nat.reduceAdd, Nat.reduceEqDiff, Nat.reduceLeDiff, Nat.reduceSub, Nat.reduceMul, e45], by simp -implicitDefEqProofs only [go_sem, Nat.reduceLT, Nat.reduceBEq, Nat.reduceAdd, Nat.reduceEqDiff, Nat.reduceLeDiff, Nat.reduceSub, Nat.reduceMul, e46], by simp -implicitDefEqProofs only [go_sem, Nat.reduceLT, Nat.reduceBEq, Nat.reduceAdd, Nat.reduceEqDiff, Nat.reduceLeDiff, Nat.reduceSub, Nat.reduceMul]; rfl, by omega⟩
    · have : j = s.np := by omega
      subst this
      have hst := mix_step (s.dv h) s.v i
      rw [← Gr.dfv_eq] at e9
      simp -implicitDefEqProofs only [go_sem, Nat.reduceLT, Nat.reduceBEq, Nat.reduceAdd, Nat.reduceEqDiff, Nat.reduceLeDiff, Nat.reduceSub, Nat.reduceMul, e4, e6, e7, e9, h3]
      refine mcall_of (Pl.nr (.tup _ fun j hj => by
        rcases j with _ | _ | j
        · exact .int _ _
        · exact .int _ _
        · simp at hj; omega)) (fun H2 n2 _ _ => sp_GF_Inv h _ (by rw [ein_cn h.fc]; exact hs.dfv_ne h d hiN)) ?_
      rw [ein_cn h.fc]
      have hwv : ((cn (h.iv (s.dfv M i)) : Nat) : Int) = s.dv h i := rfl
      rw [hwv]
      simp -implicitDefEqProofs only [go_sem, Nat.reduceLT, Nat.reduceBEq, Nat.reduceAdd, Nat.reduceEqDiff, Nat.reduceLeDiff, Nat.reduceSub, Nat.reduceMul, h2, hc, hiN, e34, hwi, hst]
      repeat with_reducible refine And.intro (by omega) ?_
      exact l_n ⟨i + 1, by omega, rfl, by simp -implicitDefEqProofs only [go_sem, Nat.reduceLT, Nat.reduceBEq, Nat.reduceAdd, Nat.reduceEqDiff, Nat.reduceLeDiff, Nat.reduceSub, Nat.reduceMul, h0], by simp -implicitDefEqProofs only [go_sem, Nat.reduceLT, Nat.reduceBEq, Nat.reduceAdd, Nat.reduceEqDiff, Nat.reduceLeDiff, Nat.reduceSub, Nat.reduceMul, h1], by simp -implicitDefEqProofs only [go_sem, Nat.reduceLT, Nat.reduceBEq, Nat.reduceAdd, Nat.reduceEqDiff, Nat.reduceLeDiff, Nat.reduceSub, Nat.reduceMul], by simp -implicitDefEqProofs only [go_sem, Nat.reduceLT, Nat.reduceBEq, Nat.reduceAdd, Nat.reduceEqDiff, Nat.reduceLeDiff, Nat.reduceSub, Nat.reduceMul, h3], fun b hb => by rw [upd_ne _ _ (by omega)]; exact ho b hb, by simp -implicitDefEqProofs only [go_sem, Nat.reduceLT, Nat.reduceBEq, Nat.reduceAdd, Nat.reduceEqDiff, Nat.reduceLeDiff, Nat.reduceSub, Nat.reduceMul, e1], by simp -implicitDefEqProofs only [go_sem, Nat.reduceLT, Nat.reduceBEq, Nat.reduceAdd, Nat.reduceEqDiff, Nat.reduceLeDiff, Nat.reduceSub, Nat.reduceMul, e2], by simp -implicitDefEqProofs only [go_sem, Nat.reduceLT, Nat.reduceBEq, Nat.reduceAdd, Nat.reduceEqDiff, Nat.reduceLeDiff, Nat.reduceSub, Nat.reduceMul, e4], by simp -implicitDefEqProofs only [go_sem, Nat.reduceLT, Nat.reduceBEq, Nat.reduceAdd, Nat.reduceEqDiff, Nat.reduceLeDiff, Nat.reduceSub, Nat.reduceMul, e6], by simp -implicitDefEqProofs only [go_sem, Nat.reduceLT, Nat.reduceBEq, Nat.reduceAdd, Nat.reduceEqDiff, Nat.reduceLeDiff, Nat.reduceSub, Nat.reduceMul, e32], by simp -implicitDefEqProofs only [go_sem, Nat.reduceLT, Nat.reduceBEq, Nat.reduceAdd, Nat.reduceEqDiff, Nat.reduceLeDiff, Nat.reduceSub, Nat.reduceMul, e33], by simp -implicitDefEqProofs only [go_sem, Nat.reduceLT, Nat.reduceBEq, Nat.reduceAdd, Nat.reduceEqDiff, Nat.reduceLeDiff, Nat.reduceSub, Nat.reduceMul]; rfl, by omega⟩
  · have : i = s.np := by omega
    subst this
    simp -implicitDefEqProofs only [go_sem, Nat.reduceLT, Nat.reduceBEq, Nat.reduceAdd, Nat.reduceEqDiff, Nat.reduceLeDiff, Nat.reduceSub, Nat.reduceMul, e2, e6, h1, h3]
    refine fin_cell2 (b := n + 1) (o := 0) rfl (by decide) (by decide) (by simp -implicitDefEqProofs only [go_sem, Nat.reduceLT, Nat.reduceBEq, Nat.reduceAdd, Nat.reduceEqDiff, Nat.reduceLeDiff, Nat.reduceSub, Nat.reduceMul, e2]) (by simp -implicitDefEqProofs only [go_sem, Nat.reduceLT, Nat.reduceBEq, Nat.reduceAdd, Nat.reduceEqDiff, Nat.reduceLeDiff, Nat.reduceSub, Nat.reduceMul]; rfl) (Nat.le_refl _) ?_ (by simp -implicitDefEqProofs only [go_sem, Nat.reduceLT, Nat.reduceBEq, Nat.reduceAdd, Nat.reduceEqDiff, Nat.reduceLeDiff, Nat.reduceSub, Nat.reduceMul]; exact fz_int rfl) fun b hb => ?_
    · refine .agg _ _ rfl fun j hj => ?_
      rcases j with _ | _ | _ | _ | _ | _ | j
      · exact .int _ _
      · exact .int _ _
      · exact (pl_isl _ _).tr
      · exact .int _ _
      · exact (pl_isl _ _).tr
      · refine fz_own_isl ?_ (by omega)
        rw [upd_ne _ _ (by omega), h2]; exact congrArg some (tab_congr fun j hj => congrArg (GV.int .i64) (mix_lt _ _ hj))
      · simp at hj; omega
    · rw [upd_ne _ _ (by omega)]; exact ho b hb

set_option maxHeartbeats 4000000 in
theorem sp_ref18_Dual {H : Heap} {n : Nat} (h : Fi M) (s : Gr) (d : s.Des M) (hs : s.Ok) : Spec prog fid_ref18_Dual [s.gv] H n (s.dual h).gv H n := by
  refine spec_ends hmix ok_ref18_Dual rfl fun hF => ?_
  show gw prog B_ref18_Dual _ (tl 65 _) H n
  have hnp := hs.n64
  have hnm := hs.nm
  have hK0 := hs.K0
  have hKn := hs.Kn
  have hwK := wrap64 (x := (s.np : Int) - s.K) (by omega)
  have hfd : fgv s.p s.m (isl s.l s.mo) = fd M := d.fd
  have hsub : ∀ (H : Heap) (n : Nat) (x y : Int), Spec prog fid_ref04_Sub [fgv s.p s.m (isl s.l s.mo), .int .i64 x, .int .i64 y] H n (.int .i64 (cn (ein M x - ein M y) : Nat)) H n := fun H n x y => by rw [hfd]; exact sp_ref04_Sub h.fc _ _
  have hml : ∀ (H : Heap) (n : Nat) (x y : Int), Spec prog fid_ref04_Mul [fgv s.p s.m (isl s.l s.mo), .int .i64 x, .int .i64 y] H n (.int .i64 (cd (ein M x * ein M y))) H n := fun H n x y => by rw [hfd]; exact sp_ref04_Mul h.fc _ _
  have hiv : ∀ (H : Heap) (n : Nat) (x : Int), Spec prog fid_ref04_Inv [fgv s.p s.m (isl s.l s.mo), .int .i64 x] H n (.int .i64 (cn (h.iv (ein M x)) : Nat)) H n := fun H n x => by rw [hfd]; exact sp_ref04_Inv h _
  simp -implicitDefEqProofs only [B_ref18_Dual, go_sem, Nat.reduceLT, Nat.reduceBEq, Nat.reduceAdd, Nat.reduceEqDiff, Nat.reduceLeDiff, Nat.reduceSub, Nat.reduceMul]
  repeat with_reducible refine And.intro (by omega) ?_
  refine loop_rule (fun (i : Nat) E H' n' => n' = n + 3 ∧ H' n = some s.cs ∧ H' (n + 1) = some z6 ∧ H' (n + 2) = some (tab s.np (it (mix (s.dv h) (fun _ => 0) i))) ∧ (∀ b, b < n → H' b = H b) ∧ E 1 = .ptr n 0 ∧ E 2 = .ptr (n + 1) 0 ∧ E 3 = .int .i64 (s.np : Nat) ∧ E 4 = .own (n + 2) 0 s.np ∧ E 5 = .int .i64 (i : Nat) ∧ i ≤ s.np) (fun i => s.np - i) 0 ?_ ?_
  · refine ⟨rfl, by simp -implicitDefEqProofs only [go_sem, Nat.reduceLT, Nat.reduceBEq, Nat.reduceAdd, Nat.reduceEqDiff, Nat.reduceLeDiff, Nat.reduceSub, Nat.reduceMul], by simp -implicitDefEqProofs only [go_sem, Nat.reduceLT, Nat.reduceBEq, Nat.reduceAdd, Nat.reduceEqDiff, Nat.reduceLeDiff, Nat.reduceSub, Nat.reduceMul], by simp -implicitDefEqProofs only [go_sem, Nat.reduceLT, Nat.reduceBEq, Nat.reduceAdd, Nat.reduceEqDiff, Nat.reduceLeDiff, Nat.reduceSub, Nat.reduceMul, tab_rep, mix_zero]; rfl, fun b hb => ?_, rfl, rfl, rfl, rfl, rfl, by omega⟩
    rw [upd_ne _ _ (by omega), upd_ne _ _ (by omega), upd_ne _ _ (by omega)]
  rintro i E H' n' ⟨rfl, h0, h1, h2, ho, e1, e2, e3, e4, e5, hi⟩
  simp -implicitDefEqProofs only [go_sem, Nat.reduceLT, Nat.reduceBEq, Nat.reduceAdd, Nat.reduceEqDiff, Nat.reduceLeDiff, Nat.reduceSub, Nat.reduceMul, e3, e5]
  refine c_split (fun hc => ?_) (fun hc => ?_)
  · have hiN : i < s.np := by omega
    have hiM : i < s.nm := by omega
    have hcM : (i : Int) < (s.nm : Int) := by omega
    have hwi := wrap64 (x := (i : Int) + 1) (by omega)
    simp -implicitDefEqProofs only [go_sem, Nat.reduceLT, Nat.reduceBEq, Nat.reduceAdd, Nat.reduceEqDiff, Nat.reduceLeDiff, Nat.reduceSub, Nat.reduceMul, e1, e5, h0, hcM, hiM, gat_tab]
    refine loop_rule (fun (j : Nat) E H1 n1 => H1 = H' ∧ n1 = n + 3 ∧ E 1 = .ptr n 0 ∧ E 2 = .ptr (n + 1) 0 ∧ E 3 = .int .i64 (s.np : Nat) ∧ E 4 = .own (n + 2) 0 s.np ∧ E 5 = .int .i64 (i : Nat) ∧ E 6 = .int .i64 (cn (ein M (s.v i) * Alg.pd j (s.fc M i)) : Nat) ∧ E 7 = .int .i64 (j : Nat) ∧ j ≤ s.np) (fun j => s.np - j) 0 ?_ ?_
    · refine ⟨rfl, rfl, by simp -implicitDefEqProofs only [go_sem, Nat.reduceLT, Nat.reduceBEq, Nat.reduceAdd, Nat.reduceEqDiff, Nat.reduceLeDiff, Nat.reduceSub, Nat.reduceMul, e1], by simp -implicitDefEqProofs only [go_sem, Nat.reduceLT, Nat.reduceBEq, Nat.reduceAdd, Nat.reduceEqDiff, Nat.reduceLeDiff, Nat.reduceSub, Nat.reduceMul, e2], by simp -implicitDefEqProofs only [go_sem, Nat.reduceLT, Nat.reduceBEq, Nat.reduceAdd, Nat.reduceEqDiff, Nat.reduceLeDiff, Nat.reduceSub, Nat.reduceMul, e3], by simp -implicitDefEqProofs only [go_sem, Nat.reduceLT, Nat.reduceBEq, Nat.reduceAdd, Nat.reduceEqDiff, Nat.reduceLeDiff, Nat.reduceSub, Nat.reduceMul, e4], by simp -implicitDefEqProofs only [go_sem, Nat.reduceLT, Nat.reduceBEq, Nat.reduceAdd, Nat.reduceEqDiff, Nat.reduceLeDiff, Nat.reduceSub, Nat.reduceMul, e5], ?_, rfl, by omega⟩
      have hv := hs.v i hiN
      rw [Gr.Des.qo d h] at hv
      simp -implicitDefEqProofs only [go_sem, Nat.reduceLT, Nat.reduceBEq, Nat.reduceAdd, Nat.reduceEqDiff, Nat.reduceLeDiff, Nat.reduceSub, Nat.reduceMul, Alg.pd_zero, Alg.mul_one, cn_ein h.fc hv.1 hv.2]
    clear e5 e4 e3 e2 e1 E
    rintro j E H1 n1 ⟨rfl, rfl, e1, e2, e3, e4, e5, e6, e7, hj⟩
    simp -implicitDefEqProofs only [go_sem, Nat.reduceLT, Nat.reduceBEq, Nat.reduceAdd, Nat.reduceEqDiff, Nat.reduceLeDiff, Nat.reduceSub, Nat.reduceMul, e3, e7]
    refine c_split (fun hc' => ?_) (fun hc' => ?_)
    · have hjN : j < s.np := by omega
      have hwj := wrap64 (x := (j : Int) + 1) (by omega)
      by_cases hji : j = i
      · subst hji
        have hstep : Alg.pd (j + 1) (s.fc M j) = Alg.pd j (s.fc M j) := by rw [Alg.pd_succ, show s.fc M j j = 1 from if_pos rfl, Alg.mul_one]
        simp -implicitDefEqProofs only [go_sem, Nat.reduceLT, Nat.reduceBEq, Nat.reduceAdd, Nat.reduceEqDiff, Nat.reduceLeDiff, Nat.reduceSub, Nat.reduceMul, e5, e7, hwj]
        refine l_n ⟨j + 1, by omega, rfl, rfl, by simp -implicitDefEqProofs only [go_sem, Nat.reduceLT, Nat.reduceBEq, Nat.reduceAdd, Nat.reduceEqDiff, Nat.reduceLeDiff, Nat.reduceSub, Nat.reduceMul, e1], by simp -implicitDefEqProofs only [go_sem, Nat.reduceLT, Nat.reduceBEq, Nat.reduceAdd, Nat.reduceEqDiff, Nat.reduceLeDiff, Nat.reduceSub, Nat.reduceMul, e2], by simp -implicitDefEqProofs only [go_sem, Nat.reduceLT, Nat.reduceBEq, Nat.reduceAdd, Nat.reduceEqDiff, Nat.reduceLeDiff, Nat.reduceSub, Nat.reduceMul, e3], by simp -implicitDefEqProofs only [go_sem, Nat.reduceLT, Nat.reduceBEq, Nat.reduceAdd, Nat.reduceEqDiff, Nat.reduceLeDiff, Nat.reduceSub, Nat.reduceMul, e4], by simp -implicitDefEqProofs only [go_sem, Nat.reduceLT, Nat.reduceBEq, Nat.reduceAdd, Nat.reduceEqDiff, Nat.reduceLeDiff, Nat.reduceSub, Nat.reduceMul, e5], by simp -implicitDefEqProofs only [go_sem, Nat.reduceLT, Nat.reduceBEq, Nat.reduceAdd, Nat.reduceEqDiff, Nat.reduceLeDiff, Nat.reduceSub, Nat.reduceMul, e6, hstep], by simp -implicitDefEqProofs only [go_sem, Nat.reduceLT, Nat.reduceBEq, Nat.reduceAdd, Nat.reduceEqDiff, Nat.reduceLeDiff, Nat.reduceSub, Nat.reduceMul]; rfl, by omega⟩
      · have hjI : ¬ (j : Int) = (i : Int) := by omega
        have hstep : Alg.pd (j + 1) (s.fc M i) = Alg.pd j (s.fc M i) * (ein M (s.x i) - ein M (s.x j)) := by rw [Alg.pd_succ, show s.fc M i j = ein M (s.x i) - ein M (s.x j) from if_neg hji]
        simp -implicitDefEqProofs only [go_sem, Nat.reduceLT, Nat.reduceBEq, Nat.reduceAdd, Nat.reduceEqDiff, Nat.reduceLeDiff, Nat.reduceSub, Nat.reduceMul, e1, e5, e6, e7, h0, hc, hc', hiN, hjN, gat_tab, hjI]
        refine mcall_of (.int _ _) (fun H1 n1 k1 k2 => hsub _ _ _ _) ?_
        simp -implicitDefEqProofs only [go_sem, Nat.reduceLT, Nat.reduceBEq, Nat.reduceAdd, Nat.reduceEqDiff, Nat.reduceLeDiff, Nat.reduceSub, Nat.reduceMul]
        refine call_of (hml _ _ _ _) ?_
        rw [ein_cn h.fc, ein_cn h.fc, cd_cn, Alg.mul_assoc, ← hstep]
        simp -implicitDefEqProofs only [go_sem, Nat.reduceLT, Nat.reduceBEq, Nat.reduceAdd, Nat.reduceEqDiff, Nat.reduceLeDiff, Nat.reduceSub, Nat.reduceMul, e7, hwj]
        exact l_n ⟨j + 1, by omega, rfl, rfl, by simp -implicitDefEqProofs only [go_sem, Nat.reduceLT, Nat.reduceBEq, Nat.reduceAdd, Nat.reduceEqDiff, Nat.reduceLeDiff, Nat.reduceSub, Nat.reduceMul, e1], by simp -implicitDefEqProofs only [go_sem, Nat.reduceLT, Nat.reduceBEq, Nat.reduceAdd, Nat.reduceEqDiff, Nat.reduceLeDiff, Nat.reduceSub, Nat.reduceMul, e2], by simp -implicitDefEqProofs only [go_sem, Nat.reduceLT, Nat.reduceBEq, Nat.reduceAdd, Nat.reduceEqDiff, Nat.reduceLeDiff, Nat.reduceSub, Nat.reduceMul, e3], by simp -implicitDefEqProofs only [go_sem, Nat.reduceLT, Nat.reduceBEq, Nat.reduceAdd, Nat.reduceEqDiff, Nat.reduceLeDiff, Nat.reduceSub, Nat.reduceMul, e4], by simp -implicitDefEqProofs only [go_sem, Nat.reduceLT, Nat.reduceBEq, Nat.reduceAdd, Nat.reduceEqDiff, Nat.reduceLeDiff, Nat.reduceSub, Nat.reduceMul, e5], by simp -implicitDefEqProofs only [go_sem, Nat.reduceLT, Nat.reduceBEq, Nat.reduceAdd, Nat.reduceEqDiff, Nat.reduceLeDiff, Nat.reduceSub, Nat.reduceMul], by simp -implicitDefEqProofs only [go_sem, Nat.reduceLT, Nat.reduceBEq, Nat.reduceAdd, Nat.reduceEqDiff, Nat.reduceLeDiff, Nat.reduceSub, Nat.reduceMul]; rfl, by omega⟩
    · have : j = s.np := by omega
      subst this
      have hst := mix_step (s.dv h) (fun _ => 0) i
      rw [← Gr.dfv_eq] at e6
      simp -implicitDefEqProofs only [go_sem, Nat.reduceLT, Nat.reduceBEq, Nat.reduceAdd, Nat.reduceEqDiff, Nat.reduceLeDiff, Nat.reduceSub, Nat.reduceMul, e1, e4, e5, e6, h0]
      refine call_of (hiv _ _ _) ?_
      rw [ein_cn h.fc]
      have hwv : ((cn (h.iv (s.dfv M i)) : Nat) : Int) = s.dv h i := rfl
      rw [hwv]
      simp -implicitDefEqProofs only [go_sem, Nat.reduceLT, Nat.reduceBEq, Nat.reduceAdd, Nat.reduceEqDiff, Nat.reduceLeDiff, Nat.reduceSub, Nat.reduceMul, h2, hc, hiN, e5, hwi, hst]
      repeat with_reducible refine And.intro (by omega) ?_
      exact l_n ⟨i + 1, by omega, rfl, by simp -implicitDefEqProofs only [go_sem, Nat.reduceLT, Nat.reduceBEq, Nat.reduceAdd, Nat.reduceEqDiff, Nat.reduceLeDiff, Nat.reduceSub, Nat.reduceMul, h0], by simp -implicitDefEqProofs only [go_sem, Nat.reduceLT, Nat.reduceBEq, Nat.reduceAdd, Nat.reduceEqDiff, Nat.reduceLeDiff, Nat.reduceSub, Nat.reduceMul, h1], by simp -implicitDefEqProofs only [go_sem, Nat.reduceLT, Nat.reduceBEq, Nat.reduceAdd, Nat.reduceEqDiff, Nat.reduceLeDiff, Nat.reduceSub, Nat.reduceMul], fun b hb => by rw [upd_ne _ _ (by omega)]; exact ho b hb, by simp -implicitDefEqProofs only [go_sem, Nat.reduceLT, Nat.reduceBEq, Nat.reduceAdd, Nat.reduceEqDiff, Nat.reduceLeDiff, Nat.reduceSub, Nat.reduceMul, e1], by simp -implicitDefEqProofs only [go_sem, Nat.reduceLT, Nat.reduceBEq, Nat.reduceAdd, Nat.reduceEqDiff, Nat.reduceLeDiff, Nat.reduceSub, Nat.reduceMul, e2], by simp -implicitDefEqProofs only [go_sem, Nat.reduceLT, Nat.reduceBEq, Nat.reduceAdd, Nat.reduceEqDiff, Nat.reduceLeDiff, Nat.reduceSub, Nat.reduceMul, e3], by simp -implicitDefEqProofs only [go_sem, Nat.reduceLT, Nat.reduceBEq, Nat.reduceAdd, Nat.reduceEqDiff, Nat.reduceLeDiff, Nat.reduceSub, Nat.reduceMul, e4], by simp -implicitDefEqProofs only [go_sem, Nat.reduceLT, Nat.reduceBEq, Nat.reduceAdd, Nat.reduceEqDiff, Nat.reduceLeDiff, Nat.reduceSub, Nat.reduceMul]; rfl, by omega⟩
  · have : i = s.np := by omega
    subst this
    simp -implicitDefEqProofs only [go_sem, Nat.reduceLT, Nat.reduceBEq, Nat.reduceAdd, Nat.reduceEqDiff, Nat.reduceLeDiff, Nat.reduceSub, Nat.reduceMul, e1, e2, e3, e4, h0, h1, hwK]
    refine fin_cell (b := n + 1) (o := 0) rfl (by decide) (by simp -implicitDefEqProofs only [go_sem, Nat.reduceLT, Nat.reduceBEq, Nat.reduceAdd, Nat.reduceEqDiff, Nat.reduceLeDiff, Nat.reduceSub, Nat.reduceMul, e2]) (by simp -implicitDefEqProofs only [go_sem, Nat.reduceLT, Nat.reduceBEq, Nat.reduceAdd, Nat.reduceEqDiff, Nat.reduceLeDiff, Nat.reduceSub, Nat.reduceMul]; rfl) (Nat.le_refl _) ?_ fun b hb => ?_
    · refine .agg _ _ rfl fun j hj => ?_
      rcases j with _ | _ | _ | _ | _ | _ | j
      · exact .int _ _
      · exact .int _ _
      · exact (pl_isl _ _).tr
      · exact .int _ _
      · exact (pl_isl _ _).tr
      · refine fz_own_isl ?_ (by omega)
        rw [upd_ne _ _ (by omega), h2]; exact congrArg some (tab_congr fun j hj => congrArg (GV.int .i64) (mix_lt _ _ hj))
      · simp at hj; omega
    · rw [upd_ne _ _ (by omega)]; exact ho b hb
end
theorem sp_law18_good {H : Heap} {n : Nat} (s : Gr) : Spec prog fid_law18_good [s.gv] H n (.bool (decide (s.np ≤ 24 ∧ s.ce = 0))) H n := by
  generalize hR : decide (s.np ≤ 24 ∧ s.ce = 0) = R
  refine spec_ends hmix ok_law18_good rfl fun hF => ?_
  show gw prog B_law18_good _ (tl 12 _) H n
  have hu : ∀ x b, b < n → upd H n x b = H b := fun x b hb => upd_ne _ _ (by omega)
  by_cases h1 : (s.np : Int) ≤ 24
  · simp -implicitDefEqProofs only [B_law18_good, go_sem, Nat.reduceLT, Nat.reduceBEq, Nat.reduceAdd, Nat.reduceEqDiff, Nat.reduceLeDiff, Nat.reduceSub, Nat.reduceMul, h1]
    refine call_of (sp_ref18_Check s (by omega)) ?_
    by_cases h2 : s.ce = 0
    · simp -implicitDefEqProofs only [go_sem, Nat.reduceLT, Nat.reduceBEq, Nat.reduceAdd, Nat.reduceEqDiff, Nat.reduceLeDiff, Nat.reduceSub, Nat.reduceMul, h2]
      exact fin_ret rfl (by decide) (fz_bool (hR.symm.trans (decide_eq_true ⟨by omega, h2⟩)).symm) (hu _)
    · simp -implicitDefEqProofs only [go_sem, Nat.reduceLT, Nat.reduceBEq, Nat.reduceAdd, Nat.reduceEqDiff, Nat.reduceLeDiff, Nat.reduceSub, Nat.reduceMul, h2]
      exact fin_ret rfl (by decide) (fz_bool (hR.symm.trans (decide_eq_false fun h => h2 h.2)).symm) (hu _)
  · simp -implicitDefEqProofs only [B_law18_good, go_sem, Nat.reduceLT, Nat.reduceBEq, Nat.reduceAdd, Nat.reduceEqDiff, Nat.reduceLeDiff, Nat.reduceSub, Nat.reduceMul, h1]
    exact fin_ret rfl (by decide) (fz_bool (hR.symm.trans (decide_eq_false fun h => h1 (by omega))).symm) (hu _)
end Go.Proofs.Yteiafdhejcgjcaa.Gh
/- The chapter's example over the field of four elements. -/
namespace Go.Proofs.Yteiafdhejcgjcaa.Gh
open Go Go.RowKit
open Alg (CR Ps Dg Zm Mn El Cg sm pw Irr Prm)
set_option linter.unusedVariables false
set_option linter.unusedSimpArgs false

theorem qo22 : qo 2 2 = 4 := by decide
theorem g4_fi : ∃ (M : Mn 0) (_ : Fi M), Gh.Des 2 2 2 (fun _ => 1) M ∧ M.m = 2 := by
  have hs : Shp 2 2 2 (fun _ => 1) := ⟨by rw [qo22]; decide, ⟨by decide, fun d h1 h2 => by omega⟩, fun h => absurd h (by decide), fun _ => ⟨rfl, fun j hj => ⟨show (0 : Int) ≤ 1 by decide, show (1 : Int) < 2 by decide⟩⟩⟩
  obtain ⟨k, M, h1, h2, h3, h4, h5, h6⟩ := shp_M hs
  have hk : k = 0 := by omega
  subst hk
  have hm : M.m = 2 := by omega
  refine ⟨M, ⟨h5, h6, fun d a q d1 d2 ha htop hq he => ?_⟩, ⟨h1, h2, h3, h4⟩, hm⟩
  have hd : d = 1 := by omega
  subst hd
  have m0 : (M.f.co 0).v = 1 := (h4 0 (by decide)).symm
  have m1 : (M.f.co 1).v = 1 := (h4 1 (by decide)).symm
  have m2 : M.f.co 2 = 1 := by have := M.top; rwa [hm] at this
  have q2 : q.co 2 = 0 := hq 2 (by omega)
  have a2 : a.co 2 = 0 := ha 2 (by omega)
  have c0 : M.f.co 0 = q.co 0 * a.co 0 := by rw [he, Alg.co_mul, Alg.sm_succ, Alg.sm_zero, Alg.zero_add]
  have c1 : M.f.co 1 = q.co 0 * a.co 1 + q.co 1 * a.co 0 := by rw [he, Alg.co_mul, Alg.sm_succ, Alg.sm_succ, Alg.sm_zero, Alg.zero_add]
  have c2 : M.f.co 2 = q.co 0 * a.co 2 + q.co 1 * a.co 1 + q.co 2 * a.co 0 := by rw [he, Alg.co_mul, Alg.sm_succ, Alg.sm_succ, Alg.sm_succ, Alg.sm_zero, Alg.zero_add]
  rw [a2, q2, Alg.mul_zero, Alg.zero_mul, Alg.zero_add, Alg.add_zero, htop, Alg.mul_one, m2] at c2
  rw [htop, Alg.mul_one, ← c2, Alg.one_mul] at c1
  rw [c0, Zm.mul_v] at m0
  rw [c1, Zm.add_v] at m1
  have x0 := (q.co 0).lo
  have x1 := (q.co 0).hi
  have y0 := (a.co 0).lo
  have y1 := (a.co 0).hi
  generalize (q.co 0).v = x at *
  generalize (a.co 0).v = y at *
  have hx : x = 0 ∨ x = 1 := by omega
  rcases hx with rfl | rfl
  · simp at m0
  · have hy : y = 0 ∨ y = 1 := by omega
    rcases hy with rfl | rfl
    · simp at m0
    · simp at m1
section
variable {M : Mn 0}
theorem qn4 (hm : M.m = 2) : qn M = 4 := by
  have h : qn M = 2 ^ M.m := rfl
  rw [h, hm]
theorem add4 (h : Fi M) (hm : M.m = 2) {x y : Int} (hx : 0 ≤ x ∧ x < 4) (hy : 0 ≤ y ∧ y < 4) : (cn (ein M x + ein M y) : Int) = (x / 1 % 2 + y / 1 % 2) % 2 + 2 * ((x / 2 % 2 + y / 2 % 2) % 2 + 2 * 0) := by
  have hq := qn4 hm
  rw [cn_cd, cd_add, cd_cn, cd_cn, cn_ein h.fc hx.1 (by omega), cn_ein h.fc hy.1 (by omega), hm]
  rfl
theorem ein4_inj (h : Fi M) (hm : M.m = 2) {x y : Int} (hx : 0 ≤ x ∧ x < 4) (hy : 0 ≤ y ∧ y < 4) (e : ein M x = ein M y) : x = y := by
  have hq := qn4 hm
  rw [← cn_ein h.fc hx.1 (by omega), ← cn_ein h.fc hy.1 (by omega), e]
theorem ein_one (h : Fi M) : ein M 1 = 1 := by have := ein_cn h.fc (1 : El M); rwa [cn_one] at this
theorem sum4 (h : Fi M) (hm : M.m = 2) {x y z : Int} (hx : 0 ≤ x ∧ x < 4) (hy : 0 ≤ y ∧ y < 4) (hz : 0 ≤ z ∧ z < 4) (e : (x / 1 % 2 + y / 1 % 2) % 2 + 2 * ((x / 2 % 2 + y / 2 % 2) % 2 + 2 * 0) = z) : ein M x + ein M y = ein M z := by
  have hq := qn4 hm
  have h1 := add4 h hm hx hy
  have h2 := cn_ein h.fc hz.1 (by omega : z < (qn M : Nat))
  exact cn_inj (by omega)
theorem dif4 (h : Fi M) (hm : M.m = 2) {x y z : Int} (hx : 0 ≤ x ∧ x < 4) (hy : 0 ≤ y ∧ y < 4) (hz : 0 ≤ z ∧ z < 4) (e : (x / 1 % 2 + y / 1 % 2) % 2 + 2 * ((x / 2 % 2 + y / 2 % 2) % 2 + 2 * 0) = z) : ein M x - ein M y = ein M z := by
  have h1 : ein M y + ein M y = 0 := by
    rw [← ein_zero h.fc]
    refine sum4 h hm hy hy ⟨by omega, by omega⟩ ?_
    omega
  have h2 : ein M y = -ein M y := Alg.neg_unique h1
  rw [Alg.sub_def, ← h2]
  exact sum4 h hm hx hy hz e
theorem mul23 (h : Fi M) (hm : M.m = 2) : ein M 2 * ein M 3 = 1 := by
  letI : Alg.Fd (El M) := Alg.elFd h.prm h.irr
  have hq := qn4 hm
  have r : ∀ z : Int, 0 ≤ z → z < 4 → 0 ≤ z ∧ z < 4 := fun z a b => ⟨a, b⟩
  have a0 : ein M 2 ≠ 0 := fun e => by rw [← ein_zero h.fc] at e; have := ein4_inj h hm ⟨by omega, by omega⟩ ⟨by omega, by omega⟩ e; omega
  have b0 : ein M 3 ≠ 0 := fun e => by rw [← ein_zero h.fc] at e; have := ein4_inj h hm ⟨by omega, by omega⟩ ⟨by omega, by omega⟩ e; omega
  have a1 : ein M 2 ≠ 1 := fun e => by rw [← ein_one h] at e; have := ein4_inj h hm ⟨by omega, by omega⟩ ⟨by omega, by omega⟩ e; omega
  have b1 : ein M 3 ≠ 1 := fun e => by rw [← ein_one h] at e; have := ein4_inj h hm ⟨by omega, by omega⟩ ⟨by omega, by omega⟩ e; omega
  have hc := cn_lt (ein M 2 * ein M 3)
  have he := ein_cn h.fc (ein M 2 * ein M 3)
  have hne := Alg.mul_ne_zero a0 b0
  have hcase : cn (ein M 2 * ein M 3) = 0 ∨ cn (ein M 2 * ein M 3) = 1 ∨ cn (ein M 2 * ein M 3) = 2 ∨ cn (ein M 2 * ein M 3) = 3 := by omega
  rcases hcase with c | c | c | c
  · exact absurd (cn_eq_zero.1 c) hne
  · exact cn_inj (by rw [c, cn_one])
  · rw [c] at he
    have he : ein M 2 = ein M 2 * ein M 3 := he
    exact absurd (Alg.mul_left_cancel a0 ((Alg.mul_one _).trans he)).symm b1
  · rw [c] at he
    have he : ein M 3 = ein M 2 * ein M 3 := he
    rw [Alg.mul_comm (ein M 2)] at he
    exact absurd (Alg.mul_left_cancel b0 ((Alg.mul_one _).trans he)).symm a1
/-- the example -/
def s4 : Gr := gstd 2 2 2 (fun _ => 1) 3 2
theorem s4_ok (h : Fi M) (d : s4.Des M) (hm : M.m = 2) : s4.Ok := by
  have hq := Gr.Des.qo d h
  rw [qn4 hm] at hq
  refine ⟨⟨0, M, d, h.fc, h.prm, h.irr⟩, by decide, by decide, rfl, fun i hi => ?_, fun i hi => ?_, fun ⟨i, j, h1, h2, h3⟩ => ?_, fun i hi => ?_, by decide, by decide⟩
  · have hi : i < 3 := hi
    rw [hq]; show 0 ≤ ((i : Nat) : Int) ∧ ((i : Nat) : Int) < _; omega
  · rw [hq]; show 0 ≤ (1 : Int) ∧ (1 : Int) < _; omega
  · have h3 : ((i : Nat) : Int) = ((j : Nat) : Int) := h3
    omega
  · show (1 : Int) ≠ 0
    decide
def v103 : Nat → Int := fun i => if i = 0 then 1 else if i = 1 then 0 else 3
def v321 : Nat → Int := fun i => if i = 0 then 3 else if i = 1 then 2 else 1
theorem s4_w (h : Fi M) (hm : M.m = 2) : ∀ i, i < 3 → s4.w M 2 (fun _ => 1) i = v103 i := by
  have hq := qn4 hm
  intro i hi
  have e1 : ein M (s4.v i) * Alg.ev 2 (pf M fun _ => 1) (ein M (s4.x i)) = ein M 1 + ein M (i : Nat) := by
    show ein M 1 * (0 + ein M 1 * 1 + ein M 1 * (1 * ein M (i : Nat))) = _
    rw [ein_one h, Alg.one_mul, Alg.zero_add, Alg.one_mul, Alg.one_mul, Alg.one_mul]
  show ((cn (ein M (s4.v i) * Alg.ev 2 (pf M fun _ => 1) (ein M (s4.x i))) : Nat) : Int) = _
  rw [e1, add4 h hm ⟨by omega, by omega⟩ ⟨by omega, by omega⟩]
  rcases i with _ | _ | _ | i
  · rfl
  · rfl
  · rfl
  · omega
theorem s4_dv (h : Fi M) (hm : M.m = 2) : ∀ i, i < 3 → s4.dv h i = v321 i := by
  have hq := qn4 hm
  have r : ∀ {z : Int}, 0 ≤ z → z < 4 → (cn (ein M z) : Int) = z := fun a b => cn_ein h.fc a (by omega)
  have dfv : ∀ i, s4.dfv M i = ein M 1 * (1 * (if 0 = i then 1 else ein M (i : Nat) - ein M (0 : Nat)) * (if 1 = i then 1 else ein M (i : Nat) - ein M (1 : Nat)) * (if 2 = i then 1 else ein M (i : Nat) - ein M (2 : Nat))) := fun i => rfl
  intro i hi
  show ((cn (h.iv (s4.dfv M i)) : Nat) : Int) = _
  rw [dfv, ein_one h, Alg.one_mul, Alg.one_mul]
  rcases i with _ | _ | _ | i
  · rw [if_pos rfl, if_neg (by decide), if_neg (by decide), Alg.one_mul]
    have e1 : ein M ((0 : Nat) : Int) - ein M ((1 : Nat) : Int) = ein M 1 := dif4 h hm ⟨by decide, by decide⟩ ⟨by decide, by decide⟩ ⟨by decide, by decide⟩ (by decide)
    have e2 : ein M ((0 : Nat) : Int) - ein M ((2 : Nat) : Int) = ein M 2 := dif4 h hm ⟨by decide, by decide⟩ ⟨by decide, by decide⟩ ⟨by decide, by decide⟩ (by decide)
    rw [e1, e2, ein_one h, Alg.one_mul, ← h.iv_of (mul23 h hm), r (by decide) (by decide)]; rfl
  · rw [if_neg (by decide), if_pos rfl, if_neg (by decide), Alg.mul_one]
    have e1 : ein M ((0 + 1 : Nat) : Int) - ein M ((0 : Nat) : Int) = ein M 1 := dif4 h hm ⟨by decide, by decide⟩ ⟨by decide, by decide⟩ ⟨by decide, by decide⟩ (by decide)
    have e2 : ein M ((0 + 1 : Nat) : Int) - ein M ((2 : Nat) : Int) = ein M 3 := dif4 h hm ⟨by decide, by decide⟩ ⟨by decide, by decide⟩ ⟨by decide, by decide⟩ (by decide)
    have e3 : ein M 3 * ein M 2 = 1 := by rw [Alg.mul_comm]; exact mul23 h hm
    rw [e1, e2, ein_one h, Alg.one_mul, ← h.iv_of e3, r (by decide) (by decide)]; rfl
  · rw [if_neg (by decide), if_neg (by decide), if_pos rfl, Alg.mul_one]
    have e1 : ein M ((0 + 1 + 1 : Nat) : Int) - ein M ((0 : Nat) : Int) = ein M 2 := dif4 h hm ⟨by decide, by decide⟩ ⟨by decide, by decide⟩ ⟨by decide, by decide⟩ (by decide)
    have e2 : ein M ((0 + 1 + 1 : Nat) : Int) - ein M ((1 : Nat) : Int) = ein M 3 := dif4 h hm ⟨by decide, by decide⟩ ⟨by decide, by decide⟩ ⟨by decide, by decide⟩ (by decide)
    rw [e1, e2, mul23 h hm, ← h.iv_of (Alg.mul_one (1 : El M)), cn_one]; rfl
  · omega
end
set_option maxHeartbeats 4000000 in
theorem sp_law18_alive {H : Heap} {n : Nat} : Spec prog fid_law18_alive [] H n (.bool true) H n := by
  refine spec_ends hmix ok_law18_alive rfl fun hF => ?_
  show gw prog B_law18_alive _ (tl 50 _) H n
  obtain ⟨M, h, d, hm⟩ := g4_fi
  have hok : s4.Ok := s4_ok h d hm
  have hq := qn4 hm
  have d4 : s4.Des M := d
  have hSt : ∀ H, Spec prog fid_grs_Standard [.agg [.int .i64 2, .int .i64 2, .own n 0 2], .int .i64 3, .int .i64 2] (upd H n (some [.int .i64 1, .int .i64 1])) (n + 1) (.tup [s4.gv, .int .i64 0]) (upd (upd H n (some [.int .i64 1, .int .i64 1])) n none) (n + 1) := by
    intro H
    refine spec_ly (b := n) (m := 2) (cs := [.int .i64 1, .int .i64 1]) (ys := [fgv 2 2 (isl 2 fun _ => 1), .int .i64 3, .int .i64 2]) (by omega) (upd_same _ _ _) rfl rfl (fun j hj => ?_) (sp_grs_Standard 2 2 2 (fun _ => 1) h d 3 2 (by rw [hq]; decide))
    rcases j with _ | _ | _ | j
    · refine .agg _ _ rfl fun j hj => ?_
      rcases j with _ | _ | _ | j
      · exact .refl _
      · exact .refl _
      · exact .own
      · simp at hj; omega
    · exact .refl _
    · exact .refl _
    · simp at hj; omega
  have hec : s4.ec 2 (fun _ => 1) = 0 := by
    rw [Gr.ec, if_pos hok.ce, if_pos (by decide), if_pos]
    intro i _
    rw [Gr.Des.qo d4 h, hq]; exact ⟨show (0 : Int) ≤ 1 by decide, show (1 : Int) < ((4 : Nat) : Int) by decide⟩
  have two : tab 2 (it fun _ => 1) = [GV.int .i64 1, .int .i64 1] := rfl
  have t103 : tab 3 (it v103) = [GV.int .i64 1, .int .i64 0, .int .i64 3] := rfl
  have t321 : tab 3 (it v321) = [GV.int .i64 3, .int .i64 2, .int .i64 1] := rfl
  simp -implicitDefEqProofs only [B_law18_alive, go_sem, Nat.reduceLT, Nat.reduceBEq, Nat.reduceAdd, Nat.reduceEqDiff, Nat.reduceLeDiff, Nat.reduceSub, Nat.reduceMul]
  refine call_of (hSt _) ?_
  have s4c : s4.gv = .agg s4.cs := rfl
  simp -implicitDefEqProofs only [go_sem, Nat.reduceLT, Nat.reduceBEq, Nat.reduceAdd, Nat.reduceEqDiff, Nat.reduceLeDiff, Nat.reduceSub, Nat.reduceMul]
  refine call_of (sp_grs_Encode h s4 d4 (a := .own (n + 2) 0 2) (l := 2) (f := fun _ => 1) (Rd.own (by omega) (by rw [upd_same, two])) (by omega)) ?_
  rw [hec, if_pos rfl]
  simp -implicitDefEqProofs only [go_sem, Nat.reduceLT, Nat.reduceBEq, Nat.reduceAdd, Nat.reduceEqDiff, Nat.reduceLeDiff, Nat.reduceSub, Nat.reduceMul]
  refine call_of (sp_grs_Dual h s4 d4 hok) ?_
  have hK : (s4.dual h).K = 1 := rfl
  simp -implicitDefEqProofs only [go_sem, Nat.reduceLT, Nat.reduceBEq, Nat.reduceAdd, Nat.reduceEqDiff, Nat.reduceLeDiff, Nat.reduceSub, Nat.reduceMul, hK]
  refine call_of (sp_law18_same (l := s4.np) (m := 3) (f := s4.w M 2 fun _ => 1) (g := v103) (.sl _ _) (Rd.own (by omega) (by rw [upd_same, t103])) (by decide)) ?_
  rw [decide_eq_true ⟨rfl, fun i hi => s4_w h hm i hi⟩]
  simp -implicitDefEqProofs only [go_sem, Nat.reduceLT, Nat.reduceBEq, Nat.reduceAdd, Nat.reduceEqDiff, Nat.reduceLeDiff, Nat.reduceSub, Nat.reduceMul, hK]
  refine call_of (sp_law18_same (l := (s4.dual h).nm) (m := 3) (f := (s4.dual h).v) (g := v321) (.sl _ _) (Rd.own (by omega) (by rw [upd_same, t321])) (show 3 ≤ 1000000 by decide)) ?_
  rw [decide_eq_true ⟨rfl, fun i hi => s4_dv h hm i hi⟩]
  simp -implicitDefEqProofs only [go_sem, Nat.reduceLT, Nat.reduceBEq, Nat.reduceAdd, Nat.reduceEqDiff, Nat.reduceLeDiff, Nat.reduceSub, Nat.reduceMul]
  refine fin_ret rfl (by decide) (fz_bool rfl) fun b hb => ?_
  simp only [upd, if_neg (show b ≠ n by omega), if_neg (show b ≠ n + 1 by omega), if_neg (show b ≠ n + 2 by omega), if_neg (show b ≠ n + 3 by omega), if_neg (show b ≠ n + 4 by omega), if_neg (show b ≠ n + 5 by omega)]
end Go.Proofs.Yteiafdhejcgjcaa.Gh
