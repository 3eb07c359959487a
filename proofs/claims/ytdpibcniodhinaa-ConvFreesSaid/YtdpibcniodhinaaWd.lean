/- The ghost code of some functions. -/
import Derived.Test.YtdpibcniodhinaaProg
import Derived.Test.YtdpibcniodhinaaWc
namespace Go.Proofs.Ytdpibcniodhinaa.Gh
open Go Go.RowKit
def B_ref20_Accept : GCode :=
  (.seq (.region [⟨(some 2), .box (.t 0), none⟩,
    ⟨(some 3), .box (.t 1), none⟩,
    ⟨(some 4), .mov (.c (.bool false)), none⟩])
  (.seq (.seq (.draw [0, 0, 2, 7, 15, 31, 63, 127, 255, 511, 1023, 2047, 4095, 4095, 4095, 20479, 61439, 131071, 262143, 4095, 528383, 2097151, 4194303]
    [⟨(some 11), .load (some 4) (.t 2), none⟩,
    ⟨(some 12), .fieldAddr 1 (.t 3), none⟩,
    ⟨(some 13), .load none (.t 12), none⟩,
    ⟨(some 14), .call fid_ref20_Steps [(.t 11), (.t 13)], none⟩,
    ⟨(some 15), .bin .neq (.t 14) (.c (.int .i64 0)), none⟩,
    ⟨(some 16), .mov (.t 15), none⟩,
    ⟨(some 17), .fieldAddr 1 (.t 3), (some (16, false))⟩,
    ⟨(some 18), .load none (.t 17), (some (16, false))⟩,
    ⟨(some 19), .call fid_ref20_Weight [(.t 18)], (some (16, false))⟩,
    ⟨(some 20), .bin .eql (.t 19) (.c (.int .i64 0)), (some (16, false))⟩,
    ⟨(some 21), .pick (.t 16) (.c (.bool true)) (.t 20), none⟩,
    ⟨(some 22), .mov (.t 21), none⟩,
    ⟨(some 23), .load (some 4) (.t 2), (some (22, false))⟩,
    ⟨(some 24), .load (some 4) (.t 2), (some (22, false))⟩,
    ⟨(some 25), .fieldAddr 1 (.t 3), (some (22, false))⟩,
    ⟨(some 26), .load none (.t 25), (some (22, false))⟩,
    ⟨(some 27), .call fid_ref20_Terminate [(.t 24), (.t 26)], (some (22, false))⟩,
    ⟨(some 28), .call fid_ref20_Encode [(.t 23), (.t 27)], (some (22, false))⟩,
    ⟨(some 29), .call fid_ref20_Weight [(.t 28)], (some (22, false))⟩,
    ⟨(some 30), .fieldAddr 0 (.t 3), (some (22, false))⟩,
    ⟨(some 31), .load none (.t 30), (some (22, false))⟩]
    [⟨(some 32), .bin .neq (.t 29) (.t 31), (some (22, false))⟩,
    ⟨(some 33), .pick (.t 22) (.c (.bool true)) (.t 32), none⟩])
  (.cond (.t 33)
  (.seq (.region [⟨(some 4), .mov (.c (.bool false)), none⟩])
  .ret)
  .skip))
  (.seq (.seq (.draw [0, 1, 3, 0, 8, 31, 63, 127, 255, 511, 1023, 2047, 4095]
    [⟨(some 34), .fieldAddr 2 (.t 3), none⟩,
    ⟨(some 35), .load none (.t 34), none⟩,
    ⟨(some 36), .len (.t 35), none⟩,
    ⟨(some 37), .load (some 4) (.t 2), none⟩,
    ⟨(some 38), .call fid_ref20_States [(.t 37)], none⟩]
    [⟨(some 39), .bin .neq (.t 36) (.t 38), none⟩,
    ⟨(some 40), .mov (.t 39), none⟩,
    ⟨(some 41), .fieldAddr 2 (.t 3), (some (40, false))⟩,
    ⟨(some 42), .load none (.t 41), (some (40, false))⟩,
    ⟨(some 43), .indexAddr 1 (.t 42) (.c (.int .i64 0)), (some (40, false))⟩,
    ⟨(some 44), .load none (.t 43), (some (40, false))⟩,
    ⟨(some 45), .bin .neq (.t 44) (.c (.int .i64 0)), (some (40, false))⟩,
    ⟨(some 46), .pick (.t 40) (.c (.bool true)) (.t 45), none⟩])
  (.cond (.t 46)
  (.seq (.region [⟨(some 4), .mov (.c (.bool false)), none⟩])
  .ret)
  .skip))
  (.seq (.seq (.region [⟨(some 5), .mov (.c (.int .i64 0)), none⟩])
  (.block 0 (.loop (.seq (.seq (.region [⟨(some 47), .mov (.t 5), none⟩,
    ⟨(some 48), .fieldAddr 2 (.t 3), none⟩,
    ⟨(some 49), .load none (.t 48), none⟩,
    ⟨(some 50), .len (.t 49), none⟩,
    ⟨(some 51), .bin .lss (.t 47) (.t 50), none⟩])
  (.cond (.t 51)
  .skip
  (.exit 0)))
  (.seq (.block 1 (.seq (.region [⟨(some 54), .fieldAddr 2 (.t 3), none⟩,
    ⟨(some 55), .load none (.t 54), none⟩,
    ⟨(some 56), .mov (.t 5), none⟩,
    ⟨(some 57), .indexAddr 1 (.t 55) (.t 56), none⟩,
    ⟨(some 58), .load none (.t 57), none⟩,
    ⟨(some 59), .bin .lss (.t 58) (.c (.int .i64 0)), none⟩,
    ⟨(some 60), .mov (.t 59), none⟩,
    ⟨(some 61), .fieldAddr 2 (.t 3), (some (60, false))⟩,
    ⟨(some 62), .load none (.t 61), (some (60, false))⟩,
    ⟨(some 63), .mov (.t 5), (some (60, false))⟩,
    ⟨(some 64), .indexAddr 1 (.t 62) (.t 63), (some (60, false))⟩,
    ⟨(some 65), .load none (.t 64), (some (60, false))⟩,
    ⟨(some 66), .bin .gtr (.t 65) (.c (.int .i64 2147483648)), (some (60, false))⟩,
    ⟨(some 67), .pick (.t 60) (.c (.bool true)) (.t 66), none⟩])
  (.cond (.t 67)
  (.seq (.region [⟨(some 4), .mov (.c (.bool false)), none⟩])
  .ret)
  .skip)))
  (.region [⟨(some 52), .mov (.t 5), none⟩,
    ⟨(some 53), .bin .add (.t 52) (.c (.int .i64 1)), none⟩,
    ⟨(some 5), .mov (.t 53), none⟩]))))))
  (.seq (.seq (.region [⟨(some 6), .mov (.c (.int .i64 0)), none⟩])
  (.block 2 (.loop (.seq (.seq (.region [⟨(some 68), .mov (.t 6), none⟩,
    ⟨(some 69), .fieldAddr 2 (.t 3), none⟩,
    ⟨(some 70), .load none (.t 69), none⟩,
    ⟨(some 71), .len (.t 70), none⟩,
    ⟨(some 72), .bin .lss (.t 68) (.t 71), none⟩])
  (.cond (.t 72)
  .skip
  (.exit 2)))
  (.seq (.block 3 (.seq (.region [⟨(some 7), .mov (.c (.int .i64 0)), none⟩])
  (.block 4 (.loop (.seq (.seq (.region [⟨(some 75), .mov (.t 7), none⟩,
    ⟨(some 76), .load (some 4) (.t 2), none⟩,
    ⟨(some 77), .call fid_ref20_Inputs [(.t 76)], none⟩,
    ⟨(some 78), .bin .lss (.t 75) (.t 77), none⟩])
  (.cond (.t 78)
  .skip
  (.exit 4)))
  (.seq (.block 5 (.seq (.draw [0, 0, 0, 0, 12, 31, 63, 127, 127, 255, 1023]
    [⟨(some 82), .load (some 4) (.t 2), none⟩,
    ⟨(some 83), .mov (.t 6), none⟩,
    ⟨(some 84), .load (some 4) (.t 2), none⟩,
    ⟨(some 85), .mov (.t 7), none⟩,
    ⟨(some 86), .call fid_ref20_Input [(.t 84), (.t 85)], none⟩,
    ⟨(some 87), .call fid_ref20_Next [(.t 82), (.t 83), (.t 86)], none⟩,
    ⟨(some 81), .mov (.t 87), none⟩,
    ⟨(some 88), .extract 0 (.t 81), none⟩,
    ⟨(some 89), .extract 1 (.t 81), none⟩,
    ⟨(some 8), .mov (.t 88), none⟩]
    [⟨(some 9), .mov (.t 89), none⟩])
  (.seq (.draw [0, 1, 3, 0, 8, 0, 56, 120, 255, 511]
    [⟨(some 90), .mov (.t 9), none⟩,
    ⟨(some 91), .blit [.nil] [(0, 1, (.t 90))], none⟩,
    ⟨(some 92), .call fid_ref20_Weight [(.t 91)], none⟩,
    ⟨(some 93), .fieldAddr 2 (.t 3), none⟩,
    ⟨(some 94), .load none (.t 93), none⟩,
    ⟨(some 95), .mov (.t 8), none⟩,
    ⟨(some 96), .indexAddr 1 (.t 94) (.t 95), none⟩,
    ⟨(some 97), .load none (.t 96), none⟩]
    [⟨(some 98), .bin .add (.t 92) (.t 97), none⟩,
    ⟨(some 10), .mov (.t 98), none⟩])
  (.seq (.region [⟨(some 99), .mov (.t 6), none⟩,
    ⟨(some 100), .bin .gtr (.t 99) (.c (.int .i64 0)), none⟩,
    ⟨(some 101), .mov (.t 100), none⟩,
    ⟨(some 102), .fieldAddr 2 (.t 3), (some (101, true))⟩,
    ⟨(some 103), .load none (.t 102), (some (101, true))⟩,
    ⟨(some 104), .mov (.t 6), (some (101, true))⟩,
    ⟨(some 105), .indexAddr 1 (.t 103) (.t 104), (some (101, true))⟩,
    ⟨(some 106), .load none (.t 105), (some (101, true))⟩,
    ⟨(some 107), .mov (.t 10), (some (101, true))⟩,
    ⟨(some 108), .bin .gtr (.t 106) (.t 107), (some (101, true))⟩,
    ⟨(some 109), .pick (.t 101) (.t 108) (.c (.bool false)), none⟩,
    ⟨(some 110), .mov (.t 109), none⟩,
    ⟨(some 111), .mov (.t 6), (some (110, false))⟩,
    ⟨(some 112), .bin .eql (.t 111) (.c (.int .i64 0)), (some (110, false))⟩,
    ⟨(some 113), .mov (.t 112), (some (110, false))⟩,
    ⟨(some 114), .mov (.t 7), (some (113, true))⟩,
    ⟨(some 115), .bin .gtr (.t 114) (.c (.int .i64 0)), (some (113, true))⟩,
    ⟨(some 116), .pick (.t 113) (.t 115) (.c (.bool false)), (some (110, false))⟩,
    ⟨(some 117), .mov (.t 116), (some (110, false))⟩,
    ⟨(some 118), .fieldAddr 0 (.t 3), (some (117, true))⟩,
    ⟨(some 119), .load none (.t 118), (some (117, true))⟩,
    ⟨(some 120), .mov (.t 10), (some (117, true))⟩,
    ⟨(some 121), .bin .gtr (.t 119) (.t 120), (some (117, true))⟩,
    ⟨(some 122), .pick (.t 117) (.t 121) (.c (.bool false)), (some (110, false))⟩,
    ⟨(some 123), .pick (.t 110) (.c (.bool true)) (.t 122), none⟩])
  (.cond (.t 123)
  (.seq (.region [⟨(some 4), .mov (.c (.bool false)), none⟩])
  .ret)
  .skip)))))
  (.region [⟨(some 79), .mov (.t 7), none⟩,
    ⟨(some 80), .bin .add (.t 79) (.c (.int .i64 1)), none⟩,
    ⟨(some 7), .mov (.t 80), none⟩])))))))
  (.region [⟨(some 73), .mov (.t 6), none⟩,
    ⟨(some 74), .bin .add (.t 73) (.c (.int .i64 1)), none⟩,
    ⟨(some 6), .mov (.t 74), none⟩]))))))
  (.seq (.region [⟨(some 4), .mov (.c (.bool true)), none⟩])
  .ret))))))
def F_ref20_Accept : GFun := ⟨2, 124, B_ref20_Accept, [.t 4]⟩
theorem ok_ref20_Accept : okFun Go.Proofs.Try.prog fid_ref20_Accept F_ref20_Accept = true := by kernel_rfl
def B_ref20_Check : GCode :=
  (.seq (.region [⟨(some 1), .box (.t 0), none⟩,
    ⟨(some 2), .mov (.c (.int .i64 0)), none⟩])
  (.seq (.seq (.region [⟨(some 9), .fieldAddr 0 (.t 1), none⟩,
    ⟨(some 10), .load (some 3) (.t 9), none⟩,
    ⟨(some 11), .call fid_ref04_Check [(.t 10)], none⟩,
    ⟨(some 12), .bin .neq (.t 11) (.c (.int .i64 0)), none⟩])
  (.cond (.t 12)
  (.seq (.region [⟨(some 2), .mov (.c (.int .i64 1)), none⟩])
  .ret)
  .skip))
  (.seq (.seq (.region [⟨(some 13), .fieldAddr 3 (.t 1), none⟩,
    ⟨(some 14), .load none (.t 13), none⟩,
    ⟨(some 15), .len (.t 14), none⟩,
    ⟨(some 16), .bin .eql (.t 15) (.c (.int .i64 0)), none⟩,
    ⟨(some 17), .mov (.t 16), none⟩,
    ⟨(some 18), .fieldAddr 3 (.t 1), (some (17, false))⟩,
    ⟨(some 19), .load none (.t 18), (some (17, false))⟩,
    ⟨(some 20), .indexAddr 1 (.t 19) (.c (.int .i64 0)), (some (17, false))⟩,
    ⟨(some 21), .load none (.t 20), (some (17, false))⟩,
    ⟨(some 22), .len (.t 21), (some (17, false))⟩,
    ⟨(some 23), .bin .eql (.t 22) (.c (.int .i64 0)), (some (17, false))⟩,
    ⟨(some 24), .pick (.t 17) (.c (.bool true)) (.t 23), none⟩])
  (.cond (.t 24)
  (.seq (.region [⟨(some 2), .mov (.c (.int .i64 3)), none⟩])
  .ret)
  .skip))
  (.seq (.seq (.region [⟨(some 3), .mov (.c (.int .i64 0)), none⟩])
  (.block 0 (.loop (.seq (.seq (.region [⟨(some 25), .mov (.t 3), none⟩,
    ⟨(some 26), .fieldAddr 3 (.t 1), none⟩,
    ⟨(some 27), .load none (.t 26), none⟩,
    ⟨(some 28), .len (.t 27), none⟩,
    ⟨(some 29), .bin .lss (.t 25) (.t 28), none⟩])
  (.cond (.t 29)
  .skip
  (.exit 0)))
  (.seq (.block 1 (.seq (.draw [0, 1, 0, 7, 15, 31, 0, 64, 192, 448, 960, 2047]
    [⟨(some 32), .fieldAddr 3 (.t 1), none⟩,
    ⟨(some 33), .load none (.t 32), none⟩,
    ⟨(some 34), .mov (.t 3), none⟩,
    ⟨(some 35), .indexAddr 1 (.t 33) (.t 34), none⟩,
    ⟨(some 36), .load none (.t 35), none⟩,
    ⟨(some 37), .len (.t 36), none⟩,
    ⟨(some 38), .fieldAddr 3 (.t 1), none⟩,
    ⟨(some 39), .load none (.t 38), none⟩,
    ⟨(some 40), .indexAddr 1 (.t 39) (.c (.int .i64 0)), none⟩,
    ⟨(some 41), .load none (.t 40), none⟩,
    ⟨(some 42), .len (.t 41), none⟩]
    [⟨(some 43), .bin .neq (.t 37) (.t 42), none⟩])
  (.cond (.t 43)
  (.seq (.region [⟨(some 2), .mov (.c (.int .i64 3)), none⟩])
  .ret)
  .skip)))
  (.region [⟨(some 30), .mov (.t 3), none⟩,
    ⟨(some 31), .bin .add (.t 30) (.c (.int .i64 1)), none⟩,
    ⟨(some 3), .mov (.t 31), none⟩]))))))
  (.seq (.seq (.draw [0, 1, 3, 0, 8, 24, 56, 120, 255]
    [⟨(some 44), .fieldAddr 3 (.t 1), none⟩,
    ⟨(some 45), .load none (.t 44), none⟩,
    ⟨(some 46), .len (.t 45), none⟩,
    ⟨(some 47), .fieldAddr 3 (.t 1), none⟩,
    ⟨(some 48), .load none (.t 47), none⟩,
    ⟨(some 49), .indexAddr 1 (.t 48) (.c (.int .i64 0)), none⟩,
    ⟨(some 50), .load none (.t 49), none⟩,
    ⟨(some 51), .len (.t 50), none⟩]
    [⟨(some 52), .bin .gtr (.t 46) (.t 51), none⟩])
  (.cond (.t 52)
  (.seq (.region [⟨(some 2), .mov (.c (.int .i64 3)), none⟩])
  .ret)
  .skip))
  (.seq (.seq (.region [⟨(some 53), .fieldAddr 3 (.t 1), none⟩,
    ⟨(some 54), .load none (.t 53), none⟩,
    ⟨(some 55), .indexAddr 1 (.t 54) (.c (.int .i64 0)), none⟩,
    ⟨(some 56), .load none (.t 55), none⟩,
    ⟨(some 57), .len (.t 56), none⟩,
    ⟨(some 58), .bin .gtr (.t 57) (.c (.int .i64 64)), none⟩])
  (.cond (.t 58)
  (.seq (.region [⟨(some 2), .mov (.c (.int .i64 4)), none⟩])
  .ret)
  .skip))
  (.seq (.region [⟨(some 4), .mov (.c (.int .i64 1)), none⟩])
  (.seq (.seq (.region [⟨(some 5), .mov (.c (.int .i64 0)), none⟩])
  (.block 2 (.loop (.seq (.seq (.region [⟨(some 59), .mov (.t 5), none⟩,
    ⟨(some 60), .fieldAddr 3 (.t 1), none⟩,
    ⟨(some 61), .load none (.t 60), none⟩,
    ⟨(some 62), .len (.t 61), none⟩,
    ⟨(some 63), .bin .lss (.t 59) (.t 62), none⟩])
  (.cond (.t 63)
  .skip
  (.exit 2)))
  (.seq (.block 3 (.seq (.region [⟨(some 6), .mov (.c (.int .i64 0)), none⟩])
  (.block 4 (.loop (.seq (.seq (.region [⟨(some 66), .mov (.t 6), none⟩,
    ⟨(some 67), .fieldAddr 3 (.t 1), none⟩,
    ⟨(some 68), .load none (.t 67), none⟩,
    ⟨(some 69), .mov (.t 5), none⟩,
    ⟨(some 70), .indexAddr 1 (.t 68) (.t 69), none⟩,
    ⟨(some 71), .load none (.t 70), none⟩,
    ⟨(some 72), .len (.t 71), none⟩,
    ⟨(some 73), .bin .lss (.t 66) (.t 72), none⟩])
  (.cond (.t 73)
  .skip
  (.exit 4)))
  (.seq (.block 5 (.seq (.draw [0, 1, 0, 4, 0, 28, 60, 0, 252, 508, 1023, 2047]
    [⟨(some 76), .fieldAddr 0 (.t 1), none⟩,
    ⟨(some 77), .load (some 3) (.t 76), none⟩,
    ⟨(some 78), .fieldAddr 3 (.t 1), none⟩,
    ⟨(some 79), .load none (.t 78), none⟩,
    ⟨(some 80), .mov (.t 5), none⟩,
    ⟨(some 81), .indexAddr 1 (.t 79) (.t 80), none⟩,
    ⟨(some 82), .load none (.t 81), none⟩,
    ⟨(some 83), .mov (.t 6), none⟩,
    ⟨(some 84), .indexAddr 1 (.t 82) (.t 83), none⟩,
    ⟨(some 85), .load none (.t 84), none⟩]
    [⟨(some 86), .call fid_ref09_Entries [(.t 77), (.t 85)], none⟩,
    ⟨(some 87), .bin .neq (.t 86) (.c (.int .i64 0)), none⟩])
  (.cond (.t 87)
  (.seq (.region [⟨(some 2), .mov (.c (.int .i64 2)), none⟩])
  .ret)
  .skip)))
  (.region [⟨(some 74), .mov (.t 6), none⟩,
    ⟨(some 75), .bin .add (.t 74) (.c (.int .i64 1)), none⟩,
    ⟨(some 6), .mov (.t 75), none⟩])))))))
  (.region [⟨(some 64), .mov (.t 5), none⟩,
    ⟨(some 65), .bin .add (.t 64) (.c (.int .i64 1)), none⟩,
    ⟨(some 5), .mov (.t 65), none⟩]))))))
  (.seq (.seq (.region [⟨(some 7), .mov (.c (.int .i64 0)), none⟩])
  (.block 6 (.loop (.seq (.seq (.region [⟨(some 88), .mov (.t 7), none⟩,
    ⟨(some 89), .fieldAddr 3 (.t 1), none⟩,
    ⟨(some 90), .load none (.t 89), none⟩,
    ⟨(some 91), .len (.t 90), none⟩,
    ⟨(some 92), .bin .lss (.t 88) (.t 91), none⟩])
  (.cond (.t 92)
  .skip
  (.exit 6)))
  (.seq (.block 7 (.seq (.region [⟨(some 8), .mov (.c (.int .i64 0)), none⟩])
  (.block 8 (.loop (.seq (.seq (.region [⟨(some 95), .mov (.t 8), none⟩,
    ⟨(some 96), .load (some 4) (.t 1), none⟩,
    ⟨(some 97), .mov (.t 7), none⟩,
    ⟨(some 98), .call fid_ref20_Degree [(.t 96), (.t 97)], none⟩,
    ⟨(some 99), .bin .leq (.t 95) (.t 98), none⟩])
  (.cond (.t 99)
  .skip
  (.exit 8)))
  (.seq (.block 9 (.seq (.region [⟨(some 102), .mov (.t 4), none⟩,
    ⟨(some 103), .fieldAddr 0 (.t 1), none⟩,
    ⟨(some 104), .load (some 3) (.t 103), none⟩,
    ⟨(some 105), .call fid_ref04_Order [(.t 104)], none⟩,
    ⟨(some 106), .bin .mul (.t 102) (.t 105), none⟩,
    ⟨(some 4), .mov (.t 106), none⟩])
  (.seq (.region [⟨(some 107), .mov (.t 4), none⟩,
    ⟨(some 108), .bin .gtr (.t 107) (.c (.int .i64 65536)), none⟩])
  (.cond (.t 108)
  (.seq (.region [⟨(some 2), .mov (.c (.int .i64 8)), none⟩])
  .ret)
  .skip))))
  (.region [⟨(some 100), .mov (.t 8), none⟩,
    ⟨(some 101), .bin .add (.t 100) (.c (.int .i64 1)), none⟩,
    ⟨(some 8), .mov (.t 101), none⟩])))))))
  (.region [⟨(some 93), .mov (.t 7), none⟩,
    ⟨(some 94), .bin .add (.t 93) (.c (.int .i64 1)), none⟩,
    ⟨(some 7), .mov (.t 94), none⟩]))))))
  (.seq (.region [⟨(some 2), .mov (.c (.int .i64 0)), none⟩])
  .ret))))))))))
def F_ref20_Check : GFun := ⟨1, 109, B_ref20_Check, [.t 2]⟩
theorem ok_ref20_Check : okFun Go.Proofs.Try.prog fid_ref20_Check F_ref20_Check = true := by kernel_rfl
def B_ref20_Degree : GCode :=
  (.seq (.region [⟨(some 2), .box (.t 0), none⟩,
    ⟨(some 4), .mov (.c (.int .i64 0)), none⟩])
  (.seq (.region [⟨(some 5), .mov (.c (.int .i64 0)), none⟩])
  (.seq (.seq (.region [⟨(some 6), .mov (.c (.int .i64 0)), none⟩])
  (.block 0 (.loop (.seq (.seq (.region [⟨(some 8), .mov (.t 6), none⟩,
    ⟨(some 9), .fieldAddr 3 (.t 2), none⟩,
    ⟨(some 10), .load none (.t 9), none⟩,
    ⟨(some 11), .mov (.t 1), none⟩,
    ⟨(some 12), .indexAddr 1 (.t 10) (.t 11), none⟩,
    ⟨(some 13), .load none (.t 12), none⟩,
    ⟨(some 14), .len (.t 13), none⟩,
    ⟨(some 15), .bin .lss (.t 8) (.t 14), none⟩])
  (.cond (.t 15)
  .skip
  (.exit 0)))
  (.seq (.block 1 (.seq (.region [⟨(some 7), .mov (.c (.int .i64 0)), none⟩])
  (.block 2 (.loop (.seq (.seq (.region [⟨(some 18), .mov (.t 7), none⟩,
    ⟨(some 19), .fieldAddr 3 (.t 2), none⟩,
    ⟨(some 20), .load none (.t 19), none⟩,
    ⟨(some 21), .mov (.t 1), none⟩,
    ⟨(some 22), .indexAddr 1 (.t 20) (.t 21), none⟩,
    ⟨(some 23), .load none (.t 22), none⟩,
    ⟨(some 24), .mov (.t 6), none⟩,
    ⟨(some 25), .indexAddr 1 (.t 23) (.t 24), none⟩,
    ⟨(some 26), .load none (.t 25), none⟩,
    ⟨(some 27), .len (.t 26), none⟩,
    ⟨(some 28), .bin .lss (.t 18) (.t 27), none⟩])
  (.cond (.t 28)
  .skip
  (.exit 2)))
  (.seq (.block 3 (.seq (.region [⟨(some 31), .fieldAddr 3 (.t 2), none⟩,
    ⟨(some 32), .load none (.t 31), none⟩,
    ⟨(some 33), .mov (.t 1), none⟩,
    ⟨(some 34), .indexAddr 1 (.t 32) (.t 33), none⟩,
    ⟨(some 35), .load none (.t 34), none⟩,
    ⟨(some 36), .mov (.t 6), none⟩,
    ⟨(some 37), .indexAddr 1 (.t 35) (.t 36), none⟩,
    ⟨(some 38), .load none (.t 37), none⟩,
    ⟨(some 39), .mov (.t 7), none⟩,
    ⟨(some 40), .indexAddr 1 (.t 38) (.t 39), none⟩,
    ⟨(some 41), .load none (.t 40), none⟩,
    ⟨(some 42), .bin .neq (.t 41) (.c (.int .i64 0)), none⟩])
  (.cond (.t 42)
  (.region [⟨(some 43), .mov (.t 5), none⟩,
    ⟨(some 44), .mov (.t 7), none⟩,
    ⟨(some 45), .mm true (.t 43) (.t 44), none⟩,
    ⟨(some 5), .mov (.t 45), none⟩])
  .skip)))
  (.region [⟨(some 29), .mov (.t 7), none⟩,
    ⟨(some 30), .bin .add (.t 29) (.c (.int .i64 1)), none⟩,
    ⟨(some 7), .mov (.t 30), none⟩])))))))
  (.region [⟨(some 16), .mov (.t 6), none⟩,
    ⟨(some 17), .bin .add (.t 16) (.c (.int .i64 1)), none⟩,
    ⟨(some 6), .mov (.t 17), none⟩]))))))
  (.seq (.region [⟨(some 46), .mov (.t 5), none⟩,
    ⟨(some 4), .mov (.t 46), none⟩])
  .ret))))
def F_ref20_Degree : GFun := ⟨2, 47, B_ref20_Degree, [.t 4]⟩
theorem ok_ref20_Degree : okFun Go.Proofs.Try.prog fid_ref20_Degree F_ref20_Degree = true := by kernel_rfl
def B_ref20_Encode : GCode :=
  (.seq (.region [⟨(some 2), .box (.t 0), none⟩,
    ⟨(some 4), .mov (.c (.nil)), none⟩])
  (.seq (.region [⟨(some 5), .mov (.c (.nil)), none⟩])
  (.seq (.seq (.region [⟨(some 6), .mov (.c (.int .i64 0)), none⟩])
  (.block 0 (.loop (.seq (.seq (.region [⟨(some 11), .mov (.t 6), none⟩,
    ⟨(some 12), .mov (.t 1), none⟩,
    ⟨(some 13), .len (.t 12), none⟩,
    ⟨(some 14), .bin .lss (.t 11) (.t 13), none⟩])
  (.cond (.t 14)
  .skip
  (.exit 0)))
  (.seq (.block 1 (.seq (.region [⟨(some 17), .fieldAddr 3 (.t 2), none⟩,
    ⟨(some 18), .load none (.t 17), none⟩,
    ⟨(some 19), .indexAddr 1 (.t 18) (.c (.int .i64 0)), none⟩,
    ⟨(some 20), .load none (.t 19), none⟩,
    ⟨(some 21), .len (.t 20), none⟩,
    ⟨(some 22), .mslice (.int .i64 0) 8 (.t 21) (.t 21), none⟩,
    ⟨(some 7), .mov (.t 22), none⟩])
  (.seq (.seq (.region [⟨(some 8), .mov (.c (.int .i64 0)), none⟩])
  (.block 2 (.loop (.seq (.seq (.region [⟨(some 23), .mov (.t 8), none⟩,
    ⟨(some 24), .mov (.t 7), none⟩,
    ⟨(some 25), .len (.t 24), none⟩,
    ⟨(some 26), .bin .lss (.t 23) (.t 25), none⟩])
  (.cond (.t 26)
  .skip
  (.exit 2)))
  (.seq (.block 3 (.seq (.region [⟨(some 9), .mov (.c (.int .i64 0)), none⟩])
  (.block 4 (.loop (.seq (.seq (.region [⟨(some 29), .mov (.t 9), none⟩,
    ⟨(some 30), .fieldAddr 3 (.t 2), none⟩,
    ⟨(some 31), .load none (.t 30), none⟩,
    ⟨(some 32), .len (.t 31), none⟩,
    ⟨(some 33), .bin .lss (.t 29) (.t 32), none⟩])
  (.cond (.t 33)
  .skip
  (.exit 4)))
  (.seq (.block 5 (.seq (.region [⟨(some 10), .mov (.c (.int .i64 0)), none⟩])
  (.block 6 (.loop (.seq (.seq (.region [⟨(some 36), .mov (.t 10), none⟩,
    ⟨(some 37), .mov (.t 6), none⟩,
    ⟨(some 38), .bin .leq (.t 36) (.t 37), none⟩,
    ⟨(some 39), .mov (.t 38), none⟩,
    ⟨(some 40), .mov (.t 10), (some (39, true))⟩,
    ⟨(some 41), .fieldAddr 3 (.t 2), (some (39, true))⟩,
    ⟨(some 42), .load none (.t 41), (some (39, true))⟩,
    ⟨(some 43), .mov (.t 9), (some (39, true))⟩,
    ⟨(some 44), .indexAddr 1 (.t 42) (.t 43), (some (39, true))⟩,
    ⟨(some 45), .load none (.t 44), (some (39, true))⟩,
    ⟨(some 46), .mov (.t 8), (some (39, true))⟩,
    ⟨(some 47), .indexAddr 1 (.t 45) (.t 46), (some (39, true))⟩,
    ⟨(some 48), .load none (.t 47), (some (39, true))⟩,
    ⟨(some 49), .len (.t 48), (some (39, true))⟩,
    ⟨(some 50), .bin .lss (.t 40) (.t 49), (some (39, true))⟩,
    ⟨(some 51), .pick (.t 39) (.t 50) (.c (.bool false)), none⟩])
  (.cond (.t 51)
  .skip
  (.exit 6)))
  (.seq (.block 7 (.draw [0, 0, 0, 4, 0, 0, 48, 112, 0, 256, 0, 1024, 0, 7168, 15360, 0, 64512, 130048, 0, 523264, 1047552, 0, 0, 0, 12582912, 31457280, 65011712, 0, 266338304, 534773760, 1073741568, 2147483644, 4294967295, 8589934591]
    [⟨(some 54), .mov (.t 7), none⟩,
    ⟨(some 55), .mov (.t 8), none⟩,
    ⟨(some 56), .fieldAddr 0 (.t 2), none⟩,
    ⟨(some 57), .load (some 3) (.t 56), none⟩,
    ⟨(some 58), .mov (.t 7), none⟩,
    ⟨(some 59), .mov (.t 8), none⟩,
    ⟨(some 60), .indexAddr 1 (.t 58) (.t 59), none⟩,
    ⟨(some 61), .load none (.t 60), none⟩,
    ⟨(some 62), .fieldAddr 0 (.t 2), none⟩,
    ⟨(some 63), .load (some 3) (.t 62), none⟩,
    ⟨(some 64), .fieldAddr 3 (.t 2), none⟩,
    ⟨(some 65), .load none (.t 64), none⟩,
    ⟨(some 66), .mov (.t 9), none⟩,
    ⟨(some 67), .indexAddr 1 (.t 65) (.t 66), none⟩,
    ⟨(some 68), .load none (.t 67), none⟩,
    ⟨(some 69), .mov (.t 8), none⟩,
    ⟨(some 70), .indexAddr 1 (.t 68) (.t 69), none⟩,
    ⟨(some 71), .load none (.t 70), none⟩,
    ⟨(some 72), .mov (.t 10), none⟩,
    ⟨(some 73), .indexAddr 1 (.t 71) (.t 72), none⟩,
    ⟨(some 74), .load none (.t 73), none⟩,
    ⟨(some 75), .mov (.t 1), none⟩,
    ⟨(some 76), .mov (.t 6), none⟩,
    ⟨(some 77), .mov (.t 10), none⟩,
    ⟨(some 78), .bin .sub (.t 76) (.t 77), none⟩,
    ⟨(some 79), .indexAddr 1 (.t 75) (.t 78), none⟩,
    ⟨(some 80), .load none (.t 79), none⟩,
    ⟨(some 81), .mov (.t 9), none⟩,
    ⟨(some 82), .indexAddr 1 (.t 80) (.t 81), none⟩,
    ⟨(some 83), .load none (.t 82), none⟩,
    ⟨(some 84), .call fid_ref04_Mul [(.t 63), (.t 74), (.t 83)], none⟩,
    ⟨(some 85), .call fid_ref04_Add [(.t 57), (.t 61), (.t 84)], none⟩]
    [⟨(some 86), .indexAddr 1 (.t 54) (.t 55), none⟩,
    ⟨none, .store 1 (.t 86) (.t 85), none⟩]))
  (.region [⟨(some 52), .mov (.t 10), none⟩,
    ⟨(some 53), .bin .add (.t 52) (.c (.int .i64 1)), none⟩,
    ⟨(some 10), .mov (.t 53), none⟩])))))))
  (.region [⟨(some 34), .mov (.t 9), none⟩,
    ⟨(some 35), .bin .add (.t 34) (.c (.int .i64 1)), none⟩,
    ⟨(some 9), .mov (.t 35), none⟩])))))))
  (.region [⟨(some 27), .mov (.t 8), none⟩,
    ⟨(some 28), .bin .add (.t 27) (.c (.int .i64 1)), none⟩,
    ⟨(some 8), .mov (.t 28), none⟩]))))))
  (.region [⟨(some 87), .mov (.t 5), none⟩,
    ⟨(some 88), .mov (.t 7), none⟩,
    ⟨(some 89), .bslice 1 [.nil] [(0, 1, (.t 88))], none⟩,
    ⟨(some 90), .append 24 (.t 87) (.t 89), none⟩,
    ⟨(some 5), .mov (.t 90), none⟩]))))
  (.region [⟨(some 15), .mov (.t 6), none⟩,
    ⟨(some 16), .bin .add (.t 15) (.c (.int .i64 1)), none⟩,
    ⟨(some 6), .mov (.t 16), none⟩]))))))
  (.seq (.region [⟨(some 91), .mov (.t 5), none⟩,
    ⟨(some 4), .mov (.t 91), none⟩])
  .ret))))
def F_ref20_Encode : GFun := ⟨2, 92, B_ref20_Encode, [.t 4]⟩
theorem ok_ref20_Encode : okFun Go.Proofs.Try.prog fid_ref20_Encode F_ref20_Encode = true := by kernel_rfl
def B_ref20_Free : GCode :=
  (.seq (.region [⟨(some 1), .box (.t 0), none⟩,
    ⟨(some 2), .mov (.c (.int .i64 0)), none⟩])
  (.seq (.region [⟨(some 8), .load (some 4) (.t 1), none⟩,
    ⟨(some 9), .call fid_ref20_Least [(.t 8)], none⟩,
    ⟨(some 3), .mov (.t 9), none⟩])
  (.seq (.region [⟨(some 4), .mov (.c (.int .i64 1073741824)), none⟩])
  (.seq (.seq (.region [⟨(some 5), .mov (.c (.int .i64 1)), none⟩])
  (.block 0 (.loop (.seq (.seq (.region [⟨(some 10), .mov (.t 5), none⟩,
    ⟨(some 11), .load (some 4) (.t 1), none⟩,
    ⟨(some 12), .call fid_ref20_Inputs [(.t 11)], none⟩,
    ⟨(some 13), .bin .lss (.t 10) (.t 12), none⟩])
  (.cond (.t 13)
  .skip
  (.exit 0)))
  (.seq (.block 1 (.seq (.draw [0, 0, 0, 6, 15, 31, 63, 63, 127, 511]
    [⟨(some 17), .load (some 4) (.t 1), none⟩,
    ⟨(some 18), .load (some 4) (.t 1), none⟩,
    ⟨(some 19), .mov (.t 5), none⟩,
    ⟨(some 20), .call fid_ref20_Input [(.t 18), (.t 19)], none⟩,
    ⟨(some 21), .call fid_ref20_Next [(.t 17), (.c (.int .i64 0)), (.t 20)], none⟩,
    ⟨(some 16), .mov (.t 21), none⟩,
    ⟨(some 22), .extract 0 (.t 16), none⟩,
    ⟨(some 23), .extract 1 (.t 16), none⟩,
    ⟨(some 6), .mov (.t 22), none⟩]
    [⟨(some 7), .mov (.t 23), none⟩])
  (.draw [0, 0, 2, 6, 0, 0, 48, 112, 254, 511, 1023]
    [⟨(some 24), .mov (.t 4), none⟩,
    ⟨(some 25), .mov (.t 7), none⟩,
    ⟨(some 26), .blit [.nil] [(0, 1, (.t 25))], none⟩,
    ⟨(some 27), .call fid_ref20_Weight [(.t 26)], none⟩,
    ⟨(some 28), .mov (.t 3), none⟩,
    ⟨(some 29), .mov (.t 6), none⟩,
    ⟨(some 30), .indexAddr 1 (.t 28) (.t 29), none⟩,
    ⟨(some 31), .load none (.t 30), none⟩,
    ⟨(some 32), .bin .add (.t 27) (.t 31), none⟩]
    [⟨(some 33), .mm false (.t 24) (.t 32), none⟩,
    ⟨(some 4), .mov (.t 33), none⟩])))
  (.region [⟨(some 14), .mov (.t 5), none⟩,
    ⟨(some 15), .bin .add (.t 14) (.c (.int .i64 1)), none⟩,
    ⟨(some 5), .mov (.t 15), none⟩]))))))
  (.seq (.region [⟨(some 34), .mov (.t 4), none⟩,
    ⟨(some 2), .mov (.t 34), none⟩])
  .ret)))))
def F_ref20_Free : GFun := ⟨1, 35, B_ref20_Free, [.t 2]⟩
theorem ok_ref20_Free : okFun Go.Proofs.Try.prog fid_ref20_Free F_ref20_Free = true := by kernel_rfl
def B_ref20_Input : GCode :=
  (.seq (.region [⟨(some 2), .box (.t 0), none⟩,
    ⟨(some 4), .mov (.c (.nil)), none⟩])
  (.seq (.region [⟨(some 5), .mov (.c (.nil)), none⟩])
  (.seq (.seq (.region [⟨(some 6), .mov (.c (.int .i64 0)), none⟩])
  (.block 0 (.loop (.seq (.seq (.region [⟨(some 7), .mov (.t 6), none⟩,
    ⟨(some 8), .fieldAddr 3 (.t 2), none⟩,
    ⟨(some 9), .load none (.t 8), none⟩,
    ⟨(some 10), .len (.t 9), none⟩,
    ⟨(some 11), .bin .lss (.t 7) (.t 10), none⟩])
  (.cond (.t 11)
  .skip
  (.exit 0)))
  (.seq (.block 1 (.seq (.region [⟨(some 14), .mov (.t 5), none⟩,
    ⟨(some 15), .mov (.t 1), none⟩,
    ⟨(some 16), .fieldAddr 0 (.t 2), none⟩,
    ⟨(some 17), .load (some 3) (.t 16), none⟩,
    ⟨(some 18), .call fid_ref04_Order [(.t 17)], none⟩,
    ⟨(some 19), .bin .rem (.t 15) (.t 18), none⟩,
    ⟨(some 20), .bslice 1 [.int .i64 0] [(0, 1, (.t 19))], none⟩,
    ⟨(some 21), .append 8 (.t 14) (.t 20), none⟩,
    ⟨(some 5), .mov (.t 21), none⟩])
  (.region [⟨(some 22), .mov (.t 1), none⟩,
    ⟨(some 23), .fieldAddr 0 (.t 2), none⟩,
    ⟨(some 24), .load (some 3) (.t 23), none⟩,
    ⟨(some 25), .call fid_ref04_Order [(.t 24)], none⟩,
    ⟨(some 26), .bin .quo (.t 22) (.t 25), none⟩,
    ⟨(some 1), .mov (.t 26), none⟩])))
  (.region [⟨(some 12), .mov (.t 6), none⟩,
    ⟨(some 13), .bin .add (.t 12) (.c (.int .i64 1)), none⟩,
    ⟨(some 6), .mov (.t 13), none⟩]))))))
  (.seq (.region [⟨(some 27), .mov (.t 5), none⟩,
    ⟨(some 4), .mov (.t 27), none⟩])
  .ret))))
def F_ref20_Input : GFun := ⟨2, 28, B_ref20_Input, [.t 4]⟩
theorem ok_ref20_Input : okFun Go.Proofs.Try.prog fid_ref20_Input F_ref20_Input = true := by kernel_rfl
def B_ref20_Inputs : GCode :=
  (.seq (.region [⟨(some 1), .box (.t 0), none⟩,
    ⟨(some 2), .mov (.c (.int .i64 0)), none⟩])
  (.seq (.region [⟨(some 3), .mov (.c (.int .i64 1)), none⟩])
  (.seq (.seq (.region [⟨(some 4), .mov (.c (.int .i64 0)), none⟩])
  (.block 0 (.loop (.seq (.seq (.region [⟨(some 5), .mov (.t 4), none⟩,
    ⟨(some 6), .fieldAddr 3 (.t 1), none⟩,
    ⟨(some 7), .load none (.t 6), none⟩,
    ⟨(some 8), .len (.t 7), none⟩,
    ⟨(some 9), .bin .lss (.t 5) (.t 8), none⟩])
  (.cond (.t 9)
  .skip
  (.exit 0)))
  (.seq (.block 1 (.region [⟨(some 12), .mov (.t 3), none⟩,
    ⟨(some 13), .fieldAddr 0 (.t 1), none⟩,
    ⟨(some 14), .load (some 3) (.t 13), none⟩,
    ⟨(some 15), .call fid_ref04_Order [(.t 14)], none⟩,
    ⟨(some 16), .bin .mul (.t 12) (.t 15), none⟩,
    ⟨(some 3), .mov (.t 16), none⟩]))
  (.region [⟨(some 10), .mov (.t 4), none⟩,
    ⟨(some 11), .bin .add (.t 10) (.c (.int .i64 1)), none⟩,
    ⟨(some 4), .mov (.t 11), none⟩]))))))
  (.seq (.region [⟨(some 17), .mov (.t 3), none⟩,
    ⟨(some 2), .mov (.t 17), none⟩])
  .ret))))
def F_ref20_Inputs : GFun := ⟨1, 18, B_ref20_Inputs, [.t 2]⟩
theorem ok_ref20_Inputs : okFun Go.Proofs.Try.prog fid_ref20_Inputs F_ref20_Inputs = true := by kernel_rfl
def B_ref20_Least : GCode :=
  (.seq (.region [⟨(some 1), .box (.t 0), none⟩,
    ⟨(some 2), .mov (.c (.nil)), none⟩])
  (.seq (.region [⟨(some 10), .load (some 4) (.t 1), none⟩,
    ⟨(some 11), .call fid_ref20_States [(.t 10)], none⟩,
    ⟨(some 12), .mslice (.int .i64 0) 8 (.t 11) (.t 11), none⟩,
    ⟨(some 3), .mov (.t 12), none⟩])
  (.seq (.seq (.region [⟨(some 4), .mov (.c (.int .i64 1)), none⟩])
  (.block 0 (.loop (.seq (.seq (.region [⟨(some 13), .mov (.t 4), none⟩,
    ⟨(some 14), .mov (.t 3), none⟩,
    ⟨(some 15), .len (.t 14), none⟩,
    ⟨(some 16), .bin .lss (.t 13) (.t 15), none⟩])
  (.cond (.t 16)
  .skip
  (.exit 0)))
  (.seq (.block 1 (.region [⟨(some 19), .mov (.t 3), none⟩,
    ⟨(some 20), .mov (.t 4), none⟩,
    ⟨(some 21), .indexAddr 1 (.t 19) (.t 20), none⟩,
    ⟨none, .store 1 (.t 21) (.c (.int .i64 1073741824)), none⟩]))
  (.region [⟨(some 17), .mov (.t 4), none⟩,
    ⟨(some 18), .bin .add (.t 17) (.c (.int .i64 1)), none⟩,
    ⟨(some 4), .mov (.t 18), none⟩]))))))
  (.seq (.seq (.region [⟨(some 5), .mov (.c (.bool true)), none⟩])
  (.block 2 (.loop (.seq (.seq (.region [⟨(some 22), .mov (.t 5), none⟩])
  (.cond (.t 22)
  .skip
  (.exit 2)))
  (.block 3 (.seq (.region [⟨(some 5), .mov (.c (.bool false)), none⟩])
  (.seq (.region [⟨(some 6), .mov (.c (.int .i64 1)), none⟩])
  (.block 4 (.loop (.seq (.seq (.region [⟨(some 23), .mov (.t 6), none⟩,
    ⟨(some 24), .mov (.t 3), none⟩,
    ⟨(some 25), .len (.t 24), none⟩,
    ⟨(some 26), .bin .lss (.t 23) (.t 25), none⟩])
  (.cond (.t 26)
  .skip
  (.exit 4)))
  (.seq (.block 5 (.seq (.region [⟨(some 7), .mov (.c (.int .i64 0)), none⟩])
  (.block 6 (.loop (.seq (.seq (.region [⟨(some 29), .mov (.t 7), none⟩,
    ⟨(some 30), .load (some 4) (.t 1), none⟩,
    ⟨(some 31), .call fid_ref20_Inputs [(.t 30)], none⟩,
    ⟨(some 32), .bin .lss (.t 29) (.t 31), none⟩])
  (.cond (.t 32)
  .skip
  (.exit 6)))
  (.seq (.block 7 (.seq (.draw [0, 0, 0, 0, 12, 31, 63, 127, 127, 255, 1023]
    [⟨(some 36), .load (some 4) (.t 1), none⟩,
    ⟨(some 37), .mov (.t 6), none⟩,
    ⟨(some 38), .load (some 4) (.t 1), none⟩,
    ⟨(some 39), .mov (.t 7), none⟩,
    ⟨(some 40), .call fid_ref20_Input [(.t 38), (.t 39)], none⟩,
    ⟨(some 41), .call fid_ref20_Next [(.t 36), (.t 37), (.t 40)], none⟩,
    ⟨(some 35), .mov (.t 41), none⟩,
    ⟨(some 42), .extract 0 (.t 35), none⟩,
    ⟨(some 43), .extract 1 (.t 35), none⟩,
    ⟨(some 8), .mov (.t 42), none⟩]
    [⟨(some 9), .mov (.t 43), none⟩])
  (.seq (.draw [0, 1, 3, 0, 0, 24, 56, 127, 0, 0, 768, 1792, 4095]
    [⟨(some 44), .mov (.t 9), none⟩,
    ⟨(some 45), .blit [.nil] [(0, 1, (.t 44))], none⟩,
    ⟨(some 46), .call fid_ref20_Weight [(.t 45)], none⟩,
    ⟨(some 47), .mov (.t 3), none⟩,
    ⟨(some 48), .mov (.t 8), none⟩,
    ⟨(some 49), .indexAddr 1 (.t 47) (.t 48), none⟩,
    ⟨(some 50), .load none (.t 49), none⟩,
    ⟨(some 51), .bin .add (.t 46) (.t 50), none⟩,
    ⟨(some 52), .mov (.t 3), none⟩,
    ⟨(some 53), .mov (.t 6), none⟩,
    ⟨(some 54), .indexAddr 1 (.t 52) (.t 53), none⟩,
    ⟨(some 55), .load none (.t 54), none⟩]
    [⟨(some 56), .bin .lss (.t 51) (.t 55), none⟩])
  (.cond (.t 56)
  (.seq (.draw [0, 0, 0, 4, 12, 0, 0, 96, 224, 508, 1023, 2047]
    [⟨(some 57), .mov (.t 3), none⟩,
    ⟨(some 58), .mov (.t 6), none⟩,
    ⟨(some 59), .mov (.t 9), none⟩,
    ⟨(some 60), .blit [.nil] [(0, 1, (.t 59))], none⟩,
    ⟨(some 61), .call fid_ref20_Weight [(.t 60)], none⟩,
    ⟨(some 62), .mov (.t 3), none⟩,
    ⟨(some 63), .mov (.t 8), none⟩,
    ⟨(some 64), .indexAddr 1 (.t 62) (.t 63), none⟩,
    ⟨(some 65), .load none (.t 64), none⟩,
    ⟨(some 66), .bin .add (.t 61) (.t 65), none⟩]
    [⟨(some 67), .indexAddr 1 (.t 57) (.t 58), none⟩,
    ⟨none, .store 1 (.t 67) (.t 66), none⟩])
  (.region [⟨(some 5), .mov (.c (.bool true)), none⟩]))
  .skip))))
  (.region [⟨(some 33), .mov (.t 7), none⟩,
    ⟨(some 34), .bin .add (.t 33) (.c (.int .i64 1)), none⟩,
    ⟨(some 7), .mov (.t 34), none⟩])))))))
  (.region [⟨(some 27), .mov (.t 6), none⟩,
    ⟨(some 28), .bin .add (.t 27) (.c (.int .i64 1)), none⟩,
    ⟨(some 6), .mov (.t 28), none⟩]))))))))))))
  (.seq (.region [⟨(some 68), .mov (.t 3), none⟩,
    ⟨(some 2), .mov (.t 68), none⟩])
  .ret)))))
def F_ref20_Least : GFun := ⟨1, 69, B_ref20_Least, [.t 2]⟩
theorem ok_ref20_Least : okFun Go.Proofs.Try.prog fid_ref20_Least F_ref20_Least = true := by kernel_rfl
def B_ref20_List : GCode :=
  (.seq (.region [⟨(some 2), .box (.t 0), none⟩,
    ⟨(some 4), .mov (.c (.int .i64 0)), none⟩])
  (.seq (.seq (.region [⟨(some 5), .mov (.t 1), none⟩,
    ⟨(some 6), .len (.t 5), none⟩,
    ⟨(some 7), .fieldAddr 3 (.t 2), none⟩,
    ⟨(some 8), .load none (.t 7), none⟩,
    ⟨(some 9), .len (.t 8), none⟩,
    ⟨(some 10), .bin .neq (.t 6) (.t 9), none⟩])
  (.cond (.t 10)
  (.seq (.region [⟨(some 4), .mov (.c (.int .i64 4)), none⟩])
  .ret)
  .skip))
  (.seq (.region [⟨(some 11), .fieldAddr 0 (.t 2), none⟩,
    ⟨(some 12), .load (some 3) (.t 11), none⟩,
    ⟨(some 13), .mov (.t 1), none⟩,
    ⟨(some 14), .call fid_ref09_Entries [(.t 12), (.t 13)], none⟩,
    ⟨(some 4), .mov (.t 14), none⟩])
  .ret)))
def F_ref20_List : GFun := ⟨2, 15, B_ref20_List, [.t 4]⟩
theorem ok_ref20_List : okFun Go.Proofs.Try.prog fid_ref20_List F_ref20_List = true := by kernel_rfl
def B_ref20_Memory : GCode :=
  (.seq (.region [⟨(some 1), .box (.t 0), none⟩,
    ⟨(some 2), .mov (.c (.int .i64 0)), none⟩])
  (.seq (.region [⟨(some 3), .mov (.c (.int .i64 0)), none⟩])
  (.seq (.seq (.region [⟨(some 4), .mov (.c (.int .i64 0)), none⟩])
  (.block 0 (.loop (.seq (.seq (.region [⟨(some 5), .mov (.t 4), none⟩,
    ⟨(some 6), .fieldAddr 3 (.t 1), none⟩,
    ⟨(some 7), .load none (.t 6), none⟩,
    ⟨(some 8), .len (.t 7), none⟩,
    ⟨(some 9), .bin .lss (.t 5) (.t 8), none⟩])
  (.cond (.t 9)
  .skip
  (.exit 0)))
  (.seq (.block 1 (.region [⟨(some 12), .mov (.t 3), none⟩,
    ⟨(some 13), .load (some 4) (.t 1), none⟩,
    ⟨(some 14), .mov (.t 4), none⟩,
    ⟨(some 15), .call fid_ref20_Degree [(.t 13), (.t 14)], none⟩,
    ⟨(some 16), .mm true (.t 12) (.t 15), none⟩,
    ⟨(some 3), .mov (.t 16), none⟩]))
  (.region [⟨(some 10), .mov (.t 4), none⟩,
    ⟨(some 11), .bin .add (.t 10) (.c (.int .i64 1)), none⟩,
    ⟨(some 4), .mov (.t 11), none⟩]))))))
  (.seq (.region [⟨(some 17), .mov (.t 3), none⟩,
    ⟨(some 2), .mov (.t 17), none⟩])
  .ret))))
def F_ref20_Memory : GFun := ⟨1, 18, B_ref20_Memory, [.t 2]⟩
theorem ok_ref20_Memory : okFun Go.Proofs.Try.prog fid_ref20_Memory F_ref20_Memory = true := by kernel_rfl
def B_ref20_Next : GCode :=
  (.seq (.region [⟨(some 3), .box (.t 0), none⟩,
    ⟨(some 6), .mov (.c (.int .i64 0)), none⟩,
    ⟨(some 7), .mov (.c (.nil)), none⟩])
  (.seq (.region [⟨(some 17), .fieldAddr 0 (.t 3), none⟩,
    ⟨(some 18), .load (some 3) (.t 17), none⟩,
    ⟨(some 19), .call fid_ref04_Order [(.t 18)], none⟩,
    ⟨(some 8), .mov (.t 19), none⟩])
  (.seq (.region [⟨(some 9), .mov (.c (.int .i64 0)), none⟩])
  (.seq (.region [⟨(some 10), .mov (.c (.int .i64 1)), none⟩])
  (.seq (.region [⟨(some 20), .fieldAddr 3 (.t 3), none⟩,
    ⟨(some 21), .load none (.t 20), none⟩,
    ⟨(some 22), .indexAddr 1 (.t 21) (.c (.int .i64 0)), none⟩,
    ⟨(some 23), .load none (.t 22), none⟩,
    ⟨(some 24), .len (.t 23), none⟩,
    ⟨(some 25), .mslice (.int .i64 0) 8 (.t 24) (.t 24), none⟩,
    ⟨(some 11), .mov (.t 25), none⟩])
  (.seq (.seq (.region [⟨(some 12), .mov (.c (.int .i64 0)), none⟩])
  (.block 0 (.loop (.seq (.seq (.region [⟨(some 26), .mov (.t 12), none⟩,
    ⟨(some 27), .fieldAddr 3 (.t 3), none⟩,
    ⟨(some 28), .load none (.t 27), none⟩,
    ⟨(some 29), .len (.t 28), none⟩,
    ⟨(some 30), .bin .lss (.t 26) (.t 29), none⟩])
  (.cond (.t 30)
  .skip
  (.exit 0)))
  (.seq (.block 1 (.seq (.region [⟨(some 33), .mov (.t 2), none⟩,
    ⟨(some 34), .mov (.t 12), none⟩,
    ⟨(some 35), .indexAddr 1 (.t 33) (.t 34), none⟩,
    ⟨(some 36), .load none (.t 35), none⟩,
    ⟨(some 37), .bslice 1 [.int .i64 0] [(0, 1, (.t 36))], none⟩,
    ⟨(some 13), .mov (.t 37), none⟩])
  (.seq (.seq (.region [⟨(some 14), .mov (.c (.int .i64 0)), none⟩])
  (.block 2 (.loop (.seq (.seq (.region [⟨(some 38), .mov (.t 14), none⟩,
    ⟨(some 39), .load (some 4) (.t 3), none⟩,
    ⟨(some 40), .mov (.t 12), none⟩,
    ⟨(some 41), .call fid_ref20_Degree [(.t 39), (.t 40)], none⟩,
    ⟨(some 42), .bin .lss (.t 38) (.t 41), none⟩])
  (.cond (.t 42)
  .skip
  (.exit 2)))
  (.seq (.block 3 (.seq (.region [⟨(some 45), .mov (.t 13), none⟩,
    ⟨(some 46), .mov (.t 1), none⟩,
    ⟨(some 47), .mov (.t 8), none⟩,
    ⟨(some 48), .bin .rem (.t 46) (.t 47), none⟩,
    ⟨(some 49), .bslice 1 [.int .i64 0] [(0, 1, (.t 48))], none⟩,
    ⟨(some 50), .append 8 (.t 45) (.t 49), none⟩,
    ⟨(some 13), .mov (.t 50), none⟩])
  (.region [⟨(some 51), .mov (.t 1), none⟩,
    ⟨(some 52), .mov (.t 8), none⟩,
    ⟨(some 53), .bin .quo (.t 51) (.t 52), none⟩,
    ⟨(some 1), .mov (.t 53), none⟩])))
  (.region [⟨(some 43), .mov (.t 14), none⟩,
    ⟨(some 44), .bin .add (.t 43) (.c (.int .i64 1)), none⟩,
    ⟨(some 14), .mov (.t 44), none⟩]))))))
  (.seq (.seq (.region [⟨(some 15), .mov (.c (.int .i64 0)), none⟩])
  (.block 4 (.loop (.seq (.seq (.region [⟨(some 54), .mov (.t 15), none⟩,
    ⟨(some 55), .load (some 4) (.t 3), none⟩,
    ⟨(some 56), .mov (.t 12), none⟩,
    ⟨(some 57), .call fid_ref20_Degree [(.t 55), (.t 56)], none⟩,
    ⟨(some 58), .bin .lss (.t 54) (.t 57), none⟩])
  (.cond (.t 58)
  .skip
  (.exit 4)))
  (.seq (.block 5 (.seq (.region [⟨(some 61), .mov (.t 9), none⟩,
    ⟨(some 62), .mov (.t 13), none⟩,
    ⟨(some 63), .mov (.t 15), none⟩,
    ⟨(some 64), .indexAddr 1 (.t 62) (.t 63), none⟩,
    ⟨(some 65), .load none (.t 64), none⟩,
    ⟨(some 66), .mov (.t 10), none⟩,
    ⟨(some 67), .bin .mul (.t 65) (.t 66), none⟩,
    ⟨(some 68), .bin .add (.t 61) (.t 67), none⟩,
    ⟨(some 9), .mov (.t 68), none⟩])
  (.region [⟨(some 69), .mov (.t 10), none⟩,
    ⟨(some 70), .mov (.t 8), none⟩,
    ⟨(some 71), .bin .mul (.t 69) (.t 70), none⟩,
    ⟨(some 10), .mov (.t 71), none⟩])))
  (.region [⟨(some 59), .mov (.t 15), none⟩,
    ⟨(some 60), .bin .add (.t 59) (.c (.int .i64 1)), none⟩,
    ⟨(some 15), .mov (.t 60), none⟩]))))))
  (.seq (.region [⟨(some 16), .mov (.c (.int .i64 0)), none⟩])
  (.block 6 (.loop (.seq (.seq (.region [⟨(some 72), .mov (.t 16), none⟩,
    ⟨(some 73), .mov (.t 11), none⟩,
    ⟨(some 74), .len (.t 73), none⟩,
    ⟨(some 75), .bin .lss (.t 72) (.t 74), none⟩])
  (.cond (.t 75)
  .skip
  (.exit 6)))
  (.seq (.block 7 (.draw [0, 0, 0, 4, 0, 0, 48, 112, 0, 256, 0, 0, 2048, 0, 14336, 30720, 0, 129024, 260096, 524032, 1048572, 2097151, 4194303]
    [⟨(some 78), .mov (.t 11), none⟩,
    ⟨(some 79), .mov (.t 16), none⟩,
    ⟨(some 80), .fieldAddr 0 (.t 3), none⟩,
    ⟨(some 81), .load (some 3) (.t 80), none⟩,
    ⟨(some 82), .mov (.t 11), none⟩,
    ⟨(some 83), .mov (.t 16), none⟩,
    ⟨(some 84), .indexAddr 1 (.t 82) (.t 83), none⟩,
    ⟨(some 85), .load none (.t 84), none⟩,
    ⟨(some 86), .fieldAddr 0 (.t 3), none⟩,
    ⟨(some 87), .load (some 3) (.t 86), none⟩,
    ⟨(some 88), .mov (.t 13), none⟩,
    ⟨(some 89), .fieldAddr 3 (.t 3), none⟩,
    ⟨(some 90), .load none (.t 89), none⟩,
    ⟨(some 91), .mov (.t 12), none⟩,
    ⟨(some 92), .indexAddr 1 (.t 90) (.t 91), none⟩,
    ⟨(some 93), .load none (.t 92), none⟩,
    ⟨(some 94), .mov (.t 16), none⟩,
    ⟨(some 95), .indexAddr 1 (.t 93) (.t 94), none⟩,
    ⟨(some 96), .load none (.t 95), none⟩,
    ⟨(some 97), .call fid_ref04_Dot [(.t 87), (.t 88), (.t 96)], none⟩,
    ⟨(some 98), .call fid_ref04_Add [(.t 81), (.t 85), (.t 97)], none⟩]
    [⟨(some 99), .indexAddr 1 (.t 78) (.t 79), none⟩,
    ⟨none, .store 1 (.t 99) (.t 98), none⟩]))
  (.region [⟨(some 76), .mov (.t 16), none⟩,
    ⟨(some 77), .bin .add (.t 76) (.c (.int .i64 1)), none⟩,
    ⟨(some 16), .mov (.t 77), none⟩]))))))))))
  (.region [⟨(some 31), .mov (.t 12), none⟩,
    ⟨(some 32), .bin .add (.t 31) (.c (.int .i64 1)), none⟩,
    ⟨(some 12), .mov (.t 32), none⟩]))))))
  (.seq (.region [⟨(some 100), .mov (.t 9), none⟩,
    ⟨(some 101), .mov (.t 11), none⟩,
    ⟨(some 6), .mov (.t 100), none⟩,
    ⟨(some 7), .mov (.t 101), none⟩])
  .ret)))))))
def F_ref20_Next : GFun := ⟨3, 102, B_ref20_Next, [.t 6, .t 7]⟩
theorem ok_ref20_Next : okFun Go.Proofs.Try.prog fid_ref20_Next F_ref20_Next = true := by kernel_rfl
def B_ref20_Small : GCode :=
  (.seq (.region [⟨(some 2), .box (.t 0), none⟩,
    ⟨(some 4), .mov (.c (.bool false)), none⟩])
  (.seq (.draw [0, 1, 0, 7, 15, 0, 63, 127, 255, 511, 1023, 2047, 4095, 8191, 16383, 32767]
    [⟨(some 5), .load (some 4) (.t 2), none⟩,
    ⟨(some 6), .call fid_ref20_States [(.t 5)], none⟩,
    ⟨(some 7), .load (some 4) (.t 2), none⟩,
    ⟨(some 8), .call fid_ref20_Inputs [(.t 7)], none⟩,
    ⟨(some 9), .bin .mul (.t 6) (.t 8), none⟩,
    ⟨(some 10), .mov (.t 1), none⟩]
    [⟨(some 11), .bin .leq (.t 9) (.t 10), none⟩,
    ⟨(some 12), .mov (.t 11), none⟩,
    ⟨(some 13), .fieldAddr 3 (.t 2), (some (12, true))⟩,
    ⟨(some 14), .load none (.t 13), (some (12, true))⟩,
    ⟨(some 15), .indexAddr 1 (.t 14) (.c (.int .i64 0)), (some (12, true))⟩,
    ⟨(some 16), .load none (.t 15), (some (12, true))⟩,
    ⟨(some 17), .len (.t 16), (some (12, true))⟩,
    ⟨(some 18), .bin .leq (.t 17) (.c (.int .i64 6)), (some (12, true))⟩,
    ⟨(some 19), .pick (.t 12) (.t 18) (.c (.bool false)), none⟩,
    ⟨(some 4), .mov (.t 19), none⟩])
  .ret))
def F_ref20_Small : GFun := ⟨2, 20, B_ref20_Small, [.t 4]⟩
theorem ok_ref20_Small : okFun Go.Proofs.Try.prog fid_ref20_Small F_ref20_Small = true := by kernel_rfl
def B_ref20_States : GCode :=
  (.seq (.region [⟨(some 1), .box (.t 0), none⟩,
    ⟨(some 2), .mov (.c (.int .i64 0)), none⟩])
  (.seq (.region [⟨(some 3), .mov (.c (.int .i64 1)), none⟩])
  (.seq (.seq (.region [⟨(some 4), .mov (.c (.int .i64 0)), none⟩])
  (.block 0 (.loop (.seq (.seq (.region [⟨(some 6), .mov (.t 4), none⟩,
    ⟨(some 7), .fieldAddr 3 (.t 1), none⟩,
    ⟨(some 8), .load none (.t 7), none⟩,
    ⟨(some 9), .len (.t 8), none⟩,
    ⟨(some 10), .bin .lss (.t 6) (.t 9), none⟩])
  (.cond (.t 10)
  .skip
  (.exit 0)))
  (.seq (.block 1 (.seq (.region [⟨(some 5), .mov (.c (.int .i64 0)), none⟩])
  (.block 2 (.loop (.seq (.seq (.region [⟨(some 13), .mov (.t 5), none⟩,
    ⟨(some 14), .load (some 4) (.t 1), none⟩,
    ⟨(some 15), .mov (.t 4), none⟩,
    ⟨(some 16), .call fid_ref20_Degree [(.t 14), (.t 15)], none⟩,
    ⟨(some 17), .bin .lss (.t 13) (.t 16), none⟩])
  (.cond (.t 17)
  .skip
  (.exit 2)))
  (.seq (.block 3 (.region [⟨(some 20), .mov (.t 3), none⟩,
    ⟨(some 21), .fieldAddr 0 (.t 1), none⟩,
    ⟨(some 22), .load (some 3) (.t 21), none⟩,
    ⟨(some 23), .call fid_ref04_Order [(.t 22)], none⟩,
    ⟨(some 24), .bin .mul (.t 20) (.t 23), none⟩,
    ⟨(some 3), .mov (.t 24), none⟩]))
  (.region [⟨(some 18), .mov (.t 5), none⟩,
    ⟨(some 19), .bin .add (.t 18) (.c (.int .i64 1)), none⟩,
    ⟨(some 5), .mov (.t 19), none⟩])))))))
  (.region [⟨(some 11), .mov (.t 4), none⟩,
    ⟨(some 12), .bin .add (.t 11) (.c (.int .i64 1)), none⟩,
    ⟨(some 4), .mov (.t 12), none⟩]))))))
  (.seq (.region [⟨(some 25), .mov (.t 3), none⟩,
    ⟨(some 2), .mov (.t 25), none⟩])
  .ret))))
def F_ref20_States : GFun := ⟨1, 26, B_ref20_States, [.t 2]⟩
theorem ok_ref20_States : okFun Go.Proofs.Try.prog fid_ref20_States F_ref20_States = true := by kernel_rfl
def B_ref20_Steps : GCode :=
  (.seq (.region [⟨(some 2), .box (.t 0), none⟩,
    ⟨(some 4), .mov (.c (.int .i64 0)), none⟩])
  (.seq (.seq (.region [⟨(some 5), .mov (.c (.int .i64 0)), none⟩])
  (.block 0 (.loop (.seq (.seq (.region [⟨(some 7), .mov (.t 5), none⟩,
    ⟨(some 8), .mov (.t 1), none⟩,
    ⟨(some 9), .len (.t 8), none⟩,
    ⟨(some 10), .bin .lss (.t 7) (.t 9), none⟩])
  (.cond (.t 10)
  .skip
  (.exit 0)))
  (.seq (.block 1 (.seq (.draw [0, 0, 0, 6, 14, 31, 63]
    [⟨(some 13), .load (some 4) (.t 2), none⟩,
    ⟨(some 14), .mov (.t 1), none⟩,
    ⟨(some 15), .mov (.t 5), none⟩,
    ⟨(some 16), .indexAddr 1 (.t 14) (.t 15), none⟩,
    ⟨(some 17), .load none (.t 16), none⟩]
    [⟨(some 18), .call fid_ref20_List [(.t 13), (.t 17)], none⟩,
    ⟨(some 6), .mov (.t 18), none⟩])
  (.seq (.region [⟨(some 19), .mov (.t 6), none⟩,
    ⟨(some 20), .bin .neq (.t 19) (.c (.int .i64 0)), none⟩])
  (.cond (.t 20)
  (.seq (.region [⟨(some 21), .mov (.t 6), none⟩,
    ⟨(some 4), .mov (.t 21), none⟩])
  .ret)
  .skip))))
  (.region [⟨(some 11), .mov (.t 5), none⟩,
    ⟨(some 12), .bin .add (.t 11) (.c (.int .i64 1)), none⟩,
    ⟨(some 5), .mov (.t 12), none⟩]))))))
  (.seq (.region [⟨(some 4), .mov (.c (.int .i64 0)), none⟩])
  .ret)))
def F_ref20_Steps : GFun := ⟨2, 22, B_ref20_Steps, [.t 4]⟩
theorem ok_ref20_Steps : okFun Go.Proofs.Try.prog fid_ref20_Steps F_ref20_Steps = true := by kernel_rfl
def B_ref20_Terminate : GCode :=
  (.seq (.region [⟨(some 2), .box (.t 0), none⟩,
    ⟨(some 4), .mov (.c (.nil)), none⟩])
  (.seq (.region [⟨(some 7), .empty, none⟩,
    ⟨(some 8), .mov (.t 1), none⟩,
    ⟨(some 9), .append 24 (.t 7) (.t 8), none⟩,
    ⟨(some 5), .mov (.t 9), none⟩])
  (.seq (.seq (.region [⟨(some 6), .mov (.c (.int .i64 0)), none⟩])
  (.block 0 (.loop (.seq (.seq (.region [⟨(some 10), .mov (.t 6), none⟩,
    ⟨(some 11), .load (some 4) (.t 2), none⟩,
    ⟨(some 12), .call fid_ref20_Memory [(.t 11)], none⟩,
    ⟨(some 13), .bin .lss (.t 10) (.t 12), none⟩])
  (.cond (.t 13)
  .skip
  (.exit 0)))
  (.seq (.block 1 (.region [⟨(some 16), .mov (.t 5), none⟩,
    ⟨(some 17), .fieldAddr 3 (.t 2), none⟩,
    ⟨(some 18), .load none (.t 17), none⟩,
    ⟨(some 19), .len (.t 18), none⟩,
    ⟨(some 20), .mslice (.int .i64 0) 8 (.t 19) (.t 19), none⟩,
    ⟨(some 21), .bslice 1 [.nil] [(0, 1, (.t 20))], none⟩,
    ⟨(some 22), .append 24 (.t 16) (.t 21), none⟩,
    ⟨(some 5), .mov (.t 22), none⟩]))
  (.region [⟨(some 14), .mov (.t 6), none⟩,
    ⟨(some 15), .bin .add (.t 14) (.c (.int .i64 1)), none⟩,
    ⟨(some 6), .mov (.t 15), none⟩]))))))
  (.seq (.region [⟨(some 23), .mov (.t 5), none⟩,
    ⟨(some 4), .mov (.t 23), none⟩])
  .ret))))
def F_ref20_Terminate : GFun := ⟨2, 24, B_ref20_Terminate, [.t 4]⟩
theorem ok_ref20_Terminate : okFun Go.Proofs.Try.prog fid_ref20_Terminate F_ref20_Terminate = true := by kernel_rfl
def B_ref20_Weight : GCode :=
  (.seq (.region [⟨(some 2), .mov (.c (.int .i64 0)), none⟩])
  (.seq (.region [⟨(some 3), .mov (.c (.int .i64 0)), none⟩])
  (.seq (.seq (.region [⟨(some 4), .mov (.c (.int .i64 0)), none⟩])
  (.block 0 (.loop (.seq (.seq (.region [⟨(some 6), .mov (.t 4), none⟩,
    ⟨(some 7), .mov (.t 0), none⟩,
    ⟨(some 8), .len (.t 7), none⟩,
    ⟨(some 9), .bin .lss (.t 6) (.t 8), none⟩])
  (.cond (.t 9)
  .skip
  (.exit 0)))
  (.seq (.block 1 (.seq (.region [⟨(some 5), .mov (.c (.int .i64 0)), none⟩])
  (.block 2 (.loop (.seq (.seq (.region [⟨(some 12), .mov (.t 5), none⟩,
    ⟨(some 13), .mov (.t 0), none⟩,
    ⟨(some 14), .mov (.t 4), none⟩,
    ⟨(some 15), .indexAddr 1 (.t 13) (.t 14), none⟩,
    ⟨(some 16), .load none (.t 15), none⟩,
    ⟨(some 17), .len (.t 16), none⟩,
    ⟨(some 18), .bin .lss (.t 12) (.t 17), none⟩])
  (.cond (.t 18)
  .skip
  (.exit 2)))
  (.seq (.block 3 (.seq (.region [⟨(some 21), .mov (.t 0), none⟩,
    ⟨(some 22), .mov (.t 4), none⟩,
    ⟨(some 23), .indexAddr 1 (.t 21) (.t 22), none⟩,
    ⟨(some 24), .load none (.t 23), none⟩,
    ⟨(some 25), .mov (.t 5), none⟩,
    ⟨(some 26), .indexAddr 1 (.t 24) (.t 25), none⟩,
    ⟨(some 27), .load none (.t 26), none⟩,
    ⟨(some 28), .bin .neq (.t 27) (.c (.int .i64 0)), none⟩])
  (.cond (.t 28)
  (.region [⟨(some 29), .mov (.t 3), none⟩,
    ⟨(some 30), .bin .add (.t 29) (.c (.int .i64 1)), none⟩,
    ⟨(some 3), .mov (.t 30), none⟩])
  .skip)))
  (.region [⟨(some 19), .mov (.t 5), none⟩,
    ⟨(some 20), .bin .add (.t 19) (.c (.int .i64 1)), none⟩,
    ⟨(some 5), .mov (.t 20), none⟩])))))))
  (.region [⟨(some 10), .mov (.t 4), none⟩,
    ⟨(some 11), .bin .add (.t 10) (.c (.int .i64 1)), none⟩,
    ⟨(some 4), .mov (.t 11), none⟩]))))))
  (.seq (.region [⟨(some 31), .mov (.t 3), none⟩,
    ⟨(some 2), .mov (.t 31), none⟩])
  .ret))))
def F_ref20_Weight : GFun := ⟨1, 32, B_ref20_Weight, [.t 2]⟩
theorem ok_ref20_Weight : okFun Go.Proofs.Try.prog fid_ref20_Weight F_ref20_Weight = true := by kernel_rfl
end Go.Proofs.Ytdpibcniodhinaa.Gh
/- The ghost code of some functions. -/
namespace Go.Proofs.Ytdpibcniodhinaa.Gh
open Go Go.RowKit
def B_law20_ConvFrees : GCode :=
  (.seq (.region [⟨(some 1), .box (.t 0), none⟩,
    ⟨(some 2), .mov (.c (.bool false)), none⟩])
  (.seq (.seq (.region [⟨(some 7), .load (some 4) (.t 1), none⟩,
    ⟨(some 8), .call fid_law20_few [(.t 7)], none⟩,
    ⟨(some 9), .un .not (.t 8), none⟩])
  (.cond (.t 9)
  (.seq (.region [⟨(some 2), .mov (.c (.bool true)), none⟩])
  .ret)
  .skip))
  (.seq (.seq (.region [⟨(some 10), .load (some 4) (.t 1), none⟩,
    ⟨(some 11), .call fid_ref20_Check [(.t 10)], none⟩,
    ⟨(some 12), .bin .neq (.t 11) (.c (.int .i64 0)), none⟩])
  (.cond (.t 12)
  (.seq (.region [⟨(some 14), .load (some 4) (.t 1), none⟩,
    ⟨(some 15), .call fid_conv_Free [(.t 14)], none⟩,
    ⟨(some 13), .mov (.t 15), none⟩,
    ⟨(some 16), .extract 0 (.t 13), none⟩,
    ⟨(some 17), .extract 1 (.t 13), none⟩,
    ⟨(some 3), .alloc [.int .i64 0, .nil, .nil], none⟩,
    ⟨none, .store 3 (.t 3) (.t 16), none⟩,
    ⟨(some 4), .mov (.t 17), none⟩])
  (.seq (.region [⟨(some 18), .mov (.t 4), none⟩,
    ⟨(some 19), .load (some 4) (.t 1), none⟩,
    ⟨(some 20), .call fid_ref20_Check [(.t 19)], none⟩,
    ⟨(some 21), .bin .eql (.t 18) (.t 20), none⟩,
    ⟨(some 22), .mov (.t 21), none⟩,
    ⟨(some 23), .fieldAddr 0 (.t 3), (some (22, true))⟩,
    ⟨(some 24), .load none (.t 23), (some (22, true))⟩,
    ⟨(some 25), .bin .eql (.t 24) (.c (.int .i64 0)), (some (22, true))⟩,
    ⟨(some 26), .pick (.t 22) (.t 25) (.c (.bool false)), none⟩,
    ⟨(some 27), .mov (.t 26), none⟩,
    ⟨(some 28), .fieldAddr 1 (.t 3), (some (27, true))⟩,
    ⟨(some 29), .load none (.t 28), (some (27, true))⟩,
    ⟨(some 30), .len (.t 29), (some (27, true))⟩,
    ⟨(some 31), .fieldAddr 2 (.t 3), (some (27, true))⟩,
    ⟨(some 32), .load none (.t 31), (some (27, true))⟩,
    ⟨(some 33), .len (.t 32), (some (27, true))⟩,
    ⟨(some 34), .bin .add (.t 30) (.t 33), (some (27, true))⟩,
    ⟨(some 35), .bin .eql (.t 34) (.c (.int .i64 0)), (some (27, true))⟩,
    ⟨(some 36), .pick (.t 27) (.t 35) (.c (.bool false)), none⟩,
    ⟨(some 2), .mov (.t 36), none⟩])
  .ret))
  .skip))
  (.seq (.seq (.region [⟨(some 37), .load (some 4) (.t 1), none⟩,
    ⟨(some 38), .call fid_ref20_Small [(.t 37), (.c (.int .i64 512))], none⟩,
    ⟨(some 39), .un .not (.t 38), none⟩])
  (.cond (.t 39)
  (.seq (.region [⟨(some 2), .mov (.c (.bool true)), none⟩])
  .ret)
  .skip))
  (.seq (.region [⟨(some 41), .load (some 4) (.t 1), none⟩,
    ⟨(some 42), .call fid_conv_Free [(.t 41)], none⟩,
    ⟨(some 40), .mov (.t 42), none⟩,
    ⟨(some 43), .extract 0 (.t 40), none⟩,
    ⟨(some 44), .extract 1 (.t 40), none⟩,
    ⟨(some 5), .alloc [.int .i64 0, .nil, .nil], none⟩,
    ⟨none, .store 3 (.t 5) (.t 43), none⟩,
    ⟨(some 6), .mov (.t 44), none⟩])
  (.seq (.draw [0, 1, 3, 7, 15, 7, 39, 127, 255, 511, 1023, 1023, 4095, 8191, 16383]
    [⟨(some 45), .mov (.t 6), none⟩,
    ⟨(some 46), .bin .eql (.t 45) (.c (.int .i64 0)), none⟩,
    ⟨(some 47), .mov (.t 46), none⟩,
    ⟨(some 48), .fieldAddr 0 (.t 5), (some (47, true))⟩,
    ⟨(some 49), .load none (.t 48), (some (47, true))⟩,
    ⟨(some 50), .load (some 4) (.t 1), (some (47, true))⟩,
    ⟨(some 51), .call fid_ref20_Free [(.t 50)], (some (47, true))⟩,
    ⟨(some 52), .bin .eql (.t 49) (.t 51), (some (47, true))⟩,
    ⟨(some 53), .pick (.t 47) (.t 52) (.c (.bool false)), none⟩,
    ⟨(some 54), .mov (.t 53), none⟩,
    ⟨(some 55), .load (some 4) (.t 1), (some (54, true))⟩,
    ⟨(some 56), .load (some 3) (.t 5), (some (54, true))⟩]
    [⟨(some 57), .call fid_ref20_Accept [(.t 55), (.t 56)], (some (54, true))⟩,
    ⟨(some 58), .pick (.t 54) (.t 57) (.c (.bool false)), none⟩,
    ⟨(some 2), .mov (.t 58), none⟩])
  .ret))))))
def F_law20_ConvFrees : GFun := ⟨1, 59, B_law20_ConvFrees, [.t 2]⟩
theorem ok_law20_ConvFrees : okFun Go.Proofs.Try.prog fid_law20_ConvFrees F_law20_ConvFrees = true := by kernel_rfl
def B_law20_few : GCode :=
  (.seq (.region [⟨(some 1), .box (.t 0), none⟩,
    ⟨(some 2), .mov (.c (.bool false)), none⟩])
  (.seq (.seq (.region [⟨(some 6), .fieldAddr 3 (.t 1), none⟩,
    ⟨(some 7), .load none (.t 6), none⟩,
    ⟨(some 8), .len (.t 7), none⟩,
    ⟨(some 9), .bin .gtr (.t 8) (.c (.int .i64 70)), none⟩])
  (.cond (.t 9)
  (.seq (.region [⟨(some 2), .mov (.c (.bool false)), none⟩])
  .ret)
  .skip))
  (.seq (.region [⟨(some 3), .mov (.c (.int .i64 0)), none⟩])
  (.seq (.seq (.region [⟨(some 4), .mov (.c (.int .i64 0)), none⟩])
  (.block 0 (.loop (.seq (.seq (.region [⟨(some 10), .mov (.t 4), none⟩,
    ⟨(some 11), .fieldAddr 3 (.t 1), none⟩,
    ⟨(some 12), .load none (.t 11), none⟩,
    ⟨(some 13), .len (.t 12), none⟩,
    ⟨(some 14), .bin .lss (.t 10) (.t 13), none⟩])
  (.cond (.t 14)
  .skip
  (.exit 0)))
  (.seq (.block 1 (.seq (.seq (.region [⟨(some 17), .fieldAddr 3 (.t 1), none⟩,
    ⟨(some 18), .load none (.t 17), none⟩,
    ⟨(some 19), .mov (.t 4), none⟩,
    ⟨(some 20), .indexAddr 1 (.t 18) (.t 19), none⟩,
    ⟨(some 21), .load none (.t 20), none⟩,
    ⟨(some 22), .len (.t 21), none⟩,
    ⟨(some 23), .bin .gtr (.t 22) (.c (.int .i64 70)), none⟩])
  (.cond (.t 23)
  (.seq (.region [⟨(some 2), .mov (.c (.bool false)), none⟩])
  .ret)
  .skip))
  (.seq (.region [⟨(some 5), .mov (.c (.int .i64 0)), none⟩])
  (.block 2 (.loop (.seq (.seq (.region [⟨(some 24), .mov (.t 5), none⟩,
    ⟨(some 25), .fieldAddr 3 (.t 1), none⟩,
    ⟨(some 26), .load none (.t 25), none⟩,
    ⟨(some 27), .mov (.t 4), none⟩,
    ⟨(some 28), .indexAddr 1 (.t 26) (.t 27), none⟩,
    ⟨(some 29), .load none (.t 28), none⟩,
    ⟨(some 30), .len (.t 29), none⟩,
    ⟨(some 31), .bin .lss (.t 24) (.t 30), none⟩])
  (.cond (.t 31)
  .skip
  (.exit 2)))
  (.seq (.block 3 (.seq (.seq (.region [⟨(some 34), .fieldAddr 3 (.t 1), none⟩,
    ⟨(some 35), .load none (.t 34), none⟩,
    ⟨(some 36), .mov (.t 4), none⟩,
    ⟨(some 37), .indexAddr 1 (.t 35) (.t 36), none⟩,
    ⟨(some 38), .load none (.t 37), none⟩,
    ⟨(some 39), .mov (.t 5), none⟩,
    ⟨(some 40), .indexAddr 1 (.t 38) (.t 39), none⟩,
    ⟨(some 41), .load none (.t 40), none⟩,
    ⟨(some 42), .len (.t 41), none⟩,
    ⟨(some 43), .bin .gtr (.t 42) (.c (.int .i64 40)), none⟩])
  (.cond (.t 43)
  (.seq (.region [⟨(some 2), .mov (.c (.bool false)), none⟩])
  .ret)
  .skip))
  (.region [⟨(some 44), .mov (.t 3), none⟩,
    ⟨(some 45), .fieldAddr 3 (.t 1), none⟩,
    ⟨(some 46), .load none (.t 45), none⟩,
    ⟨(some 47), .mov (.t 4), none⟩,
    ⟨(some 48), .indexAddr 1 (.t 46) (.t 47), none⟩,
    ⟨(some 49), .load none (.t 48), none⟩,
    ⟨(some 50), .mov (.t 5), none⟩,
    ⟨(some 51), .indexAddr 1 (.t 49) (.t 50), none⟩,
    ⟨(some 52), .load none (.t 51), none⟩,
    ⟨(some 53), .len (.t 52), none⟩,
    ⟨(some 54), .bin .add (.t 44) (.t 53), none⟩,
    ⟨(some 3), .mov (.t 54), none⟩])))
  (.region [⟨(some 32), .mov (.t 5), none⟩,
    ⟨(some 33), .bin .add (.t 32) (.c (.int .i64 1)), none⟩,
    ⟨(some 5), .mov (.t 33), none⟩]))))))))
  (.region [⟨(some 15), .mov (.t 4), none⟩,
    ⟨(some 16), .bin .add (.t 15) (.c (.int .i64 1)), none⟩,
    ⟨(some 4), .mov (.t 16), none⟩]))))))
  (.seq (.region [⟨(some 55), .mov (.t 3), none⟩,
    ⟨(some 56), .bin .leq (.t 55) (.c (.int .i64 3000)), none⟩,
    ⟨(some 2), .mov (.t 56), none⟩])
  .ret)))))
def F_law20_few : GFun := ⟨1, 57, B_law20_few, [.t 2]⟩
theorem ok_law20_few : okFun Go.Proofs.Try.prog fid_law20_few F_law20_few = true := by kernel_rfl
end Go.Proofs.Ytdpibcniodhinaa.Gh
/- Encoders: the bounds of the statements, and degrees. -/
namespace Go.Proofs.Ytdpibcniodhinaa.Gh
open Go Go.RowKit
open Alg (CR Ps Dg Zm Mn El Cg sm pw Irr Prm)
set_option linter.unusedVariables false
set_option linter.unusedSimpArgs false

/-- an encoder as it is given -/
structure Enc where
  p : Int
  m : Int
  l : Nat
  mo : Nat → Int
  r : Nat
  w : Nat → Nat
  n : Nat → Nat → Nat
  c : Nat → Nat → Nat → Int
def Enc.pl (e : Enc) (i : Nat) : Nat → GV := fun j => isl (e.n i j) (e.c i j)
def Enc.rw (e : Enc) : Nat → GV := fun i => .sl (e.w i) (tab (e.w i) (e.pl i))
abbrev Enc.gen (e : Enc) : GV := .sl e.r (tab e.r e.rw)
abbrev Enc.f (e : Enc) : GV := fgv e.p e.m (isl e.l e.mo)
abbrev Enc.cs (e : Enc) : List GV := [.int .i64 e.p, .int .i64 e.m, isl e.l e.mo, e.gen]
abbrev Enc.gv (e : Enc) : GV := .agg e.cs
theorem Enc.pl_at (e : Enc) (i j : Nat) : e.pl i j = isl (e.n i j) (e.c i j) := rfl
theorem Enc.rw_at (e : Enc) (i : Nat) : e.rw i = .sl (e.w i) (tab (e.w i) (e.pl i)) := rfl
/-- the bounds of the statements -/
structure Enc.Bnd (e : Enc) : Prop where
  r : e.r ≤ 70
  w : ∀ i, i < e.r → e.w i ≤ 70
  n : ∀ i j, i < e.r → j < e.w i → e.n i j ≤ 40
def sumn (f : Nat → Nat) : Nat → Nat
  | 0 => 0
  | n + 1 => sumn f n + f n
def Enc.rs (e : Enc) (i : Nat) : Nat → Nat := sumn (e.n i)
def Enc.gs (e : Enc) : Nat → Nat := sumn fun i => e.rs i (e.w i)
noncomputable instance (e : Enc) : Decidable (e.Bnd ∧ e.gs e.r ≤ 3000) := Classical.propDecidable _

theorem sp_few {H : Heap} {n : Nat} (e : Enc) : Spec prog fid_law20_few [e.gv] H n (.bool (decide (e.Bnd ∧ e.gs e.r ≤ 3000))) H n := by
  refine spec_ends hmix ok_law20_few rfl fun hF => ?_
  show gw prog B_law20_few _ (tl 57 _) H n
  have bad : ∀ (E : Env) (H' : Heap) (n' : Nat), (∀ b, b < n → H' b = H b) → E 2 = .bool false → ¬ (e.Bnd ∧ e.gs e.r ≤ 3000) → F_law20_few.ends H n (.bool (decide (e.Bnd ∧ e.gs e.r ≤ 3000))) .ret (tl 57 E) H' n' := by
    intro E H' n' ho h4 h
    refine fin_ret rfl (by decide) ?_ ho
    rw [h4]; exact fz_bool (decide_eq_false h).symm
  have hu : ∀ x b, b < n → upd H n x b = H b := fun x b hb => upd_ne _ _ (by omega)
  simp -implicitDefEqProofs only [B_law20_few, go_sem, Nat.reduceLT, Nat.reduceBEq, Nat.reduceAdd, Nat.reduceEqDiff, Nat.reduceLeDiff, Nat.reduceSub, Nat.reduceMul]
  by_cases h1 : e.r ≤ 70
  · have h1' : ¬ (70 : Int) < (e.r : Int) := by omega
    simp -implicitDefEqProofs only [go_sem, Nat.reduceLT, Nat.reduceBEq, Nat.reduceAdd, Nat.reduceEqDiff, Nat.reduceLeDiff, Nat.reduceSub, Nat.reduceMul, h1']
    refine loop_rule (fun (i : Nat) E H' n' => n' = n + 1 ∧ H' n = some e.cs ∧ (∀ b, b < n → H' b = H b) ∧ E 1 = .ptr n 0 ∧ E 3 = .int .i64 (e.gs i : Nat) ∧ E 4 = .int .i64 (i : Nat) ∧ i ≤ e.r ∧ e.gs i ≤ i * 2800 ∧ (∀ t, t < i → e.w t ≤ 70) ∧ ∀ t j, t < i → j < e.w t → e.n t j ≤ 40) (fun i => e.r - i) 0 ?_ ?_
    · exact ⟨rfl, by simp -implicitDefEqProofs only [go_sem, Nat.reduceLT, Nat.reduceBEq, Nat.reduceAdd, Nat.reduceEqDiff, Nat.reduceLeDiff, Nat.reduceSub, Nat.reduceMul], hu _, rfl, rfl, rfl, by omega, by simp [Enc.gs, sumn], fun t ht => by omega, fun t j ht => by omega⟩
    rintro i E H' n' ⟨rfl, h0, ho, e1, e3, e4, hi, hg, hw, hn⟩
    simp -implicitDefEqProofs only [go_sem, Nat.reduceLT, Nat.reduceBEq, Nat.reduceAdd, Nat.reduceEqDiff, Nat.reduceLeDiff, Nat.reduceSub, Nat.reduceMul, e1, e4, h0]
    refine c_split (fun hc => ?_) (fun hc => ?_)
    · have hiN : i < e.r := by omega
      simp -implicitDefEqProofs only [go_sem, Nat.reduceLT, Nat.reduceBEq, Nat.reduceAdd, Nat.reduceEqDiff, Nat.reduceLeDiff, Nat.reduceSub, Nat.reduceMul, e1, e4, h0, hc, hiN, gat_tab, e.rw_at]
      by_cases h2 : e.w i ≤ 70
      · have h2' : ¬ (70 : Int) < (e.w i : Int) := by omega
        simp -implicitDefEqProofs only [go_sem, Nat.reduceLT, Nat.reduceBEq, Nat.reduceAdd, Nat.reduceEqDiff, Nat.reduceLeDiff, Nat.reduceSub, Nat.reduceMul, h2']
        refine loop_rule (fun (j : Nat) E H' n' => n' = n + 1 ∧ H' n = some e.cs ∧ (∀ b, b < n → H' b = H b) ∧ E 1 = .ptr n 0 ∧ E 3 = .int .i64 (e.gs i + e.rs i j : Nat) ∧ E 4 = .int .i64 (i : Nat) ∧ E 5 = .int .i64 (j : Nat) ∧ j ≤ e.w i ∧ e.rs i j ≤ j * 40 ∧ ∀ t, t < j → e.n i t ≤ 40) (fun j => e.w i - j) 0 ?_ ?_
        · exact ⟨rfl, h0, ho, by simp -implicitDefEqProofs only [go_sem, Nat.reduceLT, Nat.reduceBEq, Nat.reduceAdd, Nat.reduceEqDiff, Nat.reduceLeDiff, Nat.reduceSub, Nat.reduceMul, e1], by simp -implicitDefEqProofs only [go_sem, Nat.reduceLT, Nat.reduceBEq, Nat.reduceAdd, Nat.reduceEqDiff, Nat.reduceLeDiff, Nat.reduceSub, Nat.reduceMul, e3]; rfl, by simp -implicitDefEqProofs only [go_sem, Nat.reduceLT, Nat.reduceBEq, Nat.reduceAdd, Nat.reduceEqDiff, Nat.reduceLeDiff, Nat.reduceSub, Nat.reduceMul, e4], rfl, by omega, by simp [Enc.rs, sumn], fun t ht => by omega⟩
        clear h0 ho e1 e3 e4 H' E
        rintro j E H' n' ⟨rfl, h0, ho, e1, e3, e4, e5, hj, hr, hnj⟩
        simp -implicitDefEqProofs only [go_sem, Nat.reduceLT, Nat.reduceBEq, Nat.reduceAdd, Nat.reduceEqDiff, Nat.reduceLeDiff, Nat.reduceSub, Nat.reduceMul, e1, e4, e5, h0, hc, hiN, gat_tab, e.rw_at]
        refine c_split (fun hc' => ?_) (fun hc' => ?_)
        · have hjN : j < e.w i := by omega
          simp -implicitDefEqProofs only [go_sem, Nat.reduceLT, Nat.reduceBEq, Nat.reduceAdd, Nat.reduceEqDiff, Nat.reduceLeDiff, Nat.reduceSub, Nat.reduceMul, e1, e4, e5, h0, hc, hc', hiN, hjN, gat_tab, e.rw_at, e.pl_at]
          by_cases h3 : e.n i j ≤ 40
          · have h3' : ¬ (40 : Int) < (e.n i j : Int) := by omega
            have hrs : e.rs i (j + 1) = e.rs i j + e.n i j := rfl
            have hadd : IntKind.i64.wrap (((e.gs i + e.rs i j : Nat) : Int) + ((e.n i j : Nat) : Int)) = ((e.gs i + e.rs i (j + 1) : Nat) : Int) := (wrap64 (by omega)).trans (by omega)
            have hwj := wrap64 (x := (j : Int) + 1) (by omega)
            simp -implicitDefEqProofs only [go_sem, Nat.reduceLT, Nat.reduceBEq, Nat.reduceAdd, Nat.reduceEqDiff, Nat.reduceLeDiff, Nat.reduceSub, Nat.reduceMul, h3', e1, e3, e4, e5, h0, hc, hc', hiN, hjN, gat_tab, e.rw_at, e.pl_at, hadd, hwj]
            refine l_n ⟨j + 1, by omega, rfl, h0, ho, by simp -implicitDefEqProofs only [go_sem, Nat.reduceLT, Nat.reduceBEq, Nat.reduceAdd, Nat.reduceEqDiff, Nat.reduceLeDiff, Nat.reduceSub, Nat.reduceMul, e1], by simp -implicitDefEqProofs only [go_sem, Nat.reduceLT, Nat.reduceBEq, Nat.reduceAdd, Nat.reduceEqDiff, Nat.reduceLeDiff, Nat.reduceSub, Nat.reduceMul], by simp -implicitDefEqProofs only [go_sem, Nat.reduceLT, Nat.reduceBEq, Nat.reduceAdd, Nat.reduceEqDiff, Nat.reduceLeDiff, Nat.reduceSub, Nat.reduceMul, e4], by simp -implicitDefEqProofs only [go_sem, Nat.reduceLT, Nat.reduceBEq, Nat.reduceAdd, Nat.reduceEqDiff, Nat.reduceLeDiff, Nat.reduceSub, Nat.reduceMul]; rfl, by omega, by omega, fun t ht => ?_⟩
            by_cases et : t = j
            · subst et; exact h3
            · exact hnj t (by omega)
          · have h3' : (40 : Int) < (e.n i j : Int) := by omega
            simp -implicitDefEqProofs only [go_sem, Nat.reduceLT, Nat.reduceBEq, Nat.reduceAdd, Nat.reduceEqDiff, Nat.reduceLeDiff, Nat.reduceSub, Nat.reduceMul, h3']
            exact bad _ _ _ ho (by simp -implicitDefEqProofs only [go_sem, Nat.reduceLT, Nat.reduceBEq, Nat.reduceAdd, Nat.reduceEqDiff, Nat.reduceLeDiff, Nat.reduceSub, Nat.reduceMul]) fun h => h3 (h.1.n i j hiN hjN)
        · have : j = e.w i := by omega
          subst this
          have hgs : e.gs (i + 1) = e.gs i + e.rs i (e.w i) := rfl
          have hwi := wrap64 (x := (i : Int) + 1) (by omega)
          simp -implicitDefEqProofs only [go_sem, Nat.reduceLT, Nat.reduceBEq, Nat.reduceAdd, Nat.reduceEqDiff, Nat.reduceLeDiff, Nat.reduceSub, Nat.reduceMul, e4, hwi]
          refine l_n ⟨i + 1, by omega, rfl, h0, ho, by simp -implicitDefEqProofs only [go_sem, Nat.reduceLT, Nat.reduceBEq, Nat.reduceAdd, Nat.reduceEqDiff, Nat.reduceLeDiff, Nat.reduceSub, Nat.reduceMul, e1], by simp -implicitDefEqProofs only [go_sem, Nat.reduceLT, Nat.reduceBEq, Nat.reduceAdd, Nat.reduceEqDiff, Nat.reduceLeDiff, Nat.reduceSub, Nat.reduceMul, e3]; rfl, by simp -implicitDefEqProofs only [go_sem, Nat.reduceLT, Nat.reduceBEq, Nat.reduceAdd, Nat.reduceEqDiff, Nat.reduceLeDiff, Nat.reduceSub, Nat.reduceMul]; rfl, by omega, by omega, fun t ht => ?_, fun t u ht hu' => ?_⟩
          · by_cases et : t = i
            · subst et; exact h2
            · exact hw t (by omega)
          · by_cases et : t = i
            · subst et; exact hnj u hu'
            · exact hn t u (by omega) hu'
      · have h2' : (70 : Int) < (e.w i : Int) := by omega
        simp -implicitDefEqProofs only [go_sem, Nat.reduceLT, Nat.reduceBEq, Nat.reduceAdd, Nat.reduceEqDiff, Nat.reduceLeDiff, Nat.reduceSub, Nat.reduceMul, h2']
        exact bad _ _ _ ho (by simp -implicitDefEqProofs only [go_sem, Nat.reduceLT, Nat.reduceBEq, Nat.reduceAdd, Nat.reduceEqDiff, Nat.reduceLeDiff, Nat.reduceSub, Nat.reduceMul]) fun h => h2 (h.1.w i hiN)
    · have : i = e.r := by omega
      subst this
      simp -implicitDefEqProofs only [go_sem, Nat.reduceLT, Nat.reduceBEq, Nat.reduceAdd, Nat.reduceEqDiff, Nat.reduceLeDiff, Nat.reduceSub, Nat.reduceMul, e3]
      refine fin_ret rfl (by decide) ?_ ho
      simp -implicitDefEqProofs only [go_sem, Nat.reduceLT, Nat.reduceBEq, Nat.reduceAdd, Nat.reduceEqDiff, Nat.reduceLeDiff, Nat.reduceSub, Nat.reduceMul]
      refine fz_bool (decide_eq_decide.2 ?_)
      constructor
      · intro h; exact ⟨⟨h1, hw, fun t j ht hj => hn t j ht hj⟩, by omega⟩
      · intro h; have := h.2; omega
  · have h1' : (70 : Int) < (e.r : Int) := by omega
    simp -implicitDefEqProofs only [go_sem, Nat.reduceLT, Nat.reduceBEq, Nat.reduceAdd, Nat.reduceEqDiff, Nat.reduceLeDiff, Nat.reduceSub, Nat.reduceMul, h1']
    exact bad _ _ _ (hu _) rfl fun h => h1 h.1.r

/-- the greatest index below n of an entry other than 0 -/
def hid (f : Nat → Int) : Nat → Nat
  | 0 => 0
  | n + 1 => if f n = 0 then hid f n else max (hid f n) n
theorem hid_le (f : Nat → Int) : ∀ n, hid f n ≤ n := by
  intro n
  induction n with
  | zero => exact Nat.le_refl _
  | succ n ih => rw [hid]; split <;> omega
theorem hid_tn (f : Nat → Int) : ∀ n, hid f n = tn f n - 1 := by
  intro n
  induction n with
  | zero => rfl
  | succ n ih =>
    rw [hid, tn]
    split
    · exact ih
    · have := hid_le f n; omega
/-- the degree of the first j entries of row i -/
def Enc.dg (e : Enc) (i : Nat) : Nat → Nat
  | 0 => 0
  | j + 1 => max (e.dg i j) (hid (e.c i j) (e.n i j))
def Enc.deg (e : Enc) (i : Nat) : Nat := e.dg i (e.w i)
theorem Enc.dg_le (e : Enc) (h : e.Bnd) {i : Nat} (hi : i < e.r) : ∀ j, j ≤ e.w i → e.dg i j ≤ 40 := by
  intro j
  induction j with
  | zero => intro _; exact Nat.zero_le _
  | succ j ih =>
    intro hj
    have h1 := ih (by omega)
    have h2 := hid_le (e.c i j) (e.n i j)
    have h3 := h.n i j hi (by omega)
    rw [Enc.dg]; omega
theorem Enc.deg_le (e : Enc) (h : e.Bnd) {i : Nat} (hi : i < e.r) : e.deg i ≤ 40 := e.dg_le h hi _ (Nat.le_refl _)

theorem sp_ref20_Degree {H : Heap} {n : Nat} (e : Enc) (h : e.Bnd) (i : Nat) (hi : i < e.r) : Spec prog fid_ref20_Degree [e.gv, .int .i64 i] H n (.int .i64 (e.deg i : Nat)) H n := by
  refine spec_ends hmix ok_ref20_Degree rfl fun hF => ?_
  show gw prog B_ref20_Degree _ (tl 47 _) H n
  have hiI : (i : Int) < (e.r : Int) := by omega
  have hw := h.w i hi
  simp -implicitDefEqProofs only [B_ref20_Degree, go_sem, Nat.reduceLT, Nat.reduceBEq, Nat.reduceAdd, Nat.reduceEqDiff, Nat.reduceLeDiff, Nat.reduceSub, Nat.reduceMul]
  refine loop_rule (fun (j : Nat) E H' n' => n' = n + 1 ∧ H' n = some e.cs ∧ (∀ b, b < n → H' b = H b) ∧ E 1 = .int .i64 (i : Nat) ∧ E 2 = .ptr n 0 ∧ E 5 = .int .i64 (e.dg i j : Nat) ∧ E 6 = .int .i64 (j : Nat) ∧ j ≤ e.w i) (fun j => e.w i - j) 0 ?_ ?_
  · exact ⟨rfl, by simp -implicitDefEqProofs only [go_sem, Nat.reduceLT, Nat.reduceBEq, Nat.reduceAdd, Nat.reduceEqDiff, Nat.reduceLeDiff, Nat.reduceSub, Nat.reduceMul], fun b hb => upd_ne _ _ (by omega), rfl, rfl, rfl, rfl, by omega⟩
  rintro j E H' n' ⟨rfl, h0, ho, e1, e2, e5, e6, hj⟩
  simp -implicitDefEqProofs only [go_sem, Nat.reduceLT, Nat.reduceBEq, Nat.reduceAdd, Nat.reduceEqDiff, Nat.reduceLeDiff, Nat.reduceSub, Nat.reduceMul, e1, e2, e6, h0, hi, hiI, gat_tab, e.rw_at]
  refine c_split (fun hc => ?_) (fun hc => ?_)
  · have hjN : j < e.w i := by omega
    have hn := h.n i j hi hjN
    simp -implicitDefEqProofs only [go_sem, Nat.reduceLT, Nat.reduceBEq, Nat.reduceAdd, Nat.reduceEqDiff, Nat.reduceLeDiff, Nat.reduceSub, Nat.reduceMul]
    refine loop_rule (fun (d : Nat) E H' n' => n' = n + 1 ∧ H' n = some e.cs ∧ (∀ b, b < n → H' b = H b) ∧ E 1 = .int .i64 (i : Nat) ∧ E 2 = .ptr n 0 ∧ E 5 = .int .i64 (max (e.dg i j) (hid (e.c i j) d) : Nat) ∧ E 6 = .int .i64 (j : Nat) ∧ E 7 = .int .i64 (d : Nat) ∧ d ≤ e.n i j) (fun d => e.n i j - d) 0 ?_ ?_
    · refine ⟨rfl, h0, ho, by simp -implicitDefEqProofs only [go_sem, Nat.reduceLT, Nat.reduceBEq, Nat.reduceAdd, Nat.reduceEqDiff, Nat.reduceLeDiff, Nat.reduceSub, Nat.reduceMul, e1], by simp -implicitDefEqProofs only [go_sem, Nat.reduceLT, Nat.reduceBEq, Nat.reduceAdd, Nat.reduceEqDiff, Nat.reduceLeDiff, Nat.reduceSub, Nat.reduceMul, e2], ?_, by simp -implicitDefEqProofs only [go_sem, Nat.reduceLT, Nat.reduceBEq, Nat.reduceAdd, Nat.reduceEqDiff, Nat.reduceLeDiff, Nat.reduceSub, Nat.reduceMul, e6], rfl, by omega⟩
      simp -implicitDefEqProofs only [go_sem, Nat.reduceLT, Nat.reduceBEq, Nat.reduceAdd, Nat.reduceEqDiff, Nat.reduceLeDiff, Nat.reduceSub, Nat.reduceMul, e5, hid, Nat.max_zero]
    clear h0 ho e1 e2 e5 e6 H' E
    rintro d E H' n' ⟨rfl, h0, ho, e1, e2, e5, e6, e7, hd⟩
    simp -implicitDefEqProofs only [go_sem, Nat.reduceLT, Nat.reduceBEq, Nat.reduceAdd, Nat.reduceEqDiff, Nat.reduceLeDiff, Nat.reduceSub, Nat.reduceMul, e1, e2, e6, e7, h0, hi, hiI, hc, hjN, gat_tab, e.rw_at, e.pl_at]
    refine c_split (fun hc' => ?_) (fun hc' => ?_)
    · have hdN : d < e.n i j := by omega
      have hwd := wrap64 (x := (d : Int) + 1) (by omega)
      by_cases hz : e.c i j d = 0
      · simp -implicitDefEqProofs only [go_sem, Nat.reduceLT, Nat.reduceBEq, Nat.reduceAdd, Nat.reduceEqDiff, Nat.reduceLeDiff, Nat.reduceSub, Nat.reduceMul, e1, e2, e6, e7, h0, hi, hiI, hc, hc', hjN, hdN, gat_tab, e.rw_at, e.pl_at, hz, hwd]
        refine l_n ⟨d + 1, by omega, rfl, h0, ho, by simp -implicitDefEqProofs only [go_sem, Nat.reduceLT, Nat.reduceBEq, Nat.reduceAdd, Nat.reduceEqDiff, Nat.reduceLeDiff, Nat.reduceSub, Nat.reduceMul, e1], by simp -implicitDefEqProofs only [go_sem, Nat.reduceLT, Nat.reduceBEq, Nat.reduceAdd, Nat.reduceEqDiff, Nat.reduceLeDiff, Nat.reduceSub, Nat.reduceMul, e2], ?_, by simp -implicitDefEqProofs only [go_sem, Nat.reduceLT, Nat.reduceBEq, Nat.reduceAdd, Nat.reduceEqDiff, Nat.reduceLeDiff, Nat.reduceSub, Nat.reduceMul, e6], by simp -implicitDefEqProofs only [go_sem, Nat.reduceLT, Nat.reduceBEq, Nat.reduceAdd, Nat.reduceEqDiff, Nat.reduceLeDiff, Nat.reduceSub, Nat.reduceMul]; rfl, by omega⟩
        simp -implicitDefEqProofs only [go_sem, Nat.reduceLT, Nat.reduceBEq, Nat.reduceAdd, Nat.reduceEqDiff, Nat.reduceLeDiff, Nat.reduceSub, Nat.reduceMul, e5, hid, hz]
      · have hmx : (max ((max (e.dg i j) (hid (e.c i j) d) : Nat) : Int) (d : Int)) = ((max (e.dg i j) (hid (e.c i j) (d + 1)) : Nat) : Int) := by
          rw [hid, if_neg hz]; omega
        simp -implicitDefEqProofs only [go_sem, Nat.reduceLT, Nat.reduceBEq, Nat.reduceAdd, Nat.reduceEqDiff, Nat.reduceLeDiff, Nat.reduceSub, Nat.reduceMul, e1, e2, e5, e6, e7, h0, hi, hiI, hc, hc', hjN, hdN, gat_tab, e.rw_at, e.pl_at, hz, hwd, hmx]
        exact l_n ⟨d + 1, by omega, rfl, h0, ho, by simp -implicitDefEqProofs only [go_sem, Nat.reduceLT, Nat.reduceBEq, Nat.reduceAdd, Nat.reduceEqDiff, Nat.reduceLeDiff, Nat.reduceSub, Nat.reduceMul, e1], by simp -implicitDefEqProofs only [go_sem, Nat.reduceLT, Nat.reduceBEq, Nat.reduceAdd, Nat.reduceEqDiff, Nat.reduceLeDiff, Nat.reduceSub, Nat.reduceMul, e2], by simp -implicitDefEqProofs only [go_sem, Nat.reduceLT, Nat.reduceBEq, Nat.reduceAdd, Nat.reduceEqDiff, Nat.reduceLeDiff, Nat.reduceSub, Nat.reduceMul], by simp -implicitDefEqProofs only [go_sem, Nat.reduceLT, Nat.reduceBEq, Nat.reduceAdd, Nat.reduceEqDiff, Nat.reduceLeDiff, Nat.reduceSub, Nat.reduceMul, e6], by simp -implicitDefEqProofs only [go_sem, Nat.reduceLT, Nat.reduceBEq, Nat.reduceAdd, Nat.reduceEqDiff, Nat.reduceLeDiff, Nat.reduceSub, Nat.reduceMul]; rfl, by omega⟩
    · have : d = e.n i j := by omega
      subst this
      have hwj := wrap64 (x := (j : Int) + 1) (by omega)
      simp -implicitDefEqProofs only [go_sem, Nat.reduceLT, Nat.reduceBEq, Nat.reduceAdd, Nat.reduceEqDiff, Nat.reduceLeDiff, Nat.reduceSub, Nat.reduceMul, e6, hwj]
      exact l_n ⟨j + 1, by omega, rfl, h0, ho, by simp -implicitDefEqProofs only [go_sem, Nat.reduceLT, Nat.reduceBEq, Nat.reduceAdd, Nat.reduceEqDiff, Nat.reduceLeDiff, Nat.reduceSub, Nat.reduceMul, e1], by simp -implicitDefEqProofs only [go_sem, Nat.reduceLT, Nat.reduceBEq, Nat.reduceAdd, Nat.reduceEqDiff, Nat.reduceLeDiff, Nat.reduceSub, Nat.reduceMul, e2], by simp -implicitDefEqProofs only [go_sem, Nat.reduceLT, Nat.reduceBEq, Nat.reduceAdd, Nat.reduceEqDiff, Nat.reduceLeDiff, Nat.reduceSub, Nat.reduceMul, e5, Enc.dg], by simp -implicitDefEqProofs only [go_sem, Nat.reduceLT, Nat.reduceBEq, Nat.reduceAdd, Nat.reduceEqDiff, Nat.reduceLeDiff, Nat.reduceSub, Nat.reduceMul]; rfl, by omega⟩
  · have : j = e.w i := by omega
    subst this
    simp -implicitDefEqProofs only [go_sem, Nat.reduceLT, Nat.reduceBEq, Nat.reduceAdd, Nat.reduceEqDiff, Nat.reduceLeDiff, Nat.reduceSub, Nat.reduceMul, e5]
    exact fin_ret rfl (by decide) (by simp -implicitDefEqProofs only [go_sem, Nat.reduceLT, Nat.reduceBEq, Nat.reduceAdd, Nat.reduceEqDiff, Nat.reduceLeDiff, Nat.reduceSub, Nat.reduceMul]; exact fz_int rfl) ho

end Go.Proofs.Ytdpibcniodhinaa.Gh
/- The reference's check of an encoder. -/
namespace Go.Proofs.Ytdpibcniodhinaa.Gh
open Go Go.RowKit
open Alg (CR Ps Dg Zm Mn El Cg sm pw Irr Prm)
set_option linter.unusedVariables false
set_option linter.unusedSimpArgs false

noncomputable instance (l : Nat) (f : Nat → Int) (q : Int) : Decidable (∀ i, i < l → 0 ≤ f i ∧ f i < q) := Classical.propDecidable _
theorem sp_Entries {H : Heap} {n : Nat} (p m : Int) (g : GV) (hg : isCell g = true) (l : Nat) (f : Nat → Int) (hl : l ≤ 1000000) : Spec prog fid_ref09_Entries [fgv p m g, isl l f] H n (.int .i64 (if ∀ i, i < l → 0 ≤ f i ∧ f i < qo p m then 0 else 2)) H n := by
  refine spec_ends hmix ok_ref09_Entries rfl fun hF => ?_
  show gw prog B_ref09_Entries _ (tl 19 _) H n
  simp -implicitDefEqProofs only [B_ref09_Entries, go_sem, Nat.reduceLT, Nat.reduceBEq, Nat.reduceAdd, Nat.reduceEqDiff, Nat.reduceLeDiff, Nat.reduceSub, Nat.reduceMul, hg]
  refine loop_rule (fun (i : Nat) E H' n' => n' = n + 1 ∧ H' n = some [.int .i64 p, .int .i64 m, g] ∧ (∀ b, b < n → H' b = H b) ∧ E 1 = isl l f ∧ E 2 = .ptr n 0 ∧ E 5 = .int .i64 (i : Nat) ∧ i ≤ l ∧ ∀ t, t < i → 0 ≤ f t ∧ f t < qo p m) (fun i => l - i) 0 ?_ ?_
  · exact ⟨rfl, by simp -implicitDefEqProofs only [go_sem, Nat.reduceLT, Nat.reduceBEq, Nat.reduceAdd, Nat.reduceEqDiff, Nat.reduceLeDiff, Nat.reduceSub, Nat.reduceMul], fun b hb => upd_ne _ _ (by omega), rfl, rfl, rfl, by omega, fun t ht => by omega⟩
  rintro i E H' n' ⟨rfl, h0, ho, e1, e2, e5, hi, hf⟩
  simp -implicitDefEqProofs only [go_sem, Nat.reduceLT, Nat.reduceBEq, Nat.reduceAdd, Nat.reduceEqDiff, Nat.reduceLeDiff, Nat.reduceSub, Nat.reduceMul, e1, e5]
  refine c_split (fun hc => ?_) (fun hc => ?_)
  · have hiN : i < l := by omega
    have hwi := wrap64 (x := (i : Int) + 1) (by omega)
    simp -implicitDefEqProofs only [go_sem, Nat.reduceLT, Nat.reduceBEq, Nat.reduceAdd, Nat.reduceEqDiff, Nat.reduceLeDiff, Nat.reduceSub, Nat.reduceMul, e1, e2, e5, h0, hc, hiN, gat_tab]
    refine call_of (sp_ref04_Is p m g hg (f i)) ?_
    by_cases hx : 0 ≤ f i ∧ f i < qo p m
    · simp -implicitDefEqProofs only [go_sem, Nat.reduceLT, Nat.reduceBEq, Nat.reduceAdd, Nat.reduceEqDiff, Nat.reduceLeDiff, Nat.reduceSub, Nat.reduceMul, hx, e5, hwi]
      refine l_n ⟨i + 1, by omega, rfl, h0, ho, by simp -implicitDefEqProofs only [go_sem, Nat.reduceLT, Nat.reduceBEq, Nat.reduceAdd, Nat.reduceEqDiff, Nat.reduceLeDiff, Nat.reduceSub, Nat.reduceMul, e1], by simp -implicitDefEqProofs only [go_sem, Nat.reduceLT, Nat.reduceBEq, Nat.reduceAdd, Nat.reduceEqDiff, Nat.reduceLeDiff, Nat.reduceSub, Nat.reduceMul, e2], by simp -implicitDefEqProofs only [go_sem, Nat.reduceLT, Nat.reduceBEq, Nat.reduceAdd, Nat.reduceEqDiff, Nat.reduceLeDiff, Nat.reduceSub, Nat.reduceMul]; rfl, by omega, fun t ht => ?_⟩
      by_cases et : t = i
      · subst et; exact hx
      · exact hf t (by omega)
    · simp -implicitDefEqProofs only [go_sem, Nat.reduceLT, Nat.reduceBEq, Nat.reduceAdd, Nat.reduceEqDiff, Nat.reduceLeDiff, Nat.reduceSub, Nat.reduceMul, hx]
      exact fin_ret rfl (by decide) (fz_int (if_neg fun h => hx (h i hiN)).symm) ho
  · simp -implicitDefEqProofs only [go_sem, Nat.reduceLT, Nat.reduceBEq, Nat.reduceAdd, Nat.reduceEqDiff, Nat.reduceLeDiff, Nat.reduceSub, Nat.reduceMul]
    exact fin_ret rfl (by decide) (fz_int (if_pos fun t ht => hf t (by omega)).symm) ho

/-- the first shape -/
def Enc.Shp3 (e : Enc) : Prop := e.r ≠ 0 ∧ e.w 0 ≠ 0 ∧ e.r ≤ e.w 0 ∧ ∀ i, i < e.r → e.w i = e.w 0
def Enc.El (e : Enc) : Prop := ∀ i j, i < e.r → j < e.w i → ∀ d, d < e.n i j → 0 ≤ e.c i j d ∧ e.c i j d < qo e.p e.m
def Enc.tot (e : Enc) : Nat → Nat := sumn fun i => e.deg i + 1
abbrev Enc.Fok (e : Enc) : Prop := Gh.Fok e.p e.m e.l e.mo
open Classical in
/-- the code of the first error -/
noncomputable def Enc.ce (e : Enc) : Int := if e.Fok then (if e.Shp3 then (if e.w 0 ≤ 64 then (if e.El then (if qo e.p e.m ^ e.tot e.r ≤ 65536 then 0 else 8) else 2) else 4) else 3) else 1
theorem sumn_mono {f : Nat → Nat} : ∀ {i j : Nat}, i ≤ j → sumn f i ≤ sumn f j := by
  intro i j h
  induction j with
  | zero => have : i = 0 := by omega
            subst this; exact Nat.le_refl _
  | succ j ih =>
    by_cases e : i = j + 1
    · subst e; exact Nat.le_refl _
    · have := ih (by omega); rw [sumn]; omega
theorem Enc.qo_in (e : Enc) (h : e.Fok) : 2 ≤ qo e.p e.m ∧ qo e.p e.m ≤ 256 := by
  obtain ⟨k, M, d, h1, h2, h3⟩ := h
  obtain ⟨q1, q2, q3, q4, q5, q6⟩ := Gh.qo_in (d.shp h1 h2).1
  have h1i := pow_mono (p := e.p) (by omega) (i := 1) (j := e.m.toNat) (by omega)
  rw [Int.pow_succ, Int.pow_zero, Int.one_mul] at h1i
  omega

theorem sp_ref20_Check {H : Heap} {n : Nat} (e : Enc) (h : e.Bnd) : Spec prog fid_ref20_Check [e.gv] H n (.int .i64 e.ce) H n := by
  refine spec_ends hmix ok_ref20_Check rfl fun hF => ?_
  show gw prog B_ref20_Check _ (tl 109 _) H n
  have fin : ∀ (E : Env) (H' : Heap) (n' : Nat) (v : Int), E 2 = .int .i64 v → e.ce = v → (∀ b, b < n → H' b = H b) → F_ref20_Check.ends H n (.int .i64 e.ce) .ret (tl 109 E) H' n' := by
    intro E H' n' v h2 hv ho
    refine fin_ret rfl (by decide) ?_ ho
    rw [h2]; exact fz_int hv.symm
  have hu : ∀ x b, b < n → upd H n x b = H b := fun x b hb => upd_ne _ _ (by omega)
  have hr := h.r
  simp -implicitDefEqProofs only [B_ref20_Check, go_sem, Nat.reduceLT, Nat.reduceBEq, Nat.reduceAdd, Nat.reduceEqDiff, Nat.reduceLeDiff, Nat.reduceSub, Nat.reduceMul]
  refine call_of (sp_ref04_Check' e.p e.m e.l e.mo) ?_
  by_cases hA : e.Fok
  case neg =>
    have hA' : ¬ Fok e.p e.m e.l e.mo := hA
    have h10 : ((1 : Int) = 0) = False := by simp
    simp -implicitDefEqProofs only [go_sem, Nat.reduceLT, Nat.reduceBEq, Nat.reduceAdd, Nat.reduceEqDiff, Nat.reduceLeDiff, Nat.reduceSub, Nat.reduceMul, hA', h10]
    exact fin _ _ _ 1 (by simp -implicitDefEqProofs only [go_sem, Nat.reduceLT, Nat.reduceBEq, Nat.reduceAdd, Nat.reduceEqDiff, Nat.reduceLeDiff, Nat.reduceSub, Nat.reduceMul]) (if_neg hA) (hu _)
  have hA' : Fok e.p e.m e.l e.mo := hA
  obtain ⟨q2, q256⟩ := e.qo_in hA
  simp -implicitDefEqProofs only [go_sem, Nat.reduceLT, Nat.reduceBEq, Nat.reduceAdd, Nat.reduceEqDiff, Nat.reduceLeDiff, Nat.reduceSub, Nat.reduceMul, hA']
  by_cases hr0 : e.r = 0
  · have hr0' : (e.r : Int) = 0 := by omega
    simp -implicitDefEqProofs only [go_sem, Nat.reduceLT, Nat.reduceBEq, Nat.reduceAdd, Nat.reduceEqDiff, Nat.reduceLeDiff, Nat.reduceSub, Nat.reduceMul, hr0']
    exact fin _ _ _ 3 (by simp -implicitDefEqProofs only [go_sem, Nat.reduceLT, Nat.reduceBEq, Nat.reduceAdd, Nat.reduceEqDiff, Nat.reduceLeDiff, Nat.reduceSub, Nat.reduceMul]) (by rw [Enc.ce, if_pos hA, if_neg fun hs => hs.1 hr0]) (hu _)
  have hr0' : ¬ (e.r : Int) = 0 := by omega
  have hz1 : (0 : Int) < (e.r : Int) := by omega
  have hz2 : 0 < e.r := by omega
  have hz3 : (0 : Int).toNat = 0 := rfl
  have hz4 : (0 : Int) ≤ 0 := Int.le_refl 0
  have hw0 := h.w 0 hz2
  simp -implicitDefEqProofs only [go_sem, Nat.reduceLT, Nat.reduceBEq, Nat.reduceAdd, Nat.reduceEqDiff, Nat.reduceLeDiff, Nat.reduceSub, Nat.reduceMul, hr0', hz1, hz2, hz3, hz4, gat_tab, e.rw_at]
  by_cases hw00 : e.w 0 = 0
  · have hw00' : (e.w 0 : Int) = 0 := by omega
    simp -implicitDefEqProofs only [go_sem, Nat.reduceLT, Nat.reduceBEq, Nat.reduceAdd, Nat.reduceEqDiff, Nat.reduceLeDiff, Nat.reduceSub, Nat.reduceMul, hw00']
    exact fin _ _ _ 3 (by simp -implicitDefEqProofs only [go_sem, Nat.reduceLT, Nat.reduceBEq, Nat.reduceAdd, Nat.reduceEqDiff, Nat.reduceLeDiff, Nat.reduceSub, Nat.reduceMul]) (by rw [Enc.ce, if_pos hA, if_neg fun hs => hs.2.1 hw00]) (hu _)
  have hw00' : ¬ (e.w 0 : Int) = 0 := by omega
  simp -implicitDefEqProofs only [go_sem, Nat.reduceLT, Nat.reduceBEq, Nat.reduceAdd, Nat.reduceEqDiff, Nat.reduceLeDiff, Nat.reduceSub, Nat.reduceMul, hw00']
  refine loop_rule (fun (i : Nat) E H' n' => n' = n + 1 ∧ H' n = some e.cs ∧ (∀ b, b < n → H' b = H b) ∧ E 1 = .ptr n 0 ∧ E 3 = .int .i64 (i : Nat) ∧ i ≤ e.r ∧ ∀ t, t < i → e.w t = e.w 0) (fun i => e.r - i) 0 ⟨rfl, by simp -implicitDefEqProofs only [go_sem, Nat.reduceLT, Nat.reduceBEq, Nat.reduceAdd, Nat.reduceEqDiff, Nat.reduceLeDiff, Nat.reduceSub, Nat.reduceMul], hu _, rfl, rfl, by omega, fun t ht => by omega⟩ ?_
  rintro i E H' n' ⟨rfl, h0, ho, e1, e3, hi, hwi⟩
  simp -implicitDefEqProofs only [go_sem, Nat.reduceLT, Nat.reduceBEq, Nat.reduceAdd, Nat.reduceEqDiff, Nat.reduceLeDiff, Nat.reduceSub, Nat.reduceMul, e1, e3, h0]
  refine c_split (fun hc => ?_) (fun hc => ?_)
  · have hiN : i < e.r := by omega
    have hwr := wrap64 (x := (i : Int) + 1) (by omega)
    by_cases hx : e.w i = e.w 0
    · simp -implicitDefEqProofs only [go_sem, Nat.reduceLT, Nat.reduceBEq, Nat.reduceAdd, Nat.reduceEqDiff, Nat.reduceLeDiff, Nat.reduceSub, Nat.reduceMul, e1, e3, h0, hc, hiN, gat_tab, e.rw_at, hz1, hz2, hz3, hz4, hx, hwr]
      refine l_n ⟨i + 1, by omega, rfl, h0, ho, by simp -implicitDefEqProofs only [go_sem, Nat.reduceLT, Nat.reduceBEq, Nat.reduceAdd, Nat.reduceEqDiff, Nat.reduceLeDiff, Nat.reduceSub, Nat.reduceMul, e1], by simp -implicitDefEqProofs only [go_sem, Nat.reduceLT, Nat.reduceBEq, Nat.reduceAdd, Nat.reduceEqDiff, Nat.reduceLeDiff, Nat.reduceSub, Nat.reduceMul]; rfl, by omega, fun t ht => ?_⟩
      by_cases et : t = i
      · subst et; exact hx
      · exact hwi t (by omega)
    · have hxI : ¬ ((e.w i : Nat) : Int) = (e.w 0 : Nat) := by omega
      simp -implicitDefEqProofs only [go_sem, Nat.reduceLT, Nat.reduceBEq, Nat.reduceAdd, Nat.reduceEqDiff, Nat.reduceLeDiff, Nat.reduceSub, Nat.reduceMul, e1, e3, h0, hc, hiN, gat_tab, e.rw_at, hz1, hz2, hz3, hz4, hxI]
      exact fin _ _ _ 3 (by simp -implicitDefEqProofs only [go_sem, Nat.reduceLT, Nat.reduceBEq, Nat.reduceAdd, Nat.reduceEqDiff, Nat.reduceLeDiff, Nat.reduceSub, Nat.reduceMul]) (by rw [Enc.ce, if_pos hA, if_neg fun hs => hx (hs.2.2.2 i hiN)]) ho
  have hwall : ∀ t, t < e.r → e.w t = e.w 0 := fun t ht => hwi t (by omega)
  clear hi hwi e3
  by_cases hrw : e.r ≤ e.w 0
  case neg =>
    have hrw' : (e.w 0 : Int) < (e.r : Int) := by omega
    simp -implicitDefEqProofs only [go_sem, Nat.reduceLT, Nat.reduceBEq, Nat.reduceAdd, Nat.reduceEqDiff, Nat.reduceLeDiff, Nat.reduceSub, Nat.reduceMul, e1, h0, gat_tab, e.rw_at, hz1, hz2, hz3, hz4, hrw']
    exact fin _ _ _ 3 (by simp -implicitDefEqProofs only [go_sem, Nat.reduceLT, Nat.reduceBEq, Nat.reduceAdd, Nat.reduceEqDiff, Nat.reduceLeDiff, Nat.reduceSub, Nat.reduceMul]) (by rw [Enc.ce, if_pos hA, if_neg fun hs => hrw hs.2.2.1]) ho
  have hrw' : ¬ (e.w 0 : Int) < (e.r : Int) := by omega
  have hS : e.Shp3 := ⟨hr0, hw00, hrw, hwall⟩
  by_cases h64 : e.w 0 ≤ 64
  case neg =>
    have h64' : (64 : Int) < (e.w 0 : Int) := by omega
    simp -implicitDefEqProofs only [go_sem, Nat.reduceLT, Nat.reduceBEq, Nat.reduceAdd, Nat.reduceEqDiff, Nat.reduceLeDiff, Nat.reduceSub, Nat.reduceMul, e1, h0, gat_tab, e.rw_at, hz1, hz2, hz3, hz4, hrw', h64']
    exact fin _ _ _ 4 (by simp -implicitDefEqProofs only [go_sem, Nat.reduceLT, Nat.reduceBEq, Nat.reduceAdd, Nat.reduceEqDiff, Nat.reduceLeDiff, Nat.reduceSub, Nat.reduceMul]) (by rw [Enc.ce, if_pos hA, if_pos hS, if_neg h64]) ho
  have h64' : ¬ (64 : Int) < (e.w 0 : Int) := by omega
  simp -implicitDefEqProofs only [go_sem, Nat.reduceLT, Nat.reduceBEq, Nat.reduceAdd, Nat.reduceEqDiff, Nat.reduceLeDiff, Nat.reduceSub, Nat.reduceMul, e1, h0, gat_tab, e.rw_at, hz1, hz2, hz3, hz4, hrw', h64']
  clear hc
  refine loop_rule (fun (i : Nat) E H' n' => n' = n + 1 ∧ H' n = some e.cs ∧ (∀ b, b < n → H' b = H b) ∧ E 1 = .ptr n 0 ∧ E 4 = .int .i64 1 ∧ E 5 = .int .i64 (i : Nat) ∧ i ≤ e.r ∧ ∀ t j, t < i → j < e.w t → ∀ d, d < e.n t j → 0 ≤ e.c t j d ∧ e.c t j d < qo e.p e.m) (fun i => e.r - i) 0 ⟨rfl, h0, ho, by simp -implicitDefEqProofs only [go_sem, Nat.reduceLT, Nat.reduceBEq, Nat.reduceAdd, Nat.reduceEqDiff, Nat.reduceLeDiff, Nat.reduceSub, Nat.reduceMul, e1], by simp -implicitDefEqProofs only [go_sem, Nat.reduceLT, Nat.reduceBEq, Nat.reduceAdd, Nat.reduceEqDiff, Nat.reduceLeDiff, Nat.reduceSub, Nat.reduceMul], rfl, by omega, fun t j ht => by omega⟩ ?_
  clear h0 ho e1 E H'
  rintro i E H' n' ⟨rfl, h0, ho, e1, e4, e5, hi, hel⟩
  simp -implicitDefEqProofs only [go_sem, Nat.reduceLT, Nat.reduceBEq, Nat.reduceAdd, Nat.reduceEqDiff, Nat.reduceLeDiff, Nat.reduceSub, Nat.reduceMul, e1, e5, h0]
  refine c_split (fun hc => ?_) (fun hc => ?_)
  · have hiN : i < e.r := by omega
    have hwiN := h.w i hiN
    simp -implicitDefEqProofs only [go_sem, Nat.reduceLT, Nat.reduceBEq, Nat.reduceAdd, Nat.reduceEqDiff, Nat.reduceLeDiff, Nat.reduceSub, Nat.reduceMul]
    refine loop_rule (fun (j : Nat) E H' n' => n' = n + 1 ∧ H' n = some e.cs ∧ (∀ b, b < n → H' b = H b) ∧ E 1 = .ptr n 0 ∧ E 4 = .int .i64 1 ∧ E 5 = .int .i64 (i : Nat) ∧ E 6 = .int .i64 (j : Nat) ∧ j ≤ e.w i ∧ ∀ u, u < j → ∀ d, d < e.n i u → 0 ≤ e.c i u d ∧ e.c i u d < qo e.p e.m) (fun j => e.w i - j) 0 ⟨rfl, h0, ho, by simp -implicitDefEqProofs only [go_sem, Nat.reduceLT, Nat.reduceBEq, Nat.reduceAdd, Nat.reduceEqDiff, Nat.reduceLeDiff, Nat.reduceSub, Nat.reduceMul, e1], by simp -implicitDefEqProofs only [go_sem, Nat.reduceLT, Nat.reduceBEq, Nat.reduceAdd, Nat.reduceEqDiff, Nat.reduceLeDiff, Nat.reduceSub, Nat.reduceMul, e4], by simp -implicitDefEqProofs only [go_sem, Nat.reduceLT, Nat.reduceBEq, Nat.reduceAdd, Nat.reduceEqDiff, Nat.reduceLeDiff, Nat.reduceSub, Nat.reduceMul, e5], rfl, by omega, fun u hu => by omega⟩ ?_
    clear h0 ho e1 e4 e5 E H'
    rintro j E H' n' ⟨rfl, h0, ho, e1, e4, e5, e6, hj, helj⟩
    simp -implicitDefEqProofs only [go_sem, Nat.reduceLT, Nat.reduceBEq, Nat.reduceAdd, Nat.reduceEqDiff, Nat.reduceLeDiff, Nat.reduceSub, Nat.reduceMul, e1, e5, e6, h0, hc, hiN, gat_tab, e.rw_at]
    refine c_split (fun hc' => ?_) (fun hc' => ?_)
    · have hjN : j < e.w i := by omega
      have hnij := h.n i j hiN hjN
      have hwr := wrap64 (x := (j : Int) + 1) (by omega)
      simp -implicitDefEqProofs only [go_sem, Nat.reduceLT, Nat.reduceBEq, Nat.reduceAdd, Nat.reduceEqDiff, Nat.reduceLeDiff, Nat.reduceSub, Nat.reduceMul, e1, e5, e6, h0, hc, hiN, hc', hjN, gat_tab, e.rw_at, e.pl_at]
      refine call_of (sp_Entries e.p e.m (isl e.l e.mo) rfl (e.n i j) (e.c i j) (by omega)) ?_
      by_cases hx : ∀ d, d < e.n i j → 0 ≤ e.c i j d ∧ e.c i j d < qo e.p e.m
      · rw [if_pos hx]
        simp -implicitDefEqProofs only [go_sem, Nat.reduceLT, Nat.reduceBEq, Nat.reduceAdd, Nat.reduceEqDiff, Nat.reduceLeDiff, Nat.reduceSub, Nat.reduceMul, e6, hwr]
        refine l_n ⟨j + 1, by omega, rfl, h0, ho, by simp -implicitDefEqProofs only [go_sem, Nat.reduceLT, Nat.reduceBEq, Nat.reduceAdd, Nat.reduceEqDiff, Nat.reduceLeDiff, Nat.reduceSub, Nat.reduceMul, e1], by simp -implicitDefEqProofs only [go_sem, Nat.reduceLT, Nat.reduceBEq, Nat.reduceAdd, Nat.reduceEqDiff, Nat.reduceLeDiff, Nat.reduceSub, Nat.reduceMul, e4], by simp -implicitDefEqProofs only [go_sem, Nat.reduceLT, Nat.reduceBEq, Nat.reduceAdd, Nat.reduceEqDiff, Nat.reduceLeDiff, Nat.reduceSub, Nat.reduceMul, e5], by simp -implicitDefEqProofs only [go_sem, Nat.reduceLT, Nat.reduceBEq, Nat.reduceAdd, Nat.reduceEqDiff, Nat.reduceLeDiff, Nat.reduceSub, Nat.reduceMul]; rfl, by omega, fun u hu => ?_⟩
        by_cases et : u = j
        · subst et; exact hx
        · exact helj u (by omega)
      · rw [if_neg hx]
        have h20 : ((2 : Int) = 0) = False := by simp
        simp -implicitDefEqProofs only [go_sem, Nat.reduceLT, Nat.reduceBEq, Nat.reduceAdd, Nat.reduceEqDiff, Nat.reduceLeDiff, Nat.reduceSub, Nat.reduceMul, h20]
        exact fin _ _ _ 2 (by simp -implicitDefEqProofs only [go_sem, Nat.reduceLT, Nat.reduceBEq, Nat.reduceAdd, Nat.reduceEqDiff, Nat.reduceLeDiff, Nat.reduceSub, Nat.reduceMul]) (by rw [Enc.ce, if_pos hA, if_pos hS, if_pos h64, if_neg fun hs => hx (hs i j hiN hjN)]) ho
    · have : j = e.w i := by omega
      subst this
      have hwr := wrap64 (x := (i : Int) + 1) (by omega)
      simp -implicitDefEqProofs only [go_sem, Nat.reduceLT, Nat.reduceBEq, Nat.reduceAdd, Nat.reduceEqDiff, Nat.reduceLeDiff, Nat.reduceSub, Nat.reduceMul, e5, hwr]
      refine l_n ⟨i + 1, by omega, rfl, h0, ho, by simp -implicitDefEqProofs only [go_sem, Nat.reduceLT, Nat.reduceBEq, Nat.reduceAdd, Nat.reduceEqDiff, Nat.reduceLeDiff, Nat.reduceSub, Nat.reduceMul, e1], by simp -implicitDefEqProofs only [go_sem, Nat.reduceLT, Nat.reduceBEq, Nat.reduceAdd, Nat.reduceEqDiff, Nat.reduceLeDiff, Nat.reduceSub, Nat.reduceMul, e4], by simp -implicitDefEqProofs only [go_sem, Nat.reduceLT, Nat.reduceBEq, Nat.reduceAdd, Nat.reduceEqDiff, Nat.reduceLeDiff, Nat.reduceSub, Nat.reduceMul]; rfl, by omega, fun t u ht hu => ?_⟩
      by_cases et : t = i
      · subst et; exact helj u hu
      · exact hel t u (by omega) hu
  have hEl : e.El := fun t j ht hj => hel t j (by omega) hj
  simp -implicitDefEqProofs only [go_sem, Nat.reduceLT, Nat.reduceBEq, Nat.reduceAdd, Nat.reduceEqDiff, Nat.reduceLeDiff, Nat.reduceSub, Nat.reduceMul]
  refine loop_rule (fun (i : Nat) E H' n' => n' = n + 1 ∧ H' n = some e.cs ∧ (∀ b, b < n → H' b = H b) ∧ E 1 = .ptr n 0 ∧ E 4 = .int .i64 (qo e.p e.m ^ e.tot i) ∧ E 7 = .int .i64 (i : Nat) ∧ i ≤ e.r ∧ qo e.p e.m ^ e.tot i ≤ 65536) (fun i => e.r - i) 0 ⟨rfl, h0, ho, by simp -implicitDefEqProofs only [go_sem, Nat.reduceLT, Nat.reduceBEq, Nat.reduceAdd, Nat.reduceEqDiff, Nat.reduceLeDiff, Nat.reduceSub, Nat.reduceMul, e1], by simp -implicitDefEqProofs only [go_sem, Nat.reduceLT, Nat.reduceBEq, Nat.reduceAdd, Nat.reduceEqDiff, Nat.reduceLeDiff, Nat.reduceSub, Nat.reduceMul, e4, Enc.tot, sumn, Int.pow_zero], rfl, by omega, by rw [Enc.tot, sumn, Int.pow_zero]; omega⟩ ?_
  clear h0 ho e1 e4 e5 E H' hi hel hc
  rintro i E H' n' ⟨rfl, h0, ho, e1, e4, e7, hi, hq⟩
  simp -implicitDefEqProofs only [go_sem, Nat.reduceLT, Nat.reduceBEq, Nat.reduceAdd, Nat.reduceEqDiff, Nat.reduceLeDiff, Nat.reduceSub, Nat.reduceMul, e1, e7, h0]
  refine c_split (fun hc => ?_) (fun hc => ?_)
  · have hiN : i < e.r := by omega
    have hdeg := e.deg_le h hiN
    have htot : e.tot (i + 1) = e.tot i + (e.deg i + 1) := rfl
    have hmon := sumn_mono (f := fun i => e.deg i + 1) (i := i + 1) (j := e.r) (by omega)
    have hmon' : e.tot (i + 1) ≤ e.tot e.r := hmon
    simp -implicitDefEqProofs only [go_sem, Nat.reduceLT, Nat.reduceBEq, Nat.reduceAdd, Nat.reduceEqDiff, Nat.reduceLeDiff, Nat.reduceSub, Nat.reduceMul]
    refine loop_rule (fun (d : Nat) E H' n' => n' = n + 1 ∧ H' n = some e.cs ∧ (∀ b, b < n → H' b = H b) ∧ E 1 = .ptr n 0 ∧ E 4 = .int .i64 (qo e.p e.m ^ (e.tot i + d)) ∧ E 7 = .int .i64 (i : Nat) ∧ E 8 = .int .i64 (d : Nat) ∧ d ≤ e.deg i + 1 ∧ qo e.p e.m ^ (e.tot i + d) ≤ 65536) (fun d => e.deg i + 1 - d) 0 ⟨rfl, h0, ho, by simp -implicitDefEqProofs only [go_sem, Nat.reduceLT, Nat.reduceBEq, Nat.reduceAdd, Nat.reduceEqDiff, Nat.reduceLeDiff, Nat.reduceSub, Nat.reduceMul, e1], by simp -implicitDefEqProofs only [go_sem, Nat.reduceLT, Nat.reduceBEq, Nat.reduceAdd, Nat.reduceEqDiff, Nat.reduceLeDiff, Nat.reduceSub, Nat.reduceMul, e4], by simp -implicitDefEqProofs only [go_sem, Nat.reduceLT, Nat.reduceBEq, Nat.reduceAdd, Nat.reduceEqDiff, Nat.reduceLeDiff, Nat.reduceSub, Nat.reduceMul, e7], rfl, by omega, hq⟩ ?_
    clear h0 ho e1 e4 e7 E H' hq
    rintro d E H' n' ⟨rfl, h0, ho, e1, e4, e7, e8, hd, hq⟩
    simp -implicitDefEqProofs only [go_sem, Nat.reduceLT, Nat.reduceBEq, Nat.reduceAdd, Nat.reduceEqDiff, Nat.reduceLeDiff, Nat.reduceSub, Nat.reduceMul, e1, e7, e8, h0]
    refine call_of (sp_ref20_Degree e h i hiN) ?_
    simp -implicitDefEqProofs only [go_sem, Nat.reduceLT, Nat.reduceBEq, Nat.reduceAdd, Nat.reduceEqDiff, Nat.reduceLeDiff, Nat.reduceSub, Nat.reduceMul]
    refine c_split (fun hc' => ?_) (fun hc' => ?_)
    · simp -implicitDefEqProofs only [go_sem, Nat.reduceLT, Nat.reduceBEq, Nat.reduceAdd, Nat.reduceEqDiff, Nat.reduceLeDiff, Nat.reduceSub, Nat.reduceMul, e1, e4, h0]
      refine call_of (sp_ref04_Order e.p e.m _ rfl) ?_
      have hps : qo e.p e.m ^ (e.tot i + (d + 1)) = qo e.p e.m ^ (e.tot i + d) * qo e.p e.m := Int.pow_succ _ _
      have hp0 : 0 < qo e.p e.m ^ (e.tot i + d) := Int.pow_pos (by omega)
      have hp1 : 0 ≤ qo e.p e.m ^ (e.tot i + d) * qo e.p e.m := Int.mul_nonneg (by omega) (by omega)
      have hp2 : qo e.p e.m ^ (e.tot i + d) * qo e.p e.m ≤ 65536 * 256 := Int.mul_le_mul hq q256 (by omega) (by omega)
      have hwm := wrap64 (x := qo e.p e.m ^ (e.tot i + d) * qo e.p e.m) (by omega)
      have hwr := wrap64 (x := (d : Int) + 1) (by omega)
      by_cases hbig : 65536 < qo e.p e.m ^ (e.tot i + d) * qo e.p e.m
      · simp -implicitDefEqProofs only [go_sem, Nat.reduceLT, Nat.reduceBEq, Nat.reduceAdd, Nat.reduceEqDiff, Nat.reduceLeDiff, Nat.reduceSub, Nat.reduceMul, hwm, hbig]
        refine fin _ _ _ 8 (by simp -implicitDefEqProofs only [go_sem, Nat.reduceLT, Nat.reduceBEq, Nat.reduceAdd, Nat.reduceEqDiff, Nat.reduceLeDiff, Nat.reduceSub, Nat.reduceMul]) ?_ ho
        rw [Enc.ce, if_pos hA, if_pos hS, if_pos h64, if_pos hEl, if_neg]
        intro hle
        have := pow_mono (p := qo e.p e.m) (by omega) (i := e.tot i + (d + 1)) (j := e.tot e.r) (by omega)
        omega
      · simp -implicitDefEqProofs only [go_sem, Nat.reduceLT, Nat.reduceBEq, Nat.reduceAdd, Nat.reduceEqDiff, Nat.reduceLeDiff, Nat.reduceSub, Nat.reduceMul, hwm, hbig, e8, hwr]
        exact l_n ⟨d + 1, by omega, rfl, h0, ho, by simp -implicitDefEqProofs only [go_sem, Nat.reduceLT, Nat.reduceBEq, Nat.reduceAdd, Nat.reduceEqDiff, Nat.reduceLeDiff, Nat.reduceSub, Nat.reduceMul, e1], by simp -implicitDefEqProofs only [go_sem, Nat.reduceLT, Nat.reduceBEq, Nat.reduceAdd, Nat.reduceEqDiff, Nat.reduceLeDiff, Nat.reduceSub, Nat.reduceMul, hps], by simp -implicitDefEqProofs only [go_sem, Nat.reduceLT, Nat.reduceBEq, Nat.reduceAdd, Nat.reduceEqDiff, Nat.reduceLeDiff, Nat.reduceSub, Nat.reduceMul, e7], by simp -implicitDefEqProofs only [go_sem, Nat.reduceLT, Nat.reduceBEq, Nat.reduceAdd, Nat.reduceEqDiff, Nat.reduceLeDiff, Nat.reduceSub, Nat.reduceMul]; rfl, by omega, by omega⟩
    · have : d = e.deg i + 1 := by omega
      subst this
      have hwr := wrap64 (x := (i : Int) + 1) (by omega)
      simp -implicitDefEqProofs only [go_sem, Nat.reduceLT, Nat.reduceBEq, Nat.reduceAdd, Nat.reduceEqDiff, Nat.reduceLeDiff, Nat.reduceSub, Nat.reduceMul, e7, hwr]
      exact l_n ⟨i + 1, by omega, rfl, h0, ho, by simp -implicitDefEqProofs only [go_sem, Nat.reduceLT, Nat.reduceBEq, Nat.reduceAdd, Nat.reduceEqDiff, Nat.reduceLeDiff, Nat.reduceSub, Nat.reduceMul, e1], by simp -implicitDefEqProofs only [go_sem, Nat.reduceLT, Nat.reduceBEq, Nat.reduceAdd, Nat.reduceEqDiff, Nat.reduceLeDiff, Nat.reduceSub, Nat.reduceMul, e4, htot], by simp -implicitDefEqProofs only [go_sem, Nat.reduceLT, Nat.reduceBEq, Nat.reduceAdd, Nat.reduceEqDiff, Nat.reduceLeDiff, Nat.reduceSub, Nat.reduceMul]; rfl, by omega, by rw [htot]; exact hq⟩
  · have : i = e.r := by omega
    subst this
    simp -implicitDefEqProofs only [go_sem, Nat.reduceLT, Nat.reduceBEq, Nat.reduceAdd, Nat.reduceEqDiff, Nat.reduceLeDiff, Nat.reduceSub, Nat.reduceMul]
    exact fin _ _ _ 0 (by simp -implicitDefEqProofs only [go_sem, Nat.reduceLT, Nat.reduceBEq, Nat.reduceAdd, Nat.reduceEqDiff, Nat.reduceLeDiff, Nat.reduceSub, Nat.reduceMul]) (by rw [Enc.ce, if_pos hA, if_pos hS, if_pos h64, if_pos hEl, if_pos hq]) ho
end Go.Proofs.Ytdpibcniodhinaa.Gh
/- Slices that grow. -/
namespace Go.Proofs.Ytdpibcniodhinaa.Gh
open Go Go.RowKit
open Alg (CR Ps Dg Zm Mn El Cg sm pw Irr Prm)
set_option linter.unusedVariables false
set_option linter.unusedSimpArgs false

/-- c is the block of this slice -/
def Own (g : GV) (c : Nat) : Prop := ∃ m, g = .own c 0 m
theorem own_nil {c : Nat} : ¬ Own .nil c := fun ⟨m, h⟩ => by cases h
theorem own_own {b m c : Nat} : Own (.own b 0 m) c ↔ c = b := ⟨fun ⟨m, h⟩ => by injection h with h; exact h.symm, fun h => ⟨m, by rw [h]⟩⟩
/-- a slice of m entries that grows: nil, or a block of its own -/
def Sl (H : Heap) (lo n : Nat) (g : GV) (m : Nat) (f : Nat → GV) : Prop := (m = 0 ∧ g = .nil) ∨ ∃ b, lo ≤ b ∧ b < n ∧ g = .own b 0 m ∧ H b = some (tab m f)
section
variable {H H' : Heap} {lo n n' m bytes : Nat} {g : GV} {f f' : Nat → GV}
theorem Sl.nil : Sl H lo n .nil 0 f := .inl ⟨rfl, rfl⟩
theorem Sl.cell (h : Sl H lo n g m f) : isCell g = true := by
  rcases h with ⟨_, rfl⟩ | ⟨b, _, _, rfl, _⟩ <;> rfl
theorem Sl.len (h : Sl H lo n g m f) : hlen g = some (.int .i64 (m : Nat)) := by
  rcases h with ⟨rfl, rfl⟩ | ⟨b, _, _, rfl, _⟩ <;> rfl
theorem Sl.lt (h : Sl H lo n g m f) {c : Nat} (hc : Own g c) : lo ≤ c ∧ c < n := by
  rcases h with ⟨_, rfl⟩ | ⟨b, h1, h2, rfl, _⟩
  · exact absurd hc own_nil
  · rw [own_own] at hc; subst hc; exact ⟨h1, h2⟩
theorem Sl.keep (h : Sl H lo n g m f) (hk : ∀ c, Own g c → H' c = H c) (hn : n ≤ n') : Sl H' lo n' g m f := by
  rcases h with h | ⟨b, h1, h2, h3, h4⟩
  · exact .inl h
  · exact .inr ⟨b, h1, by omega, h3, by rw [hk b (h3 ▸ own_own.2 rfl), h4]⟩
theorem Sl.congr (h : Sl H lo n g m f) (hf : ∀ i, i < m → f i = f' i) : Sl H lo n g m f' := by
  rcases h with h | ⟨b, h1, h2, h3, h4⟩
  · exact .inl h
  · exact .inr ⟨b, h1, h2, h3, by rw [h4, tab_congr hf]⟩
theorem Sl.own (h : Sl H lo n g m f) (hm : 0 < m) : ∃ b, lo ≤ b ∧ b < n ∧ g = .own b 0 m ∧ H b = some (tab m f) := by
  rcases h with ⟨h, _⟩ | h
  · omega
  · exact h
/-- one entry more -/
theorem app_one {q : Kn} {x : GV} (hs : Sl H lo n g m f) (hx : x = f m) (hc : isCell x = true) (hb : (m + 1) * bytes ≤ 140737488355328)
    (hK : ∀ H'' : Heap, H'' n = some (tab (m + 1) f) → (∀ c, c ≠ n → ¬ Own g c → H'' c = H c) → q (.own n 0 (m + 1)) H'' (n + 1)) : happ q H n bytes g (some [x]) := by
  rcases hs with ⟨rfl, rfl⟩ | ⟨b, h1, h2, rfl, h4⟩
  · rw [e_app_nil]
    refine ⟨hb, ?_⟩
    refine hK _ ?_ fun c hc _ => upd_ne _ _ hc
    rw [upd_same, hx]; rfl
  · rw [e_app_own, h4, e_appo]
    refine ⟨tab_len, by simp [hc], hb, ?_⟩
    refine hK _ ?_ fun c hc hn => ?_
    · rw [upd_same, hx, tab_succ]
    · rw [upd_ne _ _ hc, upd_ne _ _ fun e => hn (own_own.2 e)]
end
end Go.Proofs.Ytdpibcniodhinaa.Gh
/- The ghost code of some functions. -/
namespace Go.Proofs.Ytdpibcniodhinaa.Gh
open Go Go.RowKit
def B_conv_Free : GCode :=
  (.seq (.region [⟨(some 1), .box (.t 0), none⟩,
    ⟨(some 2), .alloc [.int .i64 0, .nil, .nil], none⟩,
    ⟨(some 3), .mov (.c (.int .i64 0)), none⟩])
  (.seq (.region [⟨(some 18), .load (some 4) (.t 1), none⟩,
    ⟨(some 19), .call fid_conv_build [(.t 18)], none⟩,
    ⟨(some 17), .mov (.t 19), none⟩,
    ⟨(some 20), .extract 0 (.t 17), none⟩,
    ⟨(some 21), .extract 1 (.t 17), none⟩,
    ⟨(some 4), .mov (.t 20), none⟩,
    ⟨(some 5), .mov (.t 21), none⟩])
  (.seq (.seq (.region [⟨(some 22), .mov (.t 5), none⟩,
    ⟨(some 23), .bin .neq (.t 22) (.c (.int .i64 0)), none⟩])
  (.cond (.t 23)
  (.seq (.region [⟨(some 24), .build [.int .i64 0, .nil, .nil] [], none⟩,
    ⟨(some 25), .mov (.t 5), none⟩,
    ⟨none, .store 3 (.t 2) (.t 24), none⟩,
    ⟨(some 3), .mov (.t 25), none⟩])
  .ret)
  .skip))
  (.seq (.region [⟨(some 26), .mov (.t 4), none⟩,
    ⟨(some 27), .call fid_conv_machine_edges [(.t 26)], none⟩,
    ⟨(some 6), .alloc [.int .i64 0, .nil, .nil], none⟩,
    ⟨none, .store 3 (.t 6) (.t 27), none⟩])
  (.seq (.region [⟨(some 28), .mov (.t 4), none⟩,
    ⟨(some 29), .nilCheck (.t 28), none⟩,
    ⟨(some 30), .fieldAddr 7 (.t 29), none⟩,
    ⟨(some 31), .load none (.t 30), none⟩,
    ⟨(some 32), .mslice (.int .i64 0) 8 (.t 31) (.t 31), none⟩,
    ⟨(some 33), .build [.int .i64 0, .nil, .nil] [(2, 1, (.t 32))], none⟩,
    ⟨(some 7), .alloc [.int .i64 0, .nil, .nil], none⟩,
    ⟨none, .store 3 (.t 7) (.t 33), none⟩])
  (.seq (.region [⟨(some 34), .mov (.t 4), none⟩,
    ⟨(some 35), .nilCheck (.t 34), none⟩,
    ⟨(some 36), .fieldAddr 7 (.t 35), none⟩,
    ⟨(some 37), .load none (.t 36), none⟩,
    ⟨(some 38), .mslice (.int .i64 0) 8 (.t 37) (.t 37), none⟩,
    ⟨(some 8), .mov (.t 38), none⟩])
  (.seq (.seq (.region [⟨(some 9), .mov (.c (.int .i64 1)), none⟩])
  (.block 0 (.loop (.seq (.seq (.region [⟨(some 39), .mov (.t 9), none⟩,
    ⟨(some 40), .mov (.t 4), none⟩,
    ⟨(some 41), .nilCheck (.t 40), none⟩,
    ⟨(some 42), .fieldAddr 7 (.t 41), none⟩,
    ⟨(some 43), .load none (.t 42), none⟩,
    ⟨(some 44), .bin .lss (.t 39) (.t 43), none⟩])
  (.cond (.t 44)
  .skip
  (.exit 0)))
  (.seq (.block 1 (.region [⟨(some 47), .fieldAddr 2 (.t 7), none⟩,
    ⟨(some 48), .load none (.t 47), none⟩,
    ⟨(some 49), .mov (.t 9), none⟩,
    ⟨(some 50), .indexAddr 1 (.t 48) (.t 49), none⟩,
    ⟨none, .store 1 (.t 50) (.c (.int .i64 2147483648)), none⟩]))
  (.region [⟨(some 45), .mov (.t 9), none⟩,
    ⟨(some 46), .bin .add (.t 45) (.c (.int .i64 1)), none⟩,
    ⟨(some 9), .mov (.t 46), none⟩]))))))
  (.seq (.seq (.region [⟨(some 10), .mov (.c (.bool true)), none⟩])
  (.block 2 (.loop (.seq (.seq (.region [⟨(some 51), .mov (.t 10), none⟩])
  (.cond (.t 51)
  .skip
  (.exit 2)))
  (.block 3 (.seq (.region [⟨(some 10), .mov (.c (.bool false)), none⟩])
  (.seq (.region [⟨(some 11), .mov (.c (.int .i64 1)), none⟩])
  (.block 4 (.loop (.seq (.seq (.region [⟨(some 52), .mov (.t 11), none⟩,
    ⟨(some 53), .mov (.t 4), none⟩,
    ⟨(some 54), .nilCheck (.t 53), none⟩,
    ⟨(some 55), .fieldAddr 7 (.t 54), none⟩,
    ⟨(some 56), .load none (.t 55), none⟩,
    ⟨(some 57), .bin .lss (.t 52) (.t 56), none⟩])
  (.cond (.t 57)
  .skip
  (.exit 4)))
  (.seq (.block 5 (.seq (.region [⟨(some 60), .fieldAddr 0 (.t 6), none⟩,
    ⟨(some 61), .load none (.t 60), none⟩,
    ⟨(some 62), .mov (.c (.int .i64 0)), none⟩])
  (.block 6 (.loop (.seq (.region [⟨(some 63), .bin .lss (.t 62) (.t 61), none⟩])
  (.seq (.cond (.t 63)
  .skip
  (.exit 6))
  (.seq (.block 7 (.seq (.region [⟨(some 64), .mov (.t 62), none⟩,
    ⟨(some 12), .mov (.t 64), none⟩])
  (.seq (.region [⟨(some 65), .mov (.t 11), none⟩,
    ⟨(some 66), .fieldAddr 0 (.t 6), none⟩,
    ⟨(some 67), .load none (.t 66), none⟩,
    ⟨(some 68), .bin .mul (.t 65) (.t 67), none⟩,
    ⟨(some 69), .mov (.t 12), none⟩,
    ⟨(some 70), .bin .add (.t 68) (.t 69), none⟩,
    ⟨(some 13), .mov (.t 70), none⟩])
  (.seq (.draw [0, 1, 0, 7, 15, 0, 32, 0, 128, 0, 896, 1920, 4064, 8160, 16383, 32767]
    [⟨(some 71), .fieldAddr 2 (.t 6), none⟩,
    ⟨(some 72), .load none (.t 71), none⟩,
    ⟨(some 73), .mov (.t 13), none⟩,
    ⟨(some 74), .indexAddr 1 (.t 72) (.t 73), none⟩,
    ⟨(some 75), .load none (.t 74), none⟩,
    ⟨(some 76), .fieldAddr 2 (.t 7), none⟩,
    ⟨(some 77), .load none (.t 76), none⟩,
    ⟨(some 78), .fieldAddr 1 (.t 6), none⟩,
    ⟨(some 79), .load none (.t 78), none⟩,
    ⟨(some 80), .mov (.t 13), none⟩,
    ⟨(some 81), .indexAddr 1 (.t 79) (.t 80), none⟩,
    ⟨(some 82), .load none (.t 81), none⟩,
    ⟨(some 83), .indexAddr 1 (.t 77) (.t 82), none⟩,
    ⟨(some 84), .load none (.t 83), none⟩]
    [⟨(some 85), .bin .add (.t 75) (.t 84), none⟩,
    ⟨(some 14), .mov (.t 85), none⟩])
  (.seq (.region [⟨(some 86), .mov (.t 14), none⟩,
    ⟨(some 87), .fieldAddr 2 (.t 7), none⟩,
    ⟨(some 88), .load none (.t 87), none⟩,
    ⟨(some 89), .mov (.t 11), none⟩,
    ⟨(some 90), .indexAddr 1 (.t 88) (.t 89), none⟩,
    ⟨(some 91), .load none (.t 90), none⟩,
    ⟨(some 92), .bin .lss (.t 86) (.t 91), none⟩])
  (.cond (.t 92)
  (.region [⟨(some 93), .fieldAddr 2 (.t 7), none⟩,
    ⟨(some 94), .load none (.t 93), none⟩,
    ⟨(some 95), .mov (.t 11), none⟩,
    ⟨(some 96), .mov (.t 8), none⟩,
    ⟨(some 97), .mov (.t 11), none⟩,
    ⟨(some 98), .mov (.t 14), none⟩,
    ⟨(some 99), .mov (.t 12), none⟩,
    ⟨(some 100), .indexAddr 1 (.t 94) (.t 95), none⟩,
    ⟨none, .store 1 (.t 100) (.t 98), none⟩,
    ⟨(some 101), .indexAddr 1 (.t 96) (.t 97), none⟩,
    ⟨none, .store 1 (.t 101) (.t 99), none⟩,
    ⟨(some 10), .mov (.c (.bool true)), none⟩])
  .skip))))))
  (.region [⟨(some 102), .bin .add (.t 62) (.c (.int .i64 1)), none⟩,
    ⟨(some 62), .mov (.t 102), none⟩]))))))))
  (.region [⟨(some 58), .mov (.t 11), none⟩,
    ⟨(some 59), .bin .add (.t 58) (.c (.int .i64 1)), none⟩,
    ⟨(some 11), .mov (.t 59), none⟩]))))))))))))
  (.seq (.region [⟨(some 103), .fieldAddr 0 (.t 7), none⟩,
    ⟨none, .store 1 (.t 103) (.c (.int .i64 4294967296)), none⟩])
  (.seq (.seq (.region [⟨(some 15), .mov (.c (.int .i64 1)), none⟩])
  (.block 8 (.loop (.seq (.seq (.region [⟨(some 104), .mov (.t 15), none⟩,
    ⟨(some 105), .fieldAddr 0 (.t 6), none⟩,
    ⟨(some 106), .load none (.t 105), none⟩,
    ⟨(some 107), .bin .lss (.t 104) (.t 106), none⟩])
  (.cond (.t 107)
  .skip
  (.exit 8)))
  (.seq (.block 9 (.seq (.draw [0, 1, 0, 7, 15, 0, 32, 0, 128, 0, 896, 1920, 4064, 8160, 16383, 32767]
    [⟨(some 110), .fieldAddr 2 (.t 6), none⟩,
    ⟨(some 111), .load none (.t 110), none⟩,
    ⟨(some 112), .mov (.t 15), none⟩,
    ⟨(some 113), .indexAddr 1 (.t 111) (.t 112), none⟩,
    ⟨(some 114), .load none (.t 113), none⟩,
    ⟨(some 115), .fieldAddr 2 (.t 7), none⟩,
    ⟨(some 116), .load none (.t 115), none⟩,
    ⟨(some 117), .fieldAddr 1 (.t 6), none⟩,
    ⟨(some 118), .load none (.t 117), none⟩,
    ⟨(some 119), .mov (.t 15), none⟩,
    ⟨(some 120), .indexAddr 1 (.t 118) (.t 119), none⟩,
    ⟨(some 121), .load none (.t 120), none⟩,
    ⟨(some 122), .indexAddr 1 (.t 116) (.t 121), none⟩,
    ⟨(some 123), .load none (.t 122), none⟩]
    [⟨(some 124), .bin .add (.t 114) (.t 123), none⟩,
    ⟨(some 16), .mov (.t 124), none⟩])
  (.seq (.region [⟨(some 125), .mov (.t 16), none⟩,
    ⟨(some 126), .fieldAddr 0 (.t 7), none⟩,
    ⟨(some 127), .load none (.t 126), none⟩,
    ⟨(some 128), .bin .lss (.t 125) (.t 127), none⟩])
  (.cond (.t 128)
  (.region [⟨(some 129), .mov (.t 8), none⟩,
    ⟨(some 130), .mov (.t 16), none⟩,
    ⟨(some 131), .mov (.t 15), none⟩,
    ⟨(some 132), .fieldAddr 0 (.t 7), none⟩,
    ⟨none, .store 1 (.t 132) (.t 130), none⟩,
    ⟨(some 133), .indexAddr 1 (.t 129) (.c (.int .i64 0)), none⟩,
    ⟨none, .store 1 (.t 133) (.t 131), none⟩])
  .skip))))
  (.region [⟨(some 108), .mov (.t 15), none⟩,
    ⟨(some 109), .bin .add (.t 108) (.c (.int .i64 1)), none⟩,
    ⟨(some 15), .mov (.t 109), none⟩]))))))
  (.seq (.region [⟨(some 134), .mov (.t 4), none⟩,
    ⟨(some 135), .load (some 3) (.t 6), none⟩,
    ⟨(some 136), .mov (.t 8), none⟩,
    ⟨(some 137), .call fid_conv_machine_path [(.t 134), (.t 135), (.t 136)], none⟩,
    ⟨(some 138), .fieldAddr 1 (.t 7), none⟩,
    ⟨none, .store 1 (.t 138) (.t 137), none⟩])
  (.seq (.region [⟨(some 139), .load (some 3) (.t 7), none⟩,
    ⟨none, .store 3 (.t 2) (.t 139), none⟩,
    ⟨(some 3), .mov (.c (.int .i64 0)), none⟩])
  .ret))))))))))))
def F_conv_Free : GFun := ⟨1, 140, B_conv_Free, [.cell 2 (some 3), .t 3]⟩
theorem ok_conv_Free : okFun Go.Proofs.Try.prog fid_conv_Free F_conv_Free = true := by kernel_rfl
def B_conv_build : GCode :=
  (.seq (.region [⟨(some 1), .box (.t 0), none⟩,
    ⟨(some 2), .mov (.c (.nilp)), none⟩,
    ⟨(some 3), .mov (.c (.int .i64 0)), none⟩])
  (.seq (.region [⟨(some 24), .fieldAddr 0 (.t 1), none⟩,
    ⟨(some 25), .load (some 3) (.t 24), none⟩,
    ⟨(some 26), .call fid_field_New [(.t 25)], none⟩,
    ⟨(some 23), .mov (.t 26), none⟩,
    ⟨(some 27), .extract 0 (.t 23), none⟩,
    ⟨(some 28), .extract 1 (.t 23), none⟩,
    ⟨(some 4), .mov (.t 27), none⟩,
    ⟨(some 5), .mov (.t 28), none⟩])
  (.seq (.seq (.region [⟨(some 29), .mov (.t 5), none⟩,
    ⟨(some 30), .bin .neq (.t 29) (.c (.int .i64 0)), none⟩])
  (.cond (.t 30)
  (.seq (.region [⟨(some 31), .mov (.t 5), none⟩,
    ⟨(some 2), .mov (.c (.nilp)), none⟩,
    ⟨(some 3), .mov (.t 31), none⟩])
  .ret)
  .skip))
  (.seq (.seq (.draw [0, 1, 3, 7, 15, 31, 63, 127, 255, 511, 1023, 2047, 4095, 8191, 16383, 32767, 8191, 73727, 204799, 466943, 991231, 2097151, 4194303]
    [⟨(some 32), .fieldAddr 3 (.t 1), none⟩,
    ⟨(some 33), .load none (.t 32), none⟩,
    ⟨(some 34), .len (.t 33), none⟩,
    ⟨(some 35), .bin .eql (.t 34) (.c (.int .i64 0)), none⟩,
    ⟨(some 36), .mov (.t 35), none⟩,
    ⟨(some 37), .fieldAddr 3 (.t 1), (some (36, false))⟩,
    ⟨(some 38), .load none (.t 37), (some (36, false))⟩,
    ⟨(some 39), .indexAddr 1 (.t 38) (.c (.int .i64 0)), (some (36, false))⟩,
    ⟨(some 40), .load none (.t 39), (some (36, false))⟩,
    ⟨(some 41), .len (.t 40), (some (36, false))⟩,
    ⟨(some 42), .bin .eql (.t 41) (.c (.int .i64 0)), (some (36, false))⟩,
    ⟨(some 43), .pick (.t 36) (.c (.bool true)) (.t 42), none⟩,
    ⟨(some 44), .mov (.t 43), none⟩,
    ⟨(some 45), .fieldAddr 3 (.t 1), (some (44, false))⟩,
    ⟨(some 46), .load none (.t 45), (some (44, false))⟩,
    ⟨(some 47), .len (.t 46), (some (44, false))⟩,
    ⟨(some 48), .fieldAddr 3 (.t 1), (some (44, false))⟩,
    ⟨(some 49), .load none (.t 48), (some (44, false))⟩,
    ⟨(some 50), .indexAddr 1 (.t 49) (.c (.int .i64 0)), (some (44, false))⟩,
    ⟨(some 51), .load none (.t 50), (some (44, false))⟩,
    ⟨(some 52), .len (.t 51), (some (44, false))⟩]
    [⟨(some 53), .bin .gtr (.t 47) (.t 52), (some (44, false))⟩,
    ⟨(some 54), .pick (.t 44) (.c (.bool true)) (.t 53), none⟩])
  (.cond (.t 54)
  (.seq (.region [⟨(some 2), .mov (.c (.nilp)), none⟩,
    ⟨(some 3), .mov (.c (.int .i64 3)), none⟩])
  .ret)
  .skip))
  (.seq (.draw [0, 0, 2, 6, 0, 16, 48, 112, 240, 0, 512, 2047, 4095, 8191]
    [⟨(some 55), .mov (.t 4), none⟩,
    ⟨(some 56), .fieldAddr 3 (.t 1), none⟩,
    ⟨(some 57), .load none (.t 56), none⟩,
    ⟨(some 58), .len (.t 57), none⟩,
    ⟨(some 59), .fieldAddr 3 (.t 1), none⟩,
    ⟨(some 60), .load none (.t 59), none⟩,
    ⟨(some 61), .indexAddr 1 (.t 60) (.c (.int .i64 0)), none⟩,
    ⟨(some 62), .load none (.t 61), none⟩,
    ⟨(some 63), .len (.t 62), none⟩,
    ⟨(some 64), .mov (.t 4), none⟩,
    ⟨(some 65), .call fid_field_GF_Order [(.t 64)], none⟩]
    [⟨(some 66), .build [.nilp, .nil, .int .i64 0, .int .i64 0, .nil, .int .i64 0, .int .i64 0, .int .i64 0, .nil] [(0, 1, (.t 55)), (2, 1, (.t 58)), (3, 1, (.t 63)), (6, 1, (.t 65)), (7, 1, (.c (.int .i64 1)))], none⟩,
    ⟨(some 67), .box (.t 66), none⟩,
    ⟨(some 6), .mov (.t 67), none⟩])
  (.seq (.seq (.region [⟨(some 68), .fieldAddr 3 (.t 1), none⟩,
    ⟨(some 69), .load none (.t 68), none⟩,
    ⟨(some 70), .len (.t 69), none⟩,
    ⟨(some 71), .mov (.c (.int .i64 0)), none⟩])
  (.block 0 (.loop (.seq (.region [⟨(some 72), .bin .lss (.t 71) (.t 70), none⟩])
  (.seq (.cond (.t 72)
  .skip
  (.exit 0))
  (.seq (.block 1 (.seq (.region [⟨(some 73), .indexAddr 1 (.t 69) (.t 71), none⟩,
    ⟨(some 74), .load none (.t 73), none⟩,
    ⟨(some 8), .mov (.t 74), none⟩])
  (.seq (.region [⟨(some 75), .mov (.t 8), none⟩,
    ⟨(some 76), .len (.t 75), none⟩,
    ⟨(some 77), .mov (.t 6), none⟩,
    ⟨(some 78), .nilCheck (.t 77), none⟩,
    ⟨(some 79), .fieldAddr 3 (.t 78), none⟩,
    ⟨(some 80), .load none (.t 79), none⟩,
    ⟨(some 81), .bin .neq (.t 76) (.t 80), none⟩])
  (.cond (.t 81)
  (.seq (.region [⟨(some 2), .mov (.c (.nilp)), none⟩,
    ⟨(some 3), .mov (.c (.int .i64 3)), none⟩])
  .ret)
  .skip))))
  (.region [⟨(some 82), .bin .add (.t 71) (.c (.int .i64 1)), none⟩,
    ⟨(some 71), .mov (.t 82), none⟩])))))))
  (.seq (.seq (.region [⟨(some 83), .mov (.t 6), none⟩,
    ⟨(some 84), .nilCheck (.t 83), none⟩,
    ⟨(some 85), .fieldAddr 3 (.t 84), none⟩,
    ⟨(some 86), .load none (.t 85), none⟩,
    ⟨(some 87), .bin .gtr (.t 86) (.c (.int .i64 64)), none⟩])
  (.cond (.t 87)
  (.seq (.region [⟨(some 2), .mov (.c (.nilp)), none⟩,
    ⟨(some 3), .mov (.c (.int .i64 4)), none⟩])
  .ret)
  .skip))
  (.seq (.region [⟨(some 88), .mov (.t 6), none⟩,
    ⟨(some 89), .nilCheck (.t 88), none⟩,
    ⟨(some 90), .fieldAddr 2 (.t 89), none⟩,
    ⟨(some 91), .load none (.t 90), none⟩,
    ⟨(some 9), .mov (.t 91), none⟩])
  (.seq (.seq (.region [⟨(some 92), .fieldAddr 3 (.t 1), none⟩,
    ⟨(some 93), .load none (.t 92), none⟩,
    ⟨(some 94), .len (.t 93), none⟩,
    ⟨(some 95), .mov (.c (.int .i64 0)), none⟩])
  (.block 2 (.loop (.seq (.region [⟨(some 96), .bin .lss (.t 95) (.t 94), none⟩])
  (.seq (.cond (.t 96)
  .skip
  (.exit 2))
  (.seq (.block 3 (.seq (.region [⟨(some 97), .indexAddr 1 (.t 93) (.t 95), none⟩,
    ⟨(some 98), .load none (.t 97), none⟩,
    ⟨(some 11), .mov (.t 98), none⟩])
  (.seq (.region [⟨(some 12), .mov (.c (.int .i64 0)), none⟩])
  (.seq (.region [⟨(some 13), .mov (.c (.nil)), none⟩])
  (.seq (.seq (.region [⟨(some 99), .mov (.t 11), none⟩,
    ⟨(some 100), .len (.t 99), none⟩,
    ⟨(some 101), .mov (.c (.int .i64 0)), none⟩])
  (.block 4 (.loop (.seq (.region [⟨(some 102), .bin .lss (.t 101) (.t 100), none⟩])
  (.seq (.cond (.t 102)
  .skip
  (.exit 4))
  (.seq (.block 5 (.seq (.region [⟨(some 103), .indexAddr 1 (.t 99) (.t 101), none⟩,
    ⟨(some 104), .load none (.t 103), none⟩,
    ⟨(some 15), .mov (.t 104), none⟩])
  (.seq (.seq (.region [⟨(some 105), .mov (.t 15), none⟩,
    ⟨(some 106), .len (.t 105), none⟩,
    ⟨(some 107), .mov (.c (.int .i64 0)), none⟩])
  (.block 6 (.loop (.seq (.region [⟨(some 108), .bin .lss (.t 107) (.t 106), none⟩])
  (.seq (.cond (.t 108)
  .skip
  (.exit 6))
  (.seq (.block 7 (.seq (.region [⟨(some 109), .indexAddr 1 (.t 105) (.t 107), none⟩,
    ⟨(some 110), .load none (.t 109), none⟩,
    ⟨(some 17), .mov (.t 110), none⟩])
  (.seq (.region [⟨(some 111), .mov (.t 4), none⟩,
    ⟨(some 112), .mov (.t 17), none⟩,
    ⟨(some 113), .call fid_field_GF_Is [(.t 111), (.t 112)], none⟩,
    ⟨(some 114), .un .not (.t 113), none⟩])
  (.cond (.t 114)
  (.seq (.region [⟨(some 2), .mov (.c (.nilp)), none⟩,
    ⟨(some 3), .mov (.c (.int .i64 2)), none⟩])
  .ret)
  .skip))))
  (.region [⟨(some 115), .bin .add (.t 107) (.c (.int .i64 1)), none⟩,
    ⟨(some 107), .mov (.t 115), none⟩])))))))
  (.seq (.region [⟨(some 116), .mov (.t 4), none⟩,
    ⟨(some 117), .mov (.t 15), none⟩,
    ⟨(some 118), .call fid_poly_Canon [(.t 116), (.t 117)], none⟩,
    ⟨(some 18), .mov (.t 118), none⟩])
  (.seq (.region [⟨(some 119), .mov (.t 13), none⟩,
    ⟨(some 120), .mov (.t 18), none⟩,
    ⟨(some 121), .bslice 1 [.nil] [(0, 1, (.t 120))], none⟩,
    ⟨(some 122), .append 24 (.t 119) (.t 121), none⟩,
    ⟨(some 13), .mov (.t 122), none⟩])
  (.region [⟨(some 123), .mov (.t 12), none⟩,
    ⟨(some 124), .mov (.t 18), none⟩,
    ⟨(some 125), .len (.t 124), none⟩,
    ⟨(some 126), .bin .sub (.t 125) (.c (.int .i64 1)), none⟩,
    ⟨(some 127), .mm true (.t 123) (.t 126), none⟩,
    ⟨(some 12), .mov (.t 127), none⟩]))))))
  (.region [⟨(some 128), .bin .add (.t 101) (.c (.int .i64 1)), none⟩,
    ⟨(some 101), .mov (.t 128), none⟩])))))))
  (.seq (.region [⟨(some 129), .mov (.t 6), none⟩,
    ⟨(some 130), .mov (.t 6), none⟩,
    ⟨(some 131), .nilCheck (.t 130), none⟩,
    ⟨(some 132), .fieldAddr 1 (.t 131), none⟩,
    ⟨(some 133), .load none (.t 132), none⟩,
    ⟨(some 134), .mov (.t 13), none⟩,
    ⟨(some 135), .bslice 1 [.nil] [(0, 1, (.t 134))], none⟩,
    ⟨(some 136), .append 24 (.t 133) (.t 135), none⟩,
    ⟨(some 137), .nilCheck (.t 129), none⟩,
    ⟨(some 138), .fieldAddr 1 (.t 137), none⟩,
    ⟨none, .store 1 (.t 138) (.t 136), none⟩])
  (.seq (.region [⟨(some 139), .mov (.t 6), none⟩,
    ⟨(some 140), .mov (.t 6), none⟩,
    ⟨(some 141), .nilCheck (.t 140), none⟩,
    ⟨(some 142), .fieldAddr 4 (.t 141), none⟩,
    ⟨(some 143), .load none (.t 142), none⟩,
    ⟨(some 144), .mov (.t 12), none⟩,
    ⟨(some 145), .bslice 1 [.int .i64 0] [(0, 1, (.t 144))], none⟩,
    ⟨(some 146), .append 8 (.t 143) (.t 145), none⟩,
    ⟨(some 147), .nilCheck (.t 139), none⟩,
    ⟨(some 148), .fieldAddr 4 (.t 147), none⟩,
    ⟨none, .store 1 (.t 148) (.t 146), none⟩])
  (.seq (.region [⟨(some 149), .mov (.t 6), none⟩,
    ⟨(some 150), .mov (.t 6), none⟩,
    ⟨(some 151), .nilCheck (.t 150), none⟩,
    ⟨(some 152), .fieldAddr 5 (.t 151), none⟩,
    ⟨(some 153), .load none (.t 152), none⟩,
    ⟨(some 154), .mov (.t 12), none⟩,
    ⟨(some 155), .mm true (.t 153) (.t 154), none⟩,
    ⟨(some 156), .nilCheck (.t 149), none⟩,
    ⟨(some 157), .fieldAddr 5 (.t 156), none⟩,
    ⟨none, .store 1 (.t 157) (.t 155), none⟩])
  (.region [⟨(some 158), .mov (.t 9), none⟩,
    ⟨(some 159), .mov (.t 12), none⟩,
    ⟨(some 160), .bin .add (.t 158) (.t 159), none⟩,
    ⟨(some 9), .mov (.t 160), none⟩])))))))))
  (.region [⟨(some 161), .bin .add (.t 95) (.c (.int .i64 1)), none⟩,
    ⟨(some 95), .mov (.t 161), none⟩])))))))
  (.seq (.seq (.region [⟨(some 163), .mov (.t 6), none⟩,
    ⟨(some 164), .nilCheck (.t 163), none⟩,
    ⟨(some 165), .fieldAddr 6 (.t 164), none⟩,
    ⟨(some 166), .load none (.t 165), none⟩,
    ⟨(some 167), .mov (.t 9), none⟩,
    ⟨(some 168), .call fid_number_Exp [(.t 166), (.t 167), (.c (.int .i64 65536))], none⟩,
    ⟨(some 162), .mov (.t 168), none⟩,
    ⟨(some 169), .extract 0 (.t 162), none⟩,
    ⟨(some 170), .extract 1 (.t 162), none⟩,
    ⟨(some 19), .mov (.t 169), none⟩,
    ⟨(some 20), .mov (.t 170), none⟩])
  (.seq (.region [⟨(some 171), .mov (.t 20), none⟩,
    ⟨(some 172), .bin .neq (.t 171) (.c (.int .i64 0)), none⟩])
  (.cond (.t 172)
  (.seq (.region [⟨(some 2), .mov (.c (.nilp)), none⟩,
    ⟨(some 3), .mov (.c (.int .i64 8)), none⟩])
  .ret)
  .skip)))
  (.seq (.seq (.region [⟨(some 173), .mov (.t 6), none⟩,
    ⟨(some 174), .nilCheck (.t 173), none⟩,
    ⟨(some 175), .fieldAddr 4 (.t 174), none⟩,
    ⟨(some 176), .load none (.t 175), none⟩,
    ⟨(some 177), .len (.t 176), none⟩,
    ⟨(some 178), .mov (.c (.int .i64 0)), none⟩])
  (.block 8 (.loop (.seq (.region [⟨(some 179), .bin .lss (.t 178) (.t 177), none⟩])
  (.seq (.cond (.t 179)
  .skip
  (.exit 8))
  (.seq (.block 9 (.seq (.region [⟨(some 180), .indexAddr 1 (.t 176) (.t 178), none⟩,
    ⟨(some 181), .load none (.t 180), none⟩,
    ⟨(some 22), .mov (.t 181), none⟩])
  (.seq (.draw [0, 0, 2, 6, 14, 0, 32, 96, 224, 480, 1022, 2047, 4095, 8191]
    [⟨(some 182), .mov (.t 6), none⟩,
    ⟨(some 183), .mov (.t 6), none⟩,
    ⟨(some 184), .nilCheck (.t 183), none⟩,
    ⟨(some 185), .fieldAddr 8 (.t 184), none⟩,
    ⟨(some 186), .load none (.t 185), none⟩,
    ⟨(some 187), .mov (.t 6), none⟩,
    ⟨(some 188), .nilCheck (.t 187), none⟩,
    ⟨(some 189), .fieldAddr 7 (.t 188), none⟩,
    ⟨(some 190), .load none (.t 189), none⟩,
    ⟨(some 191), .blit [.int .i64 0] [(0, 1, (.t 190))], none⟩]
    [⟨(some 192), .append 8 (.t 186) (.t 191), none⟩,
    ⟨(some 193), .nilCheck (.t 182), none⟩,
    ⟨(some 194), .fieldAddr 8 (.t 193), none⟩,
    ⟨none, .store 1 (.t 194) (.t 192), none⟩])
  (.seq (.region [⟨(some 195), .mov (.t 22), none⟩,
    ⟨(some 196), .mov (.c (.int .i64 0)), none⟩])
  (.block 10 (.loop (.seq (.region [⟨(some 197), .bin .lss (.t 196) (.t 195), none⟩])
  (.seq (.cond (.t 197)
  .skip
  (.exit 10))
  (.seq (.block 11 (.draw [0, 1, 3, 7, 0, 16, 48, 112, 255, 511, 1023, 2047]
    [⟨(some 198), .mov (.t 6), none⟩,
    ⟨(some 199), .nilCheck (.t 198), none⟩,
    ⟨(some 200), .fieldAddr 7 (.t 199), none⟩,
    ⟨(some 201), .load none (.t 200), none⟩,
    ⟨(some 202), .mov (.t 6), none⟩,
    ⟨(some 203), .nilCheck (.t 202), none⟩,
    ⟨(some 204), .fieldAddr 6 (.t 203), none⟩,
    ⟨(some 205), .load none (.t 204), none⟩]
    [⟨(some 206), .bin .mul (.t 201) (.t 205), none⟩,
    ⟨(some 207), .nilCheck (.t 198), none⟩,
    ⟨(some 208), .fieldAddr 7 (.t 207), none⟩,
    ⟨none, .store 1 (.t 208) (.t 206), none⟩]))
  (.region [⟨(some 209), .bin .add (.t 196) (.c (.int .i64 1)), none⟩,
    ⟨(some 196), .mov (.t 209), none⟩]))))))))))
  (.region [⟨(some 210), .bin .add (.t 178) (.c (.int .i64 1)), none⟩,
    ⟨(some 178), .mov (.t 210), none⟩])))))))
  (.seq (.region [⟨(some 211), .mov (.t 6), none⟩,
    ⟨(some 2), .mov (.t 211), none⟩,
    ⟨(some 3), .mov (.c (.int .i64 0)), none⟩])
  .ret))))))))))))
def F_conv_build : GFun := ⟨1, 212, B_conv_build, [.t 2, .t 3]⟩
theorem ok_conv_build : okFun Go.Proofs.Try.prog fid_conv_build F_conv_build = true := by kernel_rfl
def B_conv_coefficient : GCode :=
  (.seq (.region [⟨(some 4), .mov (.c (.int .i64 0)), none⟩])
  (.seq (.seq (.region [⟨(some 5), .mov (.t 1), none⟩,
    ⟨(some 6), .mov (.t 0), none⟩,
    ⟨(some 7), .len (.t 6), none⟩,
    ⟨(some 8), .bin .lss (.t 5) (.t 7), none⟩])
  (.cond (.t 8)
  (.seq (.region [⟨(some 9), .mov (.t 0), none⟩,
    ⟨(some 10), .mov (.t 1), none⟩,
    ⟨(some 11), .indexAddr 1 (.t 9) (.t 10), none⟩,
    ⟨(some 12), .load none (.t 11), none⟩,
    ⟨(some 4), .mov (.t 12), none⟩])
  .ret)
  .skip))
  (.seq (.region [⟨(some 4), .mov (.c (.int .i64 0)), none⟩])
  .ret)))
def F_conv_coefficient : GFun := ⟨2, 13, B_conv_coefficient, [.t 4]⟩
theorem ok_conv_coefficient : okFun Go.Proofs.Try.prog fid_conv_coefficient F_conv_coefficient = true := by kernel_rfl
def B_conv_digits : GCode :=
  (.seq (.region [⟨(some 6), .mov (.c (.nil)), none⟩])
  (.seq (.region [⟨(some 9), .mov (.t 2), none⟩,
    ⟨(some 10), .mslice (.int .i64 0) 8 (.t 9) (.t 9), none⟩,
    ⟨(some 7), .mov (.t 10), none⟩])
  (.seq (.seq (.region [⟨(some 11), .mov (.t 7), none⟩,
    ⟨(some 12), .len (.t 11), none⟩,
    ⟨(some 13), .mov (.c (.int .i64 0)), none⟩])
  (.block 0 (.loop (.seq (.region [⟨(some 14), .bin .lss (.t 13) (.t 12), none⟩])
  (.seq (.cond (.t 14)
  .skip
  (.exit 0))
  (.seq (.block 1 (.seq (.region [⟨(some 15), .mov (.t 13), none⟩,
    ⟨(some 8), .mov (.t 15), none⟩])
  (.seq (.region [⟨(some 16), .mov (.t 7), none⟩,
    ⟨(some 17), .mov (.t 8), none⟩,
    ⟨(some 18), .mov (.t 0), none⟩,
    ⟨(some 19), .mov (.t 1), none⟩,
    ⟨(some 20), .bin .rem (.t 18) (.t 19), none⟩,
    ⟨(some 21), .indexAddr 1 (.t 16) (.t 17), none⟩,
    ⟨none, .store 1 (.t 21) (.t 20), none⟩])
  (.region [⟨(some 22), .mov (.t 0), none⟩,
    ⟨(some 23), .mov (.t 1), none⟩,
    ⟨(some 24), .bin .quo (.t 22) (.t 23), none⟩,
    ⟨(some 0), .mov (.t 24), none⟩]))))
  (.region [⟨(some 25), .bin .add (.t 13) (.c (.int .i64 1)), none⟩,
    ⟨(some 13), .mov (.t 25), none⟩])))))))
  (.seq (.region [⟨(some 26), .mov (.t 7), none⟩,
    ⟨(some 6), .mov (.t 26), none⟩])
  .ret))))
def F_conv_digits : GFun := ⟨3, 27, B_conv_digits, [.t 6]⟩
theorem ok_conv_digits : okFun Go.Proofs.Try.prog fid_conv_digits F_conv_digits = true := by kernel_rfl
def B_conv_machine_edges : GCode :=
  (.seq (.region [⟨(some 2), .alloc [.int .i64 0, .nil, .nil], none⟩])
  (.seq (.region [⟨(some 15), .build [.int .i64 0, .nil, .nil] [(0, 1, (.c (.int .i64 1)))], none⟩,
    ⟨(some 3), .alloc [.int .i64 0, .nil, .nil], none⟩,
    ⟨none, .store 3 (.t 3) (.t 15), none⟩])
  (.seq (.seq (.region [⟨(some 16), .mov (.t 0), none⟩,
    ⟨(some 17), .nilCheck (.t 16), none⟩,
    ⟨(some 18), .fieldAddr 2 (.t 17), none⟩,
    ⟨(some 19), .load none (.t 18), none⟩,
    ⟨(some 20), .mov (.c (.int .i64 0)), none⟩])
  (.block 0 (.loop (.seq (.region [⟨(some 21), .bin .lss (.t 20) (.t 19), none⟩])
  (.seq (.cond (.t 21)
  .skip
  (.exit 0))
  (.seq (.block 1 (.draw [0, 1, 0, 4, 12, 28, 63, 127, 255]
    [⟨(some 22), .fieldAddr 0 (.t 3), none⟩,
    ⟨(some 23), .load none (.t 22), none⟩,
    ⟨(some 24), .mov (.t 0), none⟩,
    ⟨(some 25), .nilCheck (.t 24), none⟩,
    ⟨(some 26), .fieldAddr 6 (.t 25), none⟩,
    ⟨(some 27), .load none (.t 26), none⟩]
    [⟨(some 28), .bin .mul (.t 23) (.t 27), none⟩,
    ⟨(some 29), .fieldAddr 0 (.t 3), none⟩,
    ⟨none, .store 1 (.t 29) (.t 28), none⟩]))
  (.region [⟨(some 30), .bin .add (.t 20) (.c (.int .i64 1)), none⟩,
    ⟨(some 20), .mov (.t 30), none⟩])))))))
  (.seq (.draw [0, 1, 3, 0, 8, 24, 7, 127]
    [⟨(some 31), .fieldAddr 0 (.t 3), none⟩,
    ⟨(some 32), .load none (.t 31), none⟩,
    ⟨(some 33), .mslice (.int .i64 0) 8 (.t 32) (.t 32), none⟩,
    ⟨(some 34), .fieldAddr 0 (.t 3), none⟩,
    ⟨(some 35), .load none (.t 34), none⟩,
    ⟨(some 36), .mslice (.nil) 24 (.t 35) (.t 35), none⟩,
    ⟨(some 4), .mov (.t 33), none⟩]
    [⟨(some 5), .mov (.t 36), none⟩])
  (.seq (.seq (.region [⟨(some 37), .fieldAddr 0 (.t 3), none⟩,
    ⟨(some 38), .load none (.t 37), none⟩,
    ⟨(some 39), .mov (.c (.int .i64 0)), none⟩])
  (.block 2 (.loop (.seq (.region [⟨(some 40), .bin .lss (.t 39) (.t 38), none⟩])
  (.seq (.cond (.t 40)
  .skip
  (.exit 2))
  (.seq (.block 3 (.seq (.region [⟨(some 41), .mov (.t 39), none⟩,
    ⟨(some 6), .mov (.t 41), none⟩])
  (.draw [0, 0, 0, 0, 0, 0, 0, 64, 192, 448, 0, 1024, 3072, 7168, 16352, 32752, 65520, 131056, 131056, 262131, 786419, 2097151, 4194303]
    [⟨(some 43), .mov (.t 4), none⟩,
    ⟨(some 44), .mov (.t 6), none⟩,
    ⟨(some 45), .mov (.t 5), none⟩,
    ⟨(some 46), .mov (.t 6), none⟩,
    ⟨(some 47), .mov (.t 0), none⟩,
    ⟨(some 48), .mov (.t 6), none⟩,
    ⟨(some 49), .mov (.t 0), none⟩,
    ⟨(some 50), .nilCheck (.t 49), none⟩,
    ⟨(some 51), .fieldAddr 6 (.t 50), none⟩,
    ⟨(some 52), .load none (.t 51), none⟩,
    ⟨(some 53), .mov (.t 0), none⟩,
    ⟨(some 54), .nilCheck (.t 53), none⟩,
    ⟨(some 55), .fieldAddr 2 (.t 54), none⟩,
    ⟨(some 56), .load none (.t 55), none⟩,
    ⟨(some 57), .call fid_conv_digits [(.t 48), (.t 52), (.t 56)], none⟩,
    ⟨(some 58), .call fid_conv_machine_step [(.t 47), (.c (.int .i64 0)), (.t 57)], none⟩,
    ⟨(some 42), .mov (.t 58), none⟩,
    ⟨(some 59), .extract 0 (.t 42), none⟩,
    ⟨(some 60), .extract 1 (.t 42), none⟩,
    ⟨(some 61), .indexAddr 1 (.t 43) (.t 44), none⟩]
    [⟨none, .store 1 (.t 61) (.t 59), none⟩,
    ⟨(some 62), .indexAddr 1 (.t 45) (.t 46), none⟩,
    ⟨none, .store 1 (.t 62) (.t 60), none⟩])))
  (.region [⟨(some 63), .bin .add (.t 39) (.c (.int .i64 1)), none⟩,
    ⟨(some 39), .mov (.t 63), none⟩])))))))
  (.seq (.region [⟨(some 64), .mov (.t 0), none⟩,
    ⟨(some 65), .nilCheck (.t 64), none⟩,
    ⟨(some 66), .fieldAddr 2 (.t 65), none⟩,
    ⟨(some 67), .load none (.t 66), none⟩,
    ⟨(some 68), .mslice (.int .i64 0) 8 (.t 67) (.t 67), none⟩,
    ⟨(some 7), .mov (.t 68), none⟩])
  (.seq (.seq (.region [⟨(some 69), .mov (.t 0), none⟩,
    ⟨(some 70), .nilCheck (.t 69), none⟩,
    ⟨(some 71), .fieldAddr 7 (.t 70), none⟩,
    ⟨(some 72), .load none (.t 71), none⟩,
    ⟨(some 73), .mov (.c (.int .i64 0)), none⟩])
  (.block 4 (.loop (.seq (.region [⟨(some 74), .bin .lss (.t 73) (.t 72), none⟩])
  (.seq (.cond (.t 74)
  .skip
  (.exit 4))
  (.seq (.block 5 (.seq (.region [⟨(some 75), .mov (.t 73), none⟩,
    ⟨(some 8), .mov (.t 75), none⟩])
  (.seq (.region [⟨(some 77), .mov (.t 0), none⟩,
    ⟨(some 78), .mov (.t 8), none⟩,
    ⟨(some 79), .mov (.t 7), none⟩,
    ⟨(some 80), .call fid_conv_machine_step [(.t 77), (.t 78), (.t 79)], none⟩,
    ⟨(some 76), .mov (.t 80), none⟩,
    ⟨(some 81), .extract 0 (.t 76), none⟩,
    ⟨(some 82), .extract 1 (.t 76), none⟩,
    ⟨(some 9), .mov (.t 81), none⟩,
    ⟨(some 10), .mov (.t 82), none⟩])
  (.seq (.region [⟨(some 83), .fieldAddr 0 (.t 3), none⟩,
    ⟨(some 84), .load none (.t 83), none⟩,
    ⟨(some 85), .mov (.c (.int .i64 0)), none⟩])
  (.block 6 (.loop (.seq (.region [⟨(some 86), .bin .lss (.t 85) (.t 84), none⟩])
  (.seq (.cond (.t 86)
  .skip
  (.exit 6))
  (.seq (.block 7 (.seq (.region [⟨(some 87), .mov (.t 85), none⟩,
    ⟨(some 11), .mov (.t 87), none⟩])
  (.seq (.region [⟨(some 12), .mov (.c (.int .i64 0)), none⟩])
  (.seq (.seq (.region [⟨(some 88), .mov (.t 10), none⟩,
    ⟨(some 89), .len (.t 88), none⟩,
    ⟨(some 90), .mov (.c (.int .i64 0)), none⟩])
  (.block 8 (.loop (.seq (.region [⟨(some 91), .bin .lss (.t 90) (.t 89), none⟩])
  (.seq (.cond (.t 91)
  .skip
  (.exit 8))
  (.seq (.block 9 (.seq (.region [⟨(some 92), .mov (.t 90), none⟩,
    ⟨(some 93), .indexAddr 1 (.t 88) (.t 90), none⟩,
    ⟨(some 94), .load none (.t 93), none⟩,
    ⟨(some 13), .mov (.t 92), none⟩,
    ⟨(some 14), .mov (.t 94), none⟩])
  (.seq (.draw [0, 1, 3, 7, 0, 0, 0, 96, 224, 0, 992, 2016, 4095, 8191]
    [⟨(some 95), .mov (.t 0), none⟩,
    ⟨(some 96), .nilCheck (.t 95), none⟩,
    ⟨(some 97), .fieldAddr 0 (.t 96), none⟩,
    ⟨(some 98), .load none (.t 97), none⟩,
    ⟨(some 99), .mov (.t 14), none⟩,
    ⟨(some 100), .mov (.t 5), none⟩,
    ⟨(some 101), .mov (.t 11), none⟩,
    ⟨(some 102), .indexAddr 1 (.t 100) (.t 101), none⟩,
    ⟨(some 103), .load none (.t 102), none⟩,
    ⟨(some 104), .mov (.t 13), none⟩,
    ⟨(some 105), .indexAddr 1 (.t 103) (.t 104), none⟩,
    ⟨(some 106), .load none (.t 105), none⟩]
    [⟨(some 107), .call fid_field_GF_Add [(.t 98), (.t 99), (.t 106)], none⟩,
    ⟨(some 108), .bin .neq (.t 107) (.c (.int .i64 0)), none⟩])
  (.cond (.t 108)
  (.region [⟨(some 109), .mov (.t 12), none⟩,
    ⟨(some 110), .bin .add (.t 109) (.c (.int .i64 1)), none⟩,
    ⟨(some 12), .mov (.t 110), none⟩])
  .skip))))
  (.region [⟨(some 111), .bin .add (.t 90) (.c (.int .i64 1)), none⟩,
    ⟨(some 90), .mov (.t 111), none⟩])))))))
  (.seq (.draw [0, 1, 0, 0, 0, 24, 56, 124, 252, 511, 1023, 2047]
    [⟨(some 112), .fieldAddr 1 (.t 3), none⟩,
    ⟨(some 113), .load none (.t 112), none⟩,
    ⟨(some 114), .mov (.t 9), none⟩,
    ⟨(some 115), .mov (.t 4), none⟩,
    ⟨(some 116), .mov (.t 11), none⟩,
    ⟨(some 117), .indexAddr 1 (.t 115) (.t 116), none⟩,
    ⟨(some 118), .load none (.t 117), none⟩,
    ⟨(some 119), .bin .add (.t 114) (.t 118), none⟩,
    ⟨(some 120), .blit [.int .i64 0] [(0, 1, (.t 119))], none⟩]
    [⟨(some 121), .append 8 (.t 113) (.t 120), none⟩,
    ⟨(some 122), .fieldAddr 1 (.t 3), none⟩,
    ⟨none, .store 1 (.t 122) (.t 121), none⟩])
  (.region [⟨(some 123), .fieldAddr 2 (.t 3), none⟩,
    ⟨(some 124), .load none (.t 123), none⟩,
    ⟨(some 125), .mov (.t 12), none⟩,
    ⟨(some 126), .bslice 1 [.int .i64 0] [(0, 1, (.t 125))], none⟩,
    ⟨(some 127), .append 8 (.t 124) (.t 126), none⟩,
    ⟨(some 128), .fieldAddr 2 (.t 3), none⟩,
    ⟨none, .store 1 (.t 128) (.t 127), none⟩]))))))
  (.region [⟨(some 129), .bin .add (.t 85) (.c (.int .i64 1)), none⟩,
    ⟨(some 85), .mov (.t 129), none⟩]))))))))))
  (.region [⟨(some 130), .bin .add (.t 73) (.c (.int .i64 1)), none⟩,
    ⟨(some 73), .mov (.t 130), none⟩])))))))
  (.seq (.region [⟨(some 131), .load (some 3) (.t 3), none⟩,
    ⟨none, .store 3 (.t 2) (.t 131), none⟩])
  .ret))))))))
def F_conv_machine_edges : GFun := ⟨1, 132, B_conv_machine_edges, [.cell 2 (some 3)]⟩
theorem ok_conv_machine_edges : okFun Go.Proofs.Try.prog fid_conv_machine_edges F_conv_machine_edges = true := by kernel_rfl
def B_conv_machine_path : GCode :=
  (.seq (.region [⟨(some 4), .box (.t 1), none⟩,
    ⟨(some 6), .mov (.c (.nil)), none⟩])
  (.seq (.region [⟨(some 7), .mov (.c (.nil)), none⟩])
  (.seq (.seq (.region [⟨(some 8), .mov (.c (.int .i64 0)), none⟩,
    ⟨(some 9), .mov (.c (.bool true)), none⟩])
  (.block 0 (.loop (.seq (.seq (.region [⟨(some 10), .mov (.t 9), none⟩,
    ⟨(some 11), .mov (.t 10), none⟩,
    ⟨(some 12), .mov (.t 8), (some (11, false))⟩,
    ⟨(some 13), .bin .neq (.t 12) (.c (.int .i64 0)), (some (11, false))⟩,
    ⟨(some 14), .pick (.t 11) (.c (.bool true)) (.t 13), none⟩])
  (.cond (.t 14)
  .skip
  (.exit 0)))
  (.seq (.block 1 (.seq (.draw [0, 0, 0, 6, 14, 0, 32, 96, 224, 0, 512, 1536, 3584, 8190, 16382, 32767, 65535]
    [⟨(some 15), .mov (.t 7), none⟩,
    ⟨(some 16), .mov (.t 2), none⟩,
    ⟨(some 17), .mov (.t 8), none⟩,
    ⟨(some 18), .indexAddr 1 (.t 16) (.t 17), none⟩,
    ⟨(some 19), .load none (.t 18), none⟩,
    ⟨(some 20), .mov (.t 0), none⟩,
    ⟨(some 21), .nilCheck (.t 20), none⟩,
    ⟨(some 22), .fieldAddr 6 (.t 21), none⟩,
    ⟨(some 23), .load none (.t 22), none⟩,
    ⟨(some 24), .mov (.t 0), none⟩,
    ⟨(some 25), .nilCheck (.t 24), none⟩,
    ⟨(some 26), .fieldAddr 2 (.t 25), none⟩,
    ⟨(some 27), .load none (.t 26), none⟩,
    ⟨(some 28), .call fid_conv_digits [(.t 19), (.t 23), (.t 27)], none⟩,
    ⟨(some 29), .blit [.nil] [(0, 1, (.t 28))], none⟩]
    [⟨(some 30), .append 24 (.t 15) (.t 29), none⟩,
    ⟨(some 7), .mov (.t 30), none⟩])
  (.draw [0, 1, 0, 0, 8, 28, 0, 0, 192, 448, 1020, 2047, 4095, 8191]
    [⟨(some 31), .fieldAddr 1 (.t 4), none⟩,
    ⟨(some 32), .load none (.t 31), none⟩,
    ⟨(some 33), .mov (.t 8), none⟩,
    ⟨(some 34), .fieldAddr 0 (.t 4), none⟩,
    ⟨(some 35), .load none (.t 34), none⟩,
    ⟨(some 36), .bin .mul (.t 33) (.t 35), none⟩,
    ⟨(some 37), .mov (.t 2), none⟩,
    ⟨(some 38), .mov (.t 8), none⟩,
    ⟨(some 39), .indexAddr 1 (.t 37) (.t 38), none⟩,
    ⟨(some 40), .load none (.t 39), none⟩,
    ⟨(some 41), .bin .add (.t 36) (.t 40), none⟩]
    [⟨(some 42), .indexAddr 1 (.t 32) (.t 41), none⟩,
    ⟨(some 43), .load none (.t 42), none⟩,
    ⟨(some 8), .mov (.t 43), none⟩])))
  (.region [⟨(some 9), .mov (.c (.bool false)), none⟩]))))))
  (.seq (.region [⟨(some 44), .mov (.t 7), none⟩,
    ⟨(some 6), .mov (.t 44), none⟩])
  .ret))))
def F_conv_machine_path : GFun := ⟨3, 45, B_conv_machine_path, [.t 6]⟩
theorem ok_conv_machine_path : okFun Go.Proofs.Try.prog fid_conv_machine_path F_conv_machine_path = true := by kernel_rfl
def B_conv_machine_step : GCode :=
  (.seq (.region [⟨(some 6), .mov (.c (.int .i64 0)), none⟩,
    ⟨(some 7), .mov (.c (.nil)), none⟩])
  (.seq (.draw [0, 1, 3, 7, 15, 0, 63]
    [⟨(some 16), .mov (.t 0), none⟩,
    ⟨(some 17), .nilCheck (.t 16), none⟩,
    ⟨(some 18), .fieldAddr 3 (.t 17), none⟩,
    ⟨(some 19), .load none (.t 18), none⟩,
    ⟨(some 20), .mslice (.int .i64 0) 8 (.t 19) (.t 19), none⟩,
    ⟨(some 8), .mov (.c (.int .i64 0)), none⟩]
    [⟨(some 9), .mov (.t 20), none⟩])
  (.seq (.seq (.region [⟨(some 21), .mov (.t 2), none⟩,
    ⟨(some 22), .len (.t 21), none⟩,
    ⟨(some 23), .mov (.c (.int .i64 0)), none⟩])
  (.block 0 (.loop (.seq (.region [⟨(some 24), .bin .lss (.t 23) (.t 22), none⟩])
  (.seq (.cond (.t 24)
  .skip
  (.exit 0))
  (.seq (.block 1 (.seq (.region [⟨(some 25), .mov (.t 23), none⟩,
    ⟨(some 26), .indexAddr 1 (.t 21) (.t 23), none⟩,
    ⟨(some 27), .load none (.t 26), none⟩,
    ⟨(some 10), .mov (.t 25), none⟩,
    ⟨(some 11), .mov (.t 27), none⟩])
  (.seq (.draw [0, 1, 3, 7, 0, 31, 63, 0, 0, 256, 768, 1792, 0, 7936, 16128, 32640, 127, 131071]
    [⟨(some 28), .mov (.t 0), none⟩,
    ⟨(some 29), .nilCheck (.t 28), none⟩,
    ⟨(some 30), .fieldAddr 8 (.t 29), none⟩,
    ⟨(some 31), .load none (.t 30), none⟩,
    ⟨(some 32), .mov (.t 10), none⟩,
    ⟨(some 33), .indexAddr 1 (.t 31) (.t 32), none⟩,
    ⟨(some 34), .load none (.t 33), none⟩,
    ⟨(some 35), .mov (.t 1), none⟩,
    ⟨(some 36), .mov (.t 0), none⟩,
    ⟨(some 37), .nilCheck (.t 36), none⟩,
    ⟨(some 38), .fieldAddr 8 (.t 37), none⟩,
    ⟨(some 39), .load none (.t 38), none⟩,
    ⟨(some 40), .mov (.t 10), none⟩,
    ⟨(some 41), .indexAddr 1 (.t 39) (.t 40), none⟩,
    ⟨(some 42), .load none (.t 41), none⟩,
    ⟨(some 43), .bin .quo (.t 35) (.t 42), none⟩,
    ⟨(some 12), .mov (.t 34), none⟩]
    [⟨(some 13), .mov (.t 43), none⟩])
  (.seq (.region [⟨(some 14), .mov (.c (.int .i64 0)), none⟩])
  (.block 2 (.loop (.seq (.seq (.region [⟨(some 44), .mov (.t 14), none⟩,
    ⟨(some 45), .mov (.t 0), none⟩,
    ⟨(some 46), .nilCheck (.t 45), none⟩,
    ⟨(some 47), .fieldAddr 4 (.t 46), none⟩,
    ⟨(some 48), .load none (.t 47), none⟩,
    ⟨(some 49), .mov (.t 10), none⟩,
    ⟨(some 50), .indexAddr 1 (.t 48) (.t 49), none⟩,
    ⟨(some 51), .load none (.t 50), none⟩,
    ⟨(some 52), .bin .leq (.t 44) (.t 51), none⟩])
  (.cond (.t 52)
  .skip
  (.exit 2)))
  (.seq (.block 3 (.seq (.seq (.region [⟨(some 55), .mov (.t 11), none⟩,
    ⟨(some 56), .bin .neq (.t 55) (.c (.int .i64 0)), none⟩])
  (.cond (.t 56)
  (.seq (.region [⟨(some 57), .mov (.t 9), none⟩,
    ⟨(some 58), .len (.t 57), none⟩,
    ⟨(some 59), .mov (.c (.int .i64 0)), none⟩])
  (.block 4 (.loop (.seq (.region [⟨(some 60), .bin .lss (.t 59) (.t 58), none⟩])
  (.seq (.cond (.t 60)
  .skip
  (.exit 4))
  (.seq (.block 5 (.seq (.region [⟨(some 61), .mov (.t 59), none⟩,
    ⟨(some 15), .mov (.t 61), none⟩])
  (.draw [0, 0, 0, 4, 12, 28, 0, 0, 192, 448, 0, 1024, 3072, 7168, 0, 0, 32768, 98304, 229376, 0, 1015808, 2064384, 0, 8355840, 16744448, 0, 67076096, 134216704, 268435452, 536870911, 1073741823]
    [⟨(some 62), .mov (.t 9), none⟩,
    ⟨(some 63), .mov (.t 15), none⟩,
    ⟨(some 64), .mov (.t 0), none⟩,
    ⟨(some 65), .nilCheck (.t 64), none⟩,
    ⟨(some 66), .fieldAddr 0 (.t 65), none⟩,
    ⟨(some 67), .load none (.t 66), none⟩,
    ⟨(some 68), .mov (.t 9), none⟩,
    ⟨(some 69), .mov (.t 15), none⟩,
    ⟨(some 70), .indexAddr 1 (.t 68) (.t 69), none⟩,
    ⟨(some 71), .load none (.t 70), none⟩,
    ⟨(some 72), .mov (.t 0), none⟩,
    ⟨(some 73), .nilCheck (.t 72), none⟩,
    ⟨(some 74), .fieldAddr 0 (.t 73), none⟩,
    ⟨(some 75), .load none (.t 74), none⟩,
    ⟨(some 76), .mov (.t 11), none⟩,
    ⟨(some 77), .mov (.t 0), none⟩,
    ⟨(some 78), .nilCheck (.t 77), none⟩,
    ⟨(some 79), .fieldAddr 1 (.t 78), none⟩,
    ⟨(some 80), .load none (.t 79), none⟩,
    ⟨(some 81), .mov (.t 10), none⟩,
    ⟨(some 82), .indexAddr 1 (.t 80) (.t 81), none⟩,
    ⟨(some 83), .load none (.t 82), none⟩,
    ⟨(some 84), .mov (.t 15), none⟩,
    ⟨(some 85), .indexAddr 1 (.t 83) (.t 84), none⟩,
    ⟨(some 86), .load none (.t 85), none⟩,
    ⟨(some 87), .mov (.t 14), none⟩,
    ⟨(some 88), .call fid_conv_coefficient [(.t 86), (.t 87)], none⟩,
    ⟨(some 89), .call fid_field_GF_Mul [(.t 75), (.t 76), (.t 88)], none⟩,
    ⟨(some 90), .call fid_field_GF_Add [(.t 67), (.t 71), (.t 89)], none⟩]
    [⟨(some 91), .indexAddr 1 (.t 62) (.t 63), none⟩,
    ⟨none, .store 1 (.t 91) (.t 90), none⟩])))
  (.region [⟨(some 92), .bin .add (.t 59) (.c (.int .i64 1)), none⟩,
    ⟨(some 59), .mov (.t 92), none⟩])))))))
  .skip))
  (.seq (.region [⟨(some 93), .mov (.t 14), none⟩,
    ⟨(some 94), .mov (.t 0), none⟩,
    ⟨(some 95), .nilCheck (.t 94), none⟩,
    ⟨(some 96), .fieldAddr 4 (.t 95), none⟩,
    ⟨(some 97), .load none (.t 96), none⟩,
    ⟨(some 98), .mov (.t 10), none⟩,
    ⟨(some 99), .indexAddr 1 (.t 97) (.t 98), none⟩,
    ⟨(some 100), .load none (.t 99), none⟩,
    ⟨(some 101), .bin .lss (.t 93) (.t 100), none⟩])
  (.cond (.t 101)
  (.seq (.region [⟨(some 102), .mov (.t 8), none⟩,
    ⟨(some 103), .mov (.t 11), none⟩,
    ⟨(some 104), .mov (.t 12), none⟩,
    ⟨(some 105), .bin .mul (.t 103) (.t 104), none⟩,
    ⟨(some 106), .bin .add (.t 102) (.t 105), none⟩,
    ⟨(some 8), .mov (.t 106), none⟩])
  (.seq (.region [⟨(some 107), .mov (.t 12), none⟩,
    ⟨(some 108), .mov (.t 0), none⟩,
    ⟨(some 109), .nilCheck (.t 108), none⟩,
    ⟨(some 110), .fieldAddr 6 (.t 109), none⟩,
    ⟨(some 111), .load none (.t 110), none⟩,
    ⟨(some 112), .bin .mul (.t 107) (.t 111), none⟩,
    ⟨(some 12), .mov (.t 112), none⟩])
  (.seq (.region [⟨(some 113), .mov (.t 13), none⟩,
    ⟨(some 114), .mov (.t 0), none⟩,
    ⟨(some 115), .nilCheck (.t 114), none⟩,
    ⟨(some 116), .fieldAddr 6 (.t 115), none⟩,
    ⟨(some 117), .load none (.t 116), none⟩,
    ⟨(some 118), .bin .rem (.t 113) (.t 117), none⟩,
    ⟨(some 11), .mov (.t 118), none⟩])
  (.region [⟨(some 119), .mov (.t 13), none⟩,
    ⟨(some 120), .mov (.t 0), none⟩,
    ⟨(some 121), .nilCheck (.t 120), none⟩,
    ⟨(some 122), .fieldAddr 6 (.t 121), none⟩,
    ⟨(some 123), .load none (.t 122), none⟩,
    ⟨(some 124), .bin .quo (.t 119) (.t 123), none⟩,
    ⟨(some 13), .mov (.t 124), none⟩]))))
  .skip))))
  (.region [⟨(some 53), .mov (.t 14), none⟩,
    ⟨(some 54), .bin .add (.t 53) (.c (.int .i64 1)), none⟩,
    ⟨(some 14), .mov (.t 54), none⟩])))))))))
  (.region [⟨(some 125), .bin .add (.t 23) (.c (.int .i64 1)), none⟩,
    ⟨(some 23), .mov (.t 125), none⟩])))))))
  (.seq (.region [⟨(some 126), .mov (.t 8), none⟩,
    ⟨(some 127), .mov (.t 9), none⟩,
    ⟨(some 6), .mov (.t 126), none⟩,
    ⟨(some 7), .mov (.t 127), none⟩])
  .ret))))
def F_conv_machine_step : GFun := ⟨3, 128, B_conv_machine_step, [.t 6, .t 7]⟩
theorem ok_conv_machine_step : okFun Go.Proofs.Try.prog fid_conv_machine_step F_conv_machine_step = true := by kernel_rfl
end Go.Proofs.Ytdpibcniodhinaa.Gh
/- The program's machine of an encoder: what it keeps. -/
namespace Go.Proofs.Ytdpibcniodhinaa.Gh
open Go Go.RowKit
open Alg (CR Ps Dg Zm Mn El Cg sm pw Irr Prm)
set_option linter.unusedVariables false
set_option linter.unusedSimpArgs false

def Enc.rowf (e : Enc) (i : Nat) : Nat → GV := fun j => isl (tn (e.c i j) (e.n i j)) (e.c i j)
theorem Enc.rowf_at (e : Enc) (i j : Nat) : e.rowf i j = isl (tn (e.c i j) (e.n i j)) (e.c i j) := rfl
def Enc.ds (e : Enc) : Nat → Nat := sumn e.deg
def Enc.mem (e : Enc) : Nat → Nat
  | 0 => 0
  | i + 1 => max (e.mem i) (e.deg i)
theorem Enc.tot_ds (e : Enc) : ∀ i, e.tot i = i + e.ds i := by
  intro i
  induction i with
  | zero => rfl
  | succ i ih =>
    have h1 : e.tot (i + 1) = e.tot i + (e.deg i + 1) := rfl
    have h2 : e.ds (i + 1) = e.ds i + e.deg i := rfl
    omega
/-- the machine as the program keeps it -/
def Enc.mch (e : Enc) (gf : GV) (q : Nat) : GV := .pp [gf, .sl e.r (tab e.r fun t => .sl (e.w t) (tab (e.w t) (e.rowf t))), .int .i64 (e.r : Nat), .int .i64 (e.w 0 : Nat), isl e.r (fun t => (e.deg t : Nat)), .int .i64 (e.mem e.r : Nat), .int .i64 (q : Nat), .int .i64 (q ^ e.ds e.r : Nat), isl e.r fun t => (q ^ e.ds t : Nat)] 0
abbrev mcs (gf g1 g2 g3 : GV) (r w q mem st : Nat) : List GV := [gf, g1, .int .i64 (r : Nat), .int .i64 (w : Nat), g2, .int .i64 (mem : Nat), .int .i64 (q : Nat), .int .i64 (st : Nat), g3]

def Used (n i : Nat) (g1 g2 : GV) (bs : Nat → Nat) (c : Nat) : Prop := c = n ∨ Own g1 c ∨ Own g2 c ∨ ∃ t, t < i ∧ c = bs t
structure Bo (e : Enc) (n : Nat) (H0 : Heap) (i : Nat) (g1 g2 : GV) (bs : Nat → Nat) (H : Heap) (n' : Nat) : Prop where
  lo : n + 2 ≤ n'
  h0 : H n = some e.cs
  s1 : Sl H (n + 2) n' g1 i fun t => .own (bs t) 0 (e.w t)
  s2 : Sl H (n + 2) n' g2 i (it fun t => (e.deg t : Nat))
  rows : ∀ t, t < i → n + 2 ≤ bs t ∧ bs t < n' ∧ H (bs t) = some (tab (e.w t) (e.rowf t))
  d1 : ∀ t, t < i → ¬ Own g1 (bs t) ∧ ¬ Own g2 (bs t)
  d2 : ∀ c, Own g1 c → ¬ Own g2 c
  old : ∀ b, b < n → H b = H0 b
section
variable {e : Enc} {n : Nat} {H0 : Heap} {i : Nat} {g1 g2 : GV} {bs : Nat → Nat} {H H' : Heap} {n' n'' : Nat}
theorem Bo.lt (B : Bo e n H0 i g1 g2 bs H n') {c : Nat} (h : Used n i g1 g2 bs c) : c < n' ∧ c ≠ n + 1 := by
  have := B.lo
  rcases h with rfl | h | h | ⟨t, ht, rfl⟩
  · omega
  · have := B.s1.lt h; omega
  · have := B.s2.lt h; omega
  · have := B.rows t ht; omega
theorem Bo.keep (B : Bo e n H0 i g1 g2 bs H n') (hn : n' ≤ n'') (hk : ∀ c, c < n ∨ Used n i g1 g2 bs c → H' c = H c) : Bo e n H0 i g1 g2 bs H' n'' where
  lo := by have := B.lo; omega
  h0 := by rw [hk n (.inr (.inl rfl))]; exact B.h0
  s1 := B.s1.keep (fun c hc => hk c (.inr (.inr (.inl hc)))) hn
  s2 := B.s2.keep (fun c hc => hk c (.inr (.inr (.inr (.inl hc))))) hn
  rows t ht := by
    obtain ⟨a, b, c⟩ := B.rows t ht
    exact ⟨a, by omega, by rw [hk _ (.inr (.inr (.inr (.inr ⟨t, ht, rfl⟩))))]; exact c⟩
  d1 := B.d1
  d2 := B.d2
  old b hb := by rw [hk b (.inl hb)]; exact B.old b hb
theorem Bo.step (B : Bo e n H0 i g1 g2 bs H n') {bl a1 a2 : Nat} (l1 : n + 2 ≤ bl) (l2 : bl < n') (l3 : H bl = some (tab (e.w i) (e.rowf i))) (l4 : ¬ Used n i g1 g2 bs bl)
    (k1 : n' ≤ a1) (k2 : n' ≤ a2) (k3 : a1 ≠ a2) (k4 : a1 < n'') (k5 : a2 < n'') (k6 : H' a1 = some (tab (i + 1) fun t => .own (upf bs i bl t) 0 (e.w t))) (k7 : H' a2 = some (tab (i + 1) (it fun t => (e.deg t : Nat))))
    (k8 : ∀ c, c < n' → c ≠ n + 1 → ¬ Own g1 c → ¬ Own g2 c → H' c = H c) : Bo e n H0 (i + 1) (.own a1 0 (i + 1)) (.own a2 0 (i + 1)) (upf bs i bl) H' n'' where
  lo := by have := B.lo; omega
  h0 := by
    have := B.lo
    rw [k8 n (by omega) (by omega) (fun h => by have := B.s1.lt h; omega) (fun h => by have := B.s2.lt h; omega)]; exact B.h0
  s1 := .inr ⟨a1, by have := B.lo; omega, k4, rfl, k6⟩
  s2 := .inr ⟨a2, by have := B.lo; omega, k5, rfl, k7⟩
  rows t ht := by
    by_cases et : t = i
    · subst et
      rw [upf_same]
      refine ⟨l1, by omega, ?_⟩
      rw [k8 bl l2 (by omega) (fun h => l4 (.inr (.inl h))) (fun h => l4 (.inr (.inr (.inl h))))]; exact l3
    · rw [upf_ne _ _ et]
      obtain ⟨a, b, c⟩ := B.rows t (by omega)
      have := B.d1 t (by omega)
      refine ⟨a, by omega, ?_⟩
      rw [k8 _ b (by omega) this.1 this.2]; exact c
  d1 t ht := by
    have hb : upf bs i bl t < n' := by
      by_cases et : t = i
      · subst et; rw [upf_same]; exact l2
      · rw [upf_ne _ _ et]; exact (B.rows t (by omega)).2.1
    exact ⟨fun h => by rw [own_own] at h; omega, fun h => by rw [own_own] at h; omega⟩
  d2 c hc h := by rw [own_own] at hc h; omega
  old b hb := by
    have := B.lo
    rw [k8 b (by omega) (by omega) (fun h => by have := B.s1.lt h; omega) (fun h => by have := B.s2.lt h; omega)]; exact B.old b hb
end

section
variable {k : Nat} {M : Mn k}
theorem sp_Canon' {H : Heap} {n : Nat} (g : El M) (m : Nat) (f : Nat → Int) (hm : m ≤ 1000000) (hq : qn M ≤ 256) (hf : ∀ i, i < m → 0 ≤ f i ∧ f i < (qn M : Nat)) : Spec prog fid_poly_Canon [gfv M g, isl m f] H n (isl (tn f m) f) H n := by
  have hin : ∀ i, i < m → inq (qn M : Nat) (f i) = f i := fun i hi => if_pos (hf i hi)
  have h := sp_Canon (H := H) (n := n) g m f hm hq
  rw [tn_congr hin] at h
  refine h.ends (fun b hb => upd_ne _ _ (by omega)) ?_
  have hl := tn_le f m
  refine .ownf n 0 (tn f m) _ _ (upd_same _ _ _) (Nat.le_refl _) (fun i a b => by omega) (by rw [tab_len]; omega) tab_len fun j hj => ?_
  rw [Nat.zero_add, gat_tab (by omega), gat_tab hj]
  rw [it_at, it_at, hin j (by omega)]
  exact .int _ _
theorem pl_gf (g : El M) : Pl (gfv M g) := .pp _ _ fun j hj => by
  rcases j with _ | _ | _ | _ | _ | _ | j
  · exact .int _ _
  · exact .int _ _
  · exact pl_isl _ _
  · exact .int _ _
  · exact pl_isl _ _
  · exact pl_isl _ _
  · simp at hj; omega
end
end Go.Proofs.Ytdpibcniodhinaa.Gh
/- The program's machine of an encoder: how it is made, and the errors. -/
namespace Go.Proofs.Ytdpibcniodhinaa.Gh
open Go Go.RowKit
open Alg (CR Ps Dg Zm Mn El Cg sm pw Irr Prm)
set_option linter.unusedVariables false
set_option linter.unusedSimpArgs false

abbrev Enc.Des (e : Enc) {k : Nat} (M : Mn k) : Prop := Gh.Des e.p e.m e.l e.mo M
theorem Enc.Des.qo {e : Enc} {k : Nat} {M : Mn k} (d : e.Des M) (h : Fi M) : qo e.p e.m = (qn M : Nat) := by
  rw [d.hp, d.hm, h.fc.qo']
theorem Enc.Des.fok {e : Enc} {k : Nat} {M : Mn k} (d : e.Des M) (h : Fi M) : e.Fok := ⟨k, M, d, h.fc, h.prm, h.irr⟩

theorem sp_conv_build_fail {H : Heap} {n : Nat} (e : Enc) (hf : ¬ e.Fok) : Spec prog fid_conv_build [e.gv] H n (.tup [.nilp, .int .i64 1]) H n := by
  refine spec_ends hmix ok_conv_build rfl fun hF => ?_
  show gw prog B_conv_build _ (tl 212 _) H n
  simp -implicitDefEqProofs only [B_conv_build, go_sem, Nat.reduceLT, Nat.reduceBEq, Nat.reduceAdd, Nat.reduceEqDiff, Nat.reduceLeDiff, Nat.reduceSub, Nat.reduceMul]
  refine call_of (sp_field_New_fail e.p e.m e.l e.mo hf) ?_
  have h10 : ((1 : Int) = 0) = False := by simp
  simp -implicitDefEqProofs only [go_sem, Nat.reduceLT, Nat.reduceBEq, Nat.reduceAdd, Nat.reduceEqDiff, Nat.reduceLeDiff, Nat.reduceSub, Nat.reduceMul, h10]
  exact fin_ret2 rfl (by decide) (by decide) .nilp (.int _ _) fun b hb => upd_ne _ _ (by omega)

section
variable {k : Nat} {M : Mn k}
set_option maxHeartbeats 4000000 in
theorem sp_conv_build {H : Heap} {n : Nat} (e : Enc) (hB : e.Bnd) (h : Fi M) (d : e.Des M) : Spec prog fid_conv_build [e.gv] H n (.tup [if e.ce = 0 then e.mch h.gf (qn M) else .nilp, .int .i64 e.ce]) H n := by
  refine spec_ends hmix ok_conv_build rfl fun hF => ?_
  show gw prog B_conv_build _ (tl 212 _) H n
  have hA := d.fok h
  have hqo := d.qo h
  have hq2 := qn_two M
  have hq := h.fc.qn
  have err : ∀ (E : Env) (H' : Heap) (n' : Nat) (v : Int), E 2 = .nilp → E 3 = .int .i64 v → e.ce = v → v ≠ 0 → (∀ b, b < n → H' b = H b) → F_conv_build.ends H n (.tup [if e.ce = 0 then e.mch h.gf (qn M) else .nilp, .int .i64 e.ce]) .ret (tl 212 E) H' n' := by
    intro E H' n' v h2 h3 hv hv0 ho
    refine fin_ret2 rfl (by decide) (by decide) ?_ ?_ ho
    · rw [h2, hv, if_neg hv0]; exact .nilp
    · rw [h3]; exact fz_int hv.symm
  have hu : ∀ x b, b < n → upd H n x b = H b := fun x b hb => upd_ne _ _ (by omega)
  have hu2 : ∀ x y b, b < n → upd (upd H n x) (n + 1) y b = H b := fun x y b hb => by rw [upd_ne _ _ (by omega), upd_ne _ _ (by omega)]
  have hr := hB.r
  have hgc : gcells h.gf = some [h.gf] := rfl
  have hcl : isCell h.gf = true := rfl
  have hnew : ∀ H n, Spec prog fid_field_New [fgv e.p e.m (isl e.l e.mo)] H n (.tup [h.gf, .int .i64 0]) H n := fun H n => by rw [d.fd]; exact sp_field_New h
  simp -implicitDefEqProofs only [B_conv_build, go_sem, Nat.reduceLT, Nat.reduceBEq, Nat.reduceAdd, Nat.reduceEqDiff, Nat.reduceLeDiff, Nat.reduceSub, Nat.reduceMul]
  refine call_of (hnew _ _) ?_
  simp -implicitDefEqProofs only [go_sem, Nat.reduceLT, Nat.reduceBEq, Nat.reduceAdd, Nat.reduceEqDiff, Nat.reduceLeDiff, Nat.reduceSub, Nat.reduceMul]
  by_cases hr0 : e.r = 0
  · have hr0' : (e.r : Int) = 0 := by omega
    simp -implicitDefEqProofs only [go_sem, Nat.reduceLT, Nat.reduceBEq, Nat.reduceAdd, Nat.reduceEqDiff, Nat.reduceLeDiff, Nat.reduceSub, Nat.reduceMul, hr0']
    exact err _ _ _ 3 (by simp -implicitDefEqProofs only [go_sem, Nat.reduceLT, Nat.reduceBEq, Nat.reduceAdd, Nat.reduceEqDiff, Nat.reduceLeDiff, Nat.reduceSub, Nat.reduceMul]) (by simp -implicitDefEqProofs only [go_sem, Nat.reduceLT, Nat.reduceBEq, Nat.reduceAdd, Nat.reduceEqDiff, Nat.reduceLeDiff, Nat.reduceSub, Nat.reduceMul]) (by rw [Enc.ce, if_pos hA, if_neg fun hs => hs.1 hr0]) (by decide) (hu _)
  have hr0' : ¬ (e.r : Int) = 0 := by omega
  have hz1 : (0 : Int) < (e.r : Int) := by omega
  have hz2 : 0 < e.r := by omega
  have hz3 : (0 : Int).toNat = 0 := rfl
  have hz4 : (0 : Int) ≤ 0 := Int.le_refl 0
  have hw0 := hB.w 0 hz2
  by_cases hw00 : e.w 0 = 0
  · have hw00' : (e.w 0 : Int) = 0 := by omega
    simp -implicitDefEqProofs only [go_sem, Nat.reduceLT, Nat.reduceBEq, Nat.reduceAdd, Nat.reduceEqDiff, Nat.reduceLeDiff, Nat.reduceSub, Nat.reduceMul, hr0', hz1, hz2, hz3, hz4, gat_tab, e.rw_at, hw00']
    exact err _ _ _ 3 (by simp -implicitDefEqProofs only [go_sem, Nat.reduceLT, Nat.reduceBEq, Nat.reduceAdd, Nat.reduceEqDiff, Nat.reduceLeDiff, Nat.reduceSub, Nat.reduceMul]) (by simp -implicitDefEqProofs only [go_sem, Nat.reduceLT, Nat.reduceBEq, Nat.reduceAdd, Nat.reduceEqDiff, Nat.reduceLeDiff, Nat.reduceSub, Nat.reduceMul]) (by rw [Enc.ce, if_pos hA, if_neg fun hs => hs.2.1 hw00]) (by decide) (hu _)
  have hw00' : ¬ (e.w 0 : Int) = 0 := by omega
  by_cases hrw : e.r ≤ e.w 0
  case neg =>
    have hrw' : (e.w 0 : Int) < (e.r : Int) := by omega
    simp -implicitDefEqProofs only [go_sem, Nat.reduceLT, Nat.reduceBEq, Nat.reduceAdd, Nat.reduceEqDiff, Nat.reduceLeDiff, Nat.reduceSub, Nat.reduceMul, hr0', hz1, hz2, hz3, hz4, gat_tab, e.rw_at, hw00', hrw']
    exact err _ _ _ 3 (by simp -implicitDefEqProofs only [go_sem, Nat.reduceLT, Nat.reduceBEq, Nat.reduceAdd, Nat.reduceEqDiff, Nat.reduceLeDiff, Nat.reduceSub, Nat.reduceMul]) (by simp -implicitDefEqProofs only [go_sem, Nat.reduceLT, Nat.reduceBEq, Nat.reduceAdd, Nat.reduceEqDiff, Nat.reduceLeDiff, Nat.reduceSub, Nat.reduceMul]) (by rw [Enc.ce, if_pos hA, if_neg fun hs => hrw hs.2.2.1]) (by decide) (hu _)
  have hrw' : ¬ (e.w 0 : Int) < (e.r : Int) := by omega
  simp -implicitDefEqProofs only [go_sem, Nat.reduceLT, Nat.reduceBEq, Nat.reduceAdd, Nat.reduceEqDiff, Nat.reduceLeDiff, Nat.reduceSub, Nat.reduceMul, hr0', hz1, hz2, hz3, hz4, gat_tab, e.rw_at, hw00', hrw']
  refine mcall_of (.int _ _) (fun H' n' _ _ => sp_GF_Order h.g) ?_
  simp -implicitDefEqProofs only [go_sem, Nat.reduceLT, Nat.reduceBEq, Nat.reduceAdd, Nat.reduceEqDiff, Nat.reduceLeDiff, Nat.reduceSub, Nat.reduceMul, hgc, hcl]
  refine loop_rule (fun (i : Nat) E H' n' => n' = n + 2 ∧ H' n = some e.cs ∧ H' (n + 1) = some (mcs h.gf .nil .nil .nil e.r (e.w 0) (qn M) 0 1) ∧ (∀ b, b < n → H' b = H b) ∧ E 1 = .ptr n 0 ∧ E 4 = h.gf ∧ E 6 = .ptr (n + 1) 0 ∧ E 69 = e.gen ∧ E 70 = .int .i64 (e.r : Nat) ∧ E 71 = .int .i64 (i : Nat) ∧ i ≤ e.r ∧ ∀ t, t < i → e.w t = e.w 0) (fun i => e.r - i) 0 ⟨rfl, by simp -implicitDefEqProofs only [go_sem, Nat.reduceLT, Nat.reduceBEq, Nat.reduceAdd, Nat.reduceEqDiff, Nat.reduceLeDiff, Nat.reduceSub, Nat.reduceMul], by simp -implicitDefEqProofs only [go_sem, Nat.reduceLT, Nat.reduceBEq, Nat.reduceAdd, Nat.reduceEqDiff, Nat.reduceLeDiff, Nat.reduceSub, Nat.reduceMul]; rfl, hu2 _ _, rfl, rfl, rfl, rfl, rfl, rfl, by omega, fun t ht => by omega⟩ ?_
  rintro i E H' n' ⟨rfl, h0, h1, ho, e1, e4, e6, e69, e70, e71, hi, hwi⟩
  simp -implicitDefEqProofs only [go_sem, Nat.reduceLT, Nat.reduceBEq, Nat.reduceAdd, Nat.reduceEqDiff, Nat.reduceLeDiff, Nat.reduceSub, Nat.reduceMul, e70, e71]
  refine c_split (fun hc => ?_) (fun hc => ?_)
  · have hiN : i < e.r := by omega
    have hwr := wrap64 (x := (i : Int) + 1) (by omega)
    by_cases hx : e.w i = e.w 0
    · simp -implicitDefEqProofs only [go_sem, Nat.reduceLT, Nat.reduceBEq, Nat.reduceAdd, Nat.reduceEqDiff, Nat.reduceLeDiff, Nat.reduceSub, Nat.reduceMul, e6, e69, e71, h1, hc, hiN, gat_tab, e.rw_at, hx, hwr]
      refine l_n ⟨i + 1, by omega, rfl, h0, h1, ho, by simp -implicitDefEqProofs only [go_sem, Nat.reduceLT, Nat.reduceBEq, Nat.reduceAdd, Nat.reduceEqDiff, Nat.reduceLeDiff, Nat.reduceSub, Nat.reduceMul, e1], by simp -implicitDefEqProofs only [go_sem, Nat.reduceLT, Nat.reduceBEq, Nat.reduceAdd, Nat.reduceEqDiff, Nat.reduceLeDiff, Nat.reduceSub, Nat.reduceMul, e4], by simp -implicitDefEqProofs only [go_sem, Nat.reduceLT, Nat.reduceBEq, Nat.reduceAdd, Nat.reduceEqDiff, Nat.reduceLeDiff, Nat.reduceSub, Nat.reduceMul, e6], by simp -implicitDefEqProofs only [go_sem, Nat.reduceLT, Nat.reduceBEq, Nat.reduceAdd, Nat.reduceEqDiff, Nat.reduceLeDiff, Nat.reduceSub, Nat.reduceMul, e69], by simp -implicitDefEqProofs only [go_sem, Nat.reduceLT, Nat.reduceBEq, Nat.reduceAdd, Nat.reduceEqDiff, Nat.reduceLeDiff, Nat.reduceSub, Nat.reduceMul, e70], by simp -implicitDefEqProofs only [go_sem, Nat.reduceLT, Nat.reduceBEq, Nat.reduceAdd, Nat.reduceEqDiff, Nat.reduceLeDiff, Nat.reduceSub, Nat.reduceMul]; rfl, by omega, fun t ht => ?_⟩
      by_cases et : t = i
      · subst et; exact hx
      · exact hwi t (by omega)
    · have hxI : ¬ ((e.w i : Nat) : Int) = (e.w 0 : Nat) := by omega
      simp -implicitDefEqProofs only [go_sem, Nat.reduceLT, Nat.reduceBEq, Nat.reduceAdd, Nat.reduceEqDiff, Nat.reduceLeDiff, Nat.reduceSub, Nat.reduceMul, e6, e69, e71, h1, hc, hiN, gat_tab, e.rw_at, hxI]
      exact err _ _ _ 3 (by simp -implicitDefEqProofs only [go_sem, Nat.reduceLT, Nat.reduceBEq, Nat.reduceAdd, Nat.reduceEqDiff, Nat.reduceLeDiff, Nat.reduceSub, Nat.reduceMul]) (by simp -implicitDefEqProofs only [go_sem, Nat.reduceLT, Nat.reduceBEq, Nat.reduceAdd, Nat.reduceEqDiff, Nat.reduceLeDiff, Nat.reduceSub, Nat.reduceMul]) (by rw [Enc.ce, if_pos hA, if_neg fun hs => hx (hs.2.2.2 i hiN)]) (by decide) ho
  have hwall : ∀ t, t < e.r → e.w t = e.w 0 := fun t ht => hwi t (by omega)
  have hS : e.Shp3 := ⟨hr0, hw00, hrw, hwall⟩
  clear hi hwi hc
  by_cases h64 : e.w 0 ≤ 64
  case neg =>
    have h64' : (64 : Int) < (e.w 0 : Int) := by omega
    simp -implicitDefEqProofs only [go_sem, Nat.reduceLT, Nat.reduceBEq, Nat.reduceAdd, Nat.reduceEqDiff, Nat.reduceLeDiff, Nat.reduceSub, Nat.reduceMul, e6, h1, h64']
    exact err _ _ _ 4 (by simp -implicitDefEqProofs only [go_sem, Nat.reduceLT, Nat.reduceBEq, Nat.reduceAdd, Nat.reduceEqDiff, Nat.reduceLeDiff, Nat.reduceSub, Nat.reduceMul]) (by simp -implicitDefEqProofs only [go_sem, Nat.reduceLT, Nat.reduceBEq, Nat.reduceAdd, Nat.reduceEqDiff, Nat.reduceLeDiff, Nat.reduceSub, Nat.reduceMul]) (by rw [Enc.ce, if_pos hA, if_pos hS, if_neg h64]) (by decide) ho
  have h64' : ¬ (64 : Int) < (e.w 0 : Int) := by omega
  simp -implicitDefEqProofs only [go_sem, Nat.reduceLT, Nat.reduceBEq, Nat.reduceAdd, Nat.reduceEqDiff, Nat.reduceLeDiff, Nat.reduceSub, Nat.reduceMul, e1, e6, h0, h1, h64']
  refine loop_rule (fun (i : Nat) E H' n' => ∃ g1 g2 bs, Bo e n H i g1 g2 bs H' n' ∧ H' (n + 1) = some (mcs h.gf g1 g2 .nil e.r (e.w 0) (qn M) (e.mem i) 1) ∧ E 1 = .ptr n 0 ∧ E 4 = h.gf ∧ E 6 = .ptr (n + 1) 0 ∧ E 9 = .int .i64 (e.r + e.ds i : Nat) ∧ E 93 = e.gen ∧ E 94 = .int .i64 (e.r : Nat) ∧ E 95 = .int .i64 (i : Nat) ∧ i ≤ e.r ∧ e.ds i ≤ i * 40 ∧ ∀ t j, t < i → j < e.w t → ∀ d, d < e.n t j → 0 ≤ e.c t j d ∧ e.c t j d < qo e.p e.m) (fun i => e.r - i) 0 ?_ ?_
  · exact ⟨.nil, .nil, fun _ => 0, ⟨Nat.le_refl _, h0, .nil, .nil, fun t ht => by omega, fun t ht => by omega, fun c hc => absurd hc own_nil, ho⟩, h1, by simp -implicitDefEqProofs only [go_sem, Nat.reduceLT, Nat.reduceBEq, Nat.reduceAdd, Nat.reduceEqDiff, Nat.reduceLeDiff, Nat.reduceSub, Nat.reduceMul, e1], by simp -implicitDefEqProofs only [go_sem, Nat.reduceLT, Nat.reduceBEq, Nat.reduceAdd, Nat.reduceEqDiff, Nat.reduceLeDiff, Nat.reduceSub, Nat.reduceMul, e4], by simp -implicitDefEqProofs only [go_sem, Nat.reduceLT, Nat.reduceBEq, Nat.reduceAdd, Nat.reduceEqDiff, Nat.reduceLeDiff, Nat.reduceSub, Nat.reduceMul, e6], by simp -implicitDefEqProofs only [go_sem, Nat.reduceLT, Nat.reduceBEq, Nat.reduceAdd, Nat.reduceEqDiff, Nat.reduceLeDiff, Nat.reduceSub, Nat.reduceMul]; rfl, by simp -implicitDefEqProofs only [go_sem, Nat.reduceLT, Nat.reduceBEq, Nat.reduceAdd, Nat.reduceEqDiff, Nat.reduceLeDiff, Nat.reduceSub, Nat.reduceMul], by simp -implicitDefEqProofs only [go_sem, Nat.reduceLT, Nat.reduceBEq, Nat.reduceAdd, Nat.reduceEqDiff, Nat.reduceLeDiff, Nat.reduceSub, Nat.reduceMul], by simp -implicitDefEqProofs only [go_sem, Nat.reduceLT, Nat.reduceBEq, Nat.reduceAdd, Nat.reduceEqDiff, Nat.reduceLeDiff, Nat.reduceSub, Nat.reduceMul]; rfl, by omega, by simp [Enc.ds, sumn], fun t j ht => by omega⟩
  clear h0 h1 ho e1 e4 e6 e69 e70 e71 E H'
  rintro i E H' n' ⟨g1, g2, bs, B, h1, e1, e4, e6, e9, e93, e94, e95, hi, hds, hel⟩
  simp -implicitDefEqProofs only [go_sem, Nat.reduceLT, Nat.reduceBEq, Nat.reduceAdd, Nat.reduceEqDiff, Nat.reduceLeDiff, Nat.reduceSub, Nat.reduceMul, e94, e95]
  refine c_split (fun hc => ?_) (fun hc => ?_)
  · have hiN : i < e.r := by omega
    have hwiN := hB.w i hiN
    have hwi0 : 0 < e.w i := by rw [hwall i hiN]; omega
    simp -implicitDefEqProofs only [go_sem, Nat.reduceLT, Nat.reduceBEq, Nat.reduceAdd, Nat.reduceEqDiff, Nat.reduceLeDiff, Nat.reduceSub, Nat.reduceMul, e93, e95, hc, hiN, gat_tab, e.rw_at]
    refine loop_rule (fun (j : Nat) E H' n' => ∃ gl, Bo e n H i g1 g2 bs H' n' ∧ H' (n + 1) = some (mcs h.gf g1 g2 .nil e.r (e.w 0) (qn M) (e.mem i) 1) ∧ Sl H' (n + 2) n' gl j (e.rowf i) ∧ (∀ c, Own gl c → ¬ Used n i g1 g2 bs c) ∧ E 1 = .ptr n 0 ∧ E 4 = h.gf ∧ E 6 = .ptr (n + 1) 0 ∧ E 9 = .int .i64 (e.r + e.ds i : Nat) ∧ E 12 = .int .i64 (e.dg i j : Nat) ∧ E 13 = gl ∧ E 93 = e.gen ∧ E 94 = .int .i64 (e.r : Nat) ∧ E 95 = .int .i64 (i : Nat) ∧ E 99 = e.rw i ∧ E 100 = .int .i64 (e.w i : Nat) ∧ E 101 = .int .i64 (j : Nat) ∧ j ≤ e.w i ∧ ∀ u, u < j → ∀ d, d < e.n i u → 0 ≤ e.c i u d ∧ e.c i u d < qo e.p e.m) (fun j => e.w i - j) 0 ?_ ?_
    · exact ⟨.nil, B, h1, .nil, fun c hc => absurd hc own_nil, by simp -implicitDefEqProofs only [go_sem, Nat.reduceLT, Nat.reduceBEq, Nat.reduceAdd, Nat.reduceEqDiff, Nat.reduceLeDiff, Nat.reduceSub, Nat.reduceMul, e1], by simp -implicitDefEqProofs only [go_sem, Nat.reduceLT, Nat.reduceBEq, Nat.reduceAdd, Nat.reduceEqDiff, Nat.reduceLeDiff, Nat.reduceSub, Nat.reduceMul, e4], by simp -implicitDefEqProofs only [go_sem, Nat.reduceLT, Nat.reduceBEq, Nat.reduceAdd, Nat.reduceEqDiff, Nat.reduceLeDiff, Nat.reduceSub, Nat.reduceMul, e6], by simp -implicitDefEqProofs only [go_sem, Nat.reduceLT, Nat.reduceBEq, Nat.reduceAdd, Nat.reduceEqDiff, Nat.reduceLeDiff, Nat.reduceSub, Nat.reduceMul, e9], by simp -implicitDefEqProofs only [go_sem, Nat.reduceLT, Nat.reduceBEq, Nat.reduceAdd, Nat.reduceEqDiff, Nat.reduceLeDiff, Nat.reduceSub, Nat.reduceMul]; rfl, by simp -implicitDefEqProofs only [go_sem, Nat.reduceLT, Nat.reduceBEq, Nat.reduceAdd, Nat.reduceEqDiff, Nat.reduceLeDiff, Nat.reduceSub, Nat.reduceMul], by simp -implicitDefEqProofs only [go_sem, Nat.reduceLT, Nat.reduceBEq, Nat.reduceAdd, Nat.reduceEqDiff, Nat.reduceLeDiff, Nat.reduceSub, Nat.reduceMul, e93], by simp -implicitDefEqProofs only [go_sem, Nat.reduceLT, Nat.reduceBEq, Nat.reduceAdd, Nat.reduceEqDiff, Nat.reduceLeDiff, Nat.reduceSub, Nat.reduceMul, e94], by simp -implicitDefEqProofs only [go_sem, Nat.reduceLT, Nat.reduceBEq, Nat.reduceAdd, Nat.reduceEqDiff, Nat.reduceLeDiff, Nat.reduceSub, Nat.reduceMul, e95], by simp -implicitDefEqProofs only [go_sem, Nat.reduceLT, Nat.reduceBEq, Nat.reduceAdd, Nat.reduceEqDiff, Nat.reduceLeDiff, Nat.reduceSub, Nat.reduceMul]; rfl, by simp -implicitDefEqProofs only [go_sem, Nat.reduceLT, Nat.reduceBEq, Nat.reduceAdd, Nat.reduceEqDiff, Nat.reduceLeDiff, Nat.reduceSub, Nat.reduceMul], by simp -implicitDefEqProofs only [go_sem, Nat.reduceLT, Nat.reduceBEq, Nat.reduceAdd, Nat.reduceEqDiff, Nat.reduceLeDiff, Nat.reduceSub, Nat.reduceMul]; rfl, by omega, fun u hu => by omega⟩
    clear B h1 e1 e4 e6 e9 e93 e94 e95 E H' n'
    rintro j E H' n' ⟨gl, B, h1, sl, dl, e1, e4, e6, e9, e12, e13, e93, e94, e95, e99, e100, e101, hj, helj⟩
    simp -implicitDefEqProofs only [go_sem, Nat.reduceLT, Nat.reduceBEq, Nat.reduceAdd, Nat.reduceEqDiff, Nat.reduceLeDiff, Nat.reduceSub, Nat.reduceMul, e100, e101]
    refine c_split (fun hc' => ?_) (fun hc' => ?_)
    · have hjN : j < e.w i := by omega
      have hn := hB.n i j hiN hjN
      simp -implicitDefEqProofs only [go_sem, Nat.reduceLT, Nat.reduceBEq, Nat.reduceAdd, Nat.reduceEqDiff, Nat.reduceLeDiff, Nat.reduceSub, Nat.reduceMul, e99, e101, hc', hjN, gat_tab, e.rw_at, e.pl_at]
      refine loop_rule (fun (t : Nat) E H1 n1 => H1 = H' ∧ n1 = n' ∧ E 1 = .ptr n 0 ∧ E 4 = h.gf ∧ E 6 = .ptr (n + 1) 0 ∧ E 9 = .int .i64 (e.r + e.ds i : Nat) ∧ E 12 = .int .i64 (e.dg i j : Nat) ∧ E 13 = gl ∧ E 15 = isl (e.n i j) (e.c i j) ∧ E 93 = e.gen ∧ E 94 = .int .i64 (e.r : Nat) ∧ E 95 = .int .i64 (i : Nat) ∧ E 99 = e.rw i ∧ E 100 = .int .i64 (e.w i : Nat) ∧ E 101 = .int .i64 (j : Nat) ∧ E 105 = isl (e.n i j) (e.c i j) ∧ E 106 = .int .i64 (e.n i j : Nat) ∧ E 107 = .int .i64 (t : Nat) ∧ t ≤ e.n i j ∧ ∀ u, u < t → 0 ≤ e.c i j u ∧ e.c i j u < qo e.p e.m) (fun t => e.n i j - t) 0 ?_ ?_
      · exact ⟨rfl, rfl, by simp -implicitDefEqProofs only [go_sem, Nat.reduceLT, Nat.reduceBEq, Nat.reduceAdd, Nat.reduceEqDiff, Nat.reduceLeDiff, Nat.reduceSub, Nat.reduceMul, e1], by simp -implicitDefEqProofs only [go_sem, Nat.reduceLT, Nat.reduceBEq, Nat.reduceAdd, Nat.reduceEqDiff, Nat.reduceLeDiff, Nat.reduceSub, Nat.reduceMul, e4], by simp -implicitDefEqProofs only [go_sem, Nat.reduceLT, Nat.reduceBEq, Nat.reduceAdd, Nat.reduceEqDiff, Nat.reduceLeDiff, Nat.reduceSub, Nat.reduceMul, e6], by simp -implicitDefEqProofs only [go_sem, Nat.reduceLT, Nat.reduceBEq, Nat.reduceAdd, Nat.reduceEqDiff, Nat.reduceLeDiff, Nat.reduceSub, Nat.reduceMul, e9], by simp -implicitDefEqProofs only [go_sem, Nat.reduceLT, Nat.reduceBEq, Nat.reduceAdd, Nat.reduceEqDiff, Nat.reduceLeDiff, Nat.reduceSub, Nat.reduceMul, e12], by simp -implicitDefEqProofs only [go_sem, Nat.reduceLT, Nat.reduceBEq, Nat.reduceAdd, Nat.reduceEqDiff, Nat.reduceLeDiff, Nat.reduceSub, Nat.reduceMul, e13], by simp -implicitDefEqProofs only [go_sem, Nat.reduceLT, Nat.reduceBEq, Nat.reduceAdd, Nat.reduceEqDiff, Nat.reduceLeDiff, Nat.reduceSub, Nat.reduceMul], by simp -implicitDefEqProofs only [go_sem, Nat.reduceLT, Nat.reduceBEq, Nat.reduceAdd, Nat.reduceEqDiff, Nat.reduceLeDiff, Nat.reduceSub, Nat.reduceMul, e93], by simp -implicitDefEqProofs only [go_sem, Nat.reduceLT, Nat.reduceBEq, Nat.reduceAdd, Nat.reduceEqDiff, Nat.reduceLeDiff, Nat.reduceSub, Nat.reduceMul, e94], by simp -implicitDefEqProofs only [go_sem, Nat.reduceLT, Nat.reduceBEq, Nat.reduceAdd, Nat.reduceEqDiff, Nat.reduceLeDiff, Nat.reduceSub, Nat.reduceMul, e95], by simp -implicitDefEqProofs only [go_sem, Nat.reduceLT, Nat.reduceBEq, Nat.reduceAdd, Nat.reduceEqDiff, Nat.reduceLeDiff, Nat.reduceSub, Nat.reduceMul, e99, e.rw_at], by simp -implicitDefEqProofs only [go_sem, Nat.reduceLT, Nat.reduceBEq, Nat.reduceAdd, Nat.reduceEqDiff, Nat.reduceLeDiff, Nat.reduceSub, Nat.reduceMul, e100], by simp -implicitDefEqProofs only [go_sem, Nat.reduceLT, Nat.reduceBEq, Nat.reduceAdd, Nat.reduceEqDiff, Nat.reduceLeDiff, Nat.reduceSub, Nat.reduceMul, e101], by simp -implicitDefEqProofs only [go_sem, Nat.reduceLT, Nat.reduceBEq, Nat.reduceAdd, Nat.reduceEqDiff, Nat.reduceLeDiff, Nat.reduceSub, Nat.reduceMul], by simp -implicitDefEqProofs only [go_sem, Nat.reduceLT, Nat.reduceBEq, Nat.reduceAdd, Nat.reduceEqDiff, Nat.reduceLeDiff, Nat.reduceSub, Nat.reduceMul], by simp -implicitDefEqProofs only [go_sem, Nat.reduceLT, Nat.reduceBEq, Nat.reduceAdd, Nat.reduceEqDiff, Nat.reduceLeDiff, Nat.reduceSub, Nat.reduceMul]; rfl, by omega, fun u hu => by omega⟩
      clear e1 e4 e6 e9 e12 e13 e93 e94 e95 e99 e100 e101 E
      rintro t E H1 n1 ⟨rfl, rfl, e1, e4, e6, e9, e12, e13, e15, e93, e94, e95, e99, e100, e101, e105, e106, e107, ht, helt⟩
      simp -implicitDefEqProofs only [go_sem, Nat.reduceLT, Nat.reduceBEq, Nat.reduceAdd, Nat.reduceEqDiff, Nat.reduceLeDiff, Nat.reduceSub, Nat.reduceMul, e106, e107]
      refine c_split (fun hc2 => ?_) (fun hc2 => ?_)
      · have htN : t < e.n i j := by omega
        have hwr := wrap64 (x := (t : Int) + 1) (by omega)
        simp -implicitDefEqProofs only [go_sem, Nat.reduceLT, Nat.reduceBEq, Nat.reduceAdd, Nat.reduceEqDiff, Nat.reduceLeDiff, Nat.reduceSub, Nat.reduceMul, e4, e105, e107, hc2, htN, gat_tab]
        refine call_of (sp_GF_Is h.g (e.c i j t)) ?_
        by_cases hx : 0 ≤ e.c i j t ∧ e.c i j t < (qn M : Nat)
        · simp -implicitDefEqProofs only [go_sem, Nat.reduceLT, Nat.reduceBEq, Nat.reduceAdd, Nat.reduceEqDiff, Nat.reduceLeDiff, Nat.reduceSub, Nat.reduceMul, hx, e107, hwr]
          refine l_n ⟨t + 1, by omega, rfl, rfl, by simp -implicitDefEqProofs only [go_sem, Nat.reduceLT, Nat.reduceBEq, Nat.reduceAdd, Nat.reduceEqDiff, Nat.reduceLeDiff, Nat.reduceSub, Nat.reduceMul, e1], by simp -implicitDefEqProofs only [go_sem, Nat.reduceLT, Nat.reduceBEq, Nat.reduceAdd, Nat.reduceEqDiff, Nat.reduceLeDiff, Nat.reduceSub, Nat.reduceMul, e4], by simp -implicitDefEqProofs only [go_sem, Nat.reduceLT, Nat.reduceBEq, Nat.reduceAdd, Nat.reduceEqDiff, Nat.reduceLeDiff, Nat.reduceSub, Nat.reduceMul, e6], by simp -implicitDefEqProofs only [go_sem, Nat.reduceLT, Nat.reduceBEq, Nat.reduceAdd, Nat.reduceEqDiff, Nat.reduceLeDiff, Nat.reduceSub, Nat.reduceMul, e9], by simp -implicitDefEqProofs only [go_sem, Nat.reduceLT, Nat.reduceBEq, Nat.reduceAdd, Nat.reduceEqDiff, Nat.reduceLeDiff, Nat.reduceSub, Nat.reduceMul, e12], by simp -implicitDefEqProofs only [go_sem, Nat.reduceLT, Nat.reduceBEq, Nat.reduceAdd, Nat.reduceEqDiff, Nat.reduceLeDiff, Nat.reduceSub, Nat.reduceMul, e13], by simp -implicitDefEqProofs only [go_sem, Nat.reduceLT, Nat.reduceBEq, Nat.reduceAdd, Nat.reduceEqDiff, Nat.reduceLeDiff, Nat.reduceSub, Nat.reduceMul, e15], by simp -implicitDefEqProofs only [go_sem, Nat.reduceLT, Nat.reduceBEq, Nat.reduceAdd, Nat.reduceEqDiff, Nat.reduceLeDiff, Nat.reduceSub, Nat.reduceMul, e93], by simp -implicitDefEqProofs only [go_sem, Nat.reduceLT, Nat.reduceBEq, Nat.reduceAdd, Nat.reduceEqDiff, Nat.reduceLeDiff, Nat.reduceSub, Nat.reduceMul, e94], by simp -implicitDefEqProofs only [go_sem, Nat.reduceLT, Nat.reduceBEq, Nat.reduceAdd, Nat.reduceEqDiff, Nat.reduceLeDiff, Nat.reduceSub, Nat.reduceMul, e95], by simp -implicitDefEqProofs only [go_sem, Nat.reduceLT, Nat.reduceBEq, Nat.reduceAdd, Nat.reduceEqDiff, Nat.reduceLeDiff, Nat.reduceSub, Nat.reduceMul, e99, e.rw_at], by simp -implicitDefEqProofs only [go_sem, Nat.reduceLT, Nat.reduceBEq, Nat.reduceAdd, Nat.reduceEqDiff, Nat.reduceLeDiff, Nat.reduceSub, Nat.reduceMul, e100], by simp -implicitDefEqProofs only [go_sem, Nat.reduceLT, Nat.reduceBEq, Nat.reduceAdd, Nat.reduceEqDiff, Nat.reduceLeDiff, Nat.reduceSub, Nat.reduceMul, e101], by simp -implicitDefEqProofs only [go_sem, Nat.reduceLT, Nat.reduceBEq, Nat.reduceAdd, Nat.reduceEqDiff, Nat.reduceLeDiff, Nat.reduceSub, Nat.reduceMul, e105], by simp -implicitDefEqProofs only [go_sem, Nat.reduceLT, Nat.reduceBEq, Nat.reduceAdd, Nat.reduceEqDiff, Nat.reduceLeDiff, Nat.reduceSub, Nat.reduceMul, e106], by simp -implicitDefEqProofs only [go_sem, Nat.reduceLT, Nat.reduceBEq, Nat.reduceAdd, Nat.reduceEqDiff, Nat.reduceLeDiff, Nat.reduceSub, Nat.reduceMul]; rfl, by omega, fun u hu => ?_⟩
          by_cases et : u = t
          · subst et; rw [hqo]; exact hx
          · exact helt u (by omega)
        · simp -implicitDefEqProofs only [go_sem, Nat.reduceLT, Nat.reduceBEq, Nat.reduceAdd, Nat.reduceEqDiff, Nat.reduceLeDiff, Nat.reduceSub, Nat.reduceMul, hx]
          exact err _ _ _ 2 (by simp -implicitDefEqProofs only [go_sem, Nat.reduceLT, Nat.reduceBEq, Nat.reduceAdd, Nat.reduceEqDiff, Nat.reduceLeDiff, Nat.reduceSub, Nat.reduceMul]) (by simp -implicitDefEqProofs only [go_sem, Nat.reduceLT, Nat.reduceBEq, Nat.reduceAdd, Nat.reduceEqDiff, Nat.reduceLeDiff, Nat.reduceSub, Nat.reduceMul]) (by rw [Enc.ce, if_pos hA, if_pos hS, if_pos h64, if_neg fun hs => hx (by have := hs i j hiN hjN t htN; rwa [hqo] at this)]) (by decide) B.old
      · have : t = e.n i j := by omega
        subst this
        simp -implicitDefEqProofs only [go_sem, Nat.reduceLT, Nat.reduceBEq, Nat.reduceAdd, Nat.reduceEqDiff, Nat.reduceLeDiff, Nat.reduceSub, Nat.reduceMul, e4, e15]
        refine call_of (sp_Canon' h.g (e.n i j) (e.c i j) (by omega) hq fun u hu => by have := helt u hu; rwa [hqo] at this) ?_
        have htn := tn_le (e.c i j) (e.n i j)
        have hdg : e.dg i (j + 1) = max (e.dg i j) (hid (e.c i j) (e.n i j)) := rfl
        have hht := hid_tn (e.c i j) (e.n i j)
        have hwt := wrap64 (x := ((tn (e.c i j) (e.n i j) : Nat) : Int) - 1) (by omega)
        have hmx : (max ((e.dg i j : Nat) : Int) (((tn (e.c i j) (e.n i j) : Nat) : Int) - 1)) = ((e.dg i (j + 1) : Nat) : Int) := by rw [hdg]; omega
        have hwj := wrap64 (x := (j : Int) + 1) (by omega)
        have hlo := B.lo
        simp -implicitDefEqProofs only [go_sem, Nat.reduceLT, Nat.reduceBEq, Nat.reduceAdd, Nat.reduceEqDiff, Nat.reduceLeDiff, Nat.reduceSub, Nat.reduceMul, e13]
        have sl' : Sl (upd H1 n1 (some [isl (tn (e.c i j) (e.n i j)) (e.c i j)])) (n + 2) (n1 + 1) gl j (e.rowf i) := sl.keep (fun c hc => upd_ne _ _ (by have := sl.lt hc; omega)) (by omega)
        refine app_one sl' (e.rowf_at i j).symm rfl (by omega) fun H2 k1 k2 => ?_
        have keep : ∀ c, c < n1 → ¬ Own gl c → H2 c = H1 c := fun c hc hg => by rw [k2 c (by omega) hg, upd_ne _ _ (by omega)]
        simp -implicitDefEqProofs only [go_sem, Nat.reduceLT, Nat.reduceBEq, Nat.reduceAdd, Nat.reduceEqDiff, Nat.reduceLeDiff, Nat.reduceSub, Nat.reduceMul, e12, hwt, hmx, e101, hwj]
        refine l_n ⟨j + 1, by omega, .own (n1 + 1) 0 (j + 1), B.keep (by omega) ?_, ?_, ?_, ?_, by simp -implicitDefEqProofs only [go_sem, Nat.reduceLT, Nat.reduceBEq, Nat.reduceAdd, Nat.reduceEqDiff, Nat.reduceLeDiff, Nat.reduceSub, Nat.reduceMul, e1], by simp -implicitDefEqProofs only [go_sem, Nat.reduceLT, Nat.reduceBEq, Nat.reduceAdd, Nat.reduceEqDiff, Nat.reduceLeDiff, Nat.reduceSub, Nat.reduceMul, e4], by simp -implicitDefEqProofs only [go_sem, Nat.reduceLT, Nat.reduceBEq, Nat.reduceAdd, Nat.reduceEqDiff, Nat.reduceLeDiff, Nat.reduceSub, Nat.reduceMul, e6], by simp -implicitDefEqProofs only [go_sem, Nat.reduceLT, Nat.reduceBEq, Nat.reduceAdd, Nat.reduceEqDiff, Nat.reduceLeDiff, Nat.reduceSub, Nat.reduceMul, e9], by simp -implicitDefEqProofs only [go_sem, Nat.reduceLT, Nat.reduceBEq, Nat.reduceAdd, Nat.reduceEqDiff, Nat.reduceLeDiff, Nat.reduceSub, Nat.reduceMul], by simp -implicitDefEqProofs only [go_sem, Nat.reduceLT, Nat.reduceBEq, Nat.reduceAdd, Nat.reduceEqDiff, Nat.reduceLeDiff, Nat.reduceSub, Nat.reduceMul], by simp -implicitDefEqProofs only [go_sem, Nat.reduceLT, Nat.reduceBEq, Nat.reduceAdd, Nat.reduceEqDiff, Nat.reduceLeDiff, Nat.reduceSub, Nat.reduceMul, e93], by simp -implicitDefEqProofs only [go_sem, Nat.reduceLT, Nat.reduceBEq, Nat.reduceAdd, Nat.reduceEqDiff, Nat.reduceLeDiff, Nat.reduceSub, Nat.reduceMul, e94], by simp -implicitDefEqProofs only [go_sem, Nat.reduceLT, Nat.reduceBEq, Nat.reduceAdd, Nat.reduceEqDiff, Nat.reduceLeDiff, Nat.reduceSub, Nat.reduceMul, e95], by simp -implicitDefEqProofs only [go_sem, Nat.reduceLT, Nat.reduceBEq, Nat.reduceAdd, Nat.reduceEqDiff, Nat.reduceLeDiff, Nat.reduceSub, Nat.reduceMul, e99, e.rw_at], by simp -implicitDefEqProofs only [go_sem, Nat.reduceLT, Nat.reduceBEq, Nat.reduceAdd, Nat.reduceEqDiff, Nat.reduceLeDiff, Nat.reduceSub, Nat.reduceMul, e100], by simp -implicitDefEqProofs only [go_sem, Nat.reduceLT, Nat.reduceBEq, Nat.reduceAdd, Nat.reduceEqDiff, Nat.reduceLeDiff, Nat.reduceSub, Nat.reduceMul]; rfl, by omega, fun u hu => ?_⟩
        · rintro c (hc | hc)
          · exact keep c (by omega) fun hg => by have := sl.lt hg; omega
          · exact keep c (B.lt hc).1 fun hg => dl c hg hc
        · rw [keep (n + 1) (by omega) fun hg => by have := sl.lt hg; omega]; exact h1
        · exact .inr ⟨n1 + 1, by omega, by omega, rfl, k1⟩
        · intro c hc hu
          rw [own_own] at hc
          have := (B.lt hu).1
          omega
        · by_cases et : u = j
          · subst et; exact helt
          · exact helj u (by omega)
    · have : j = e.w i := by omega
      subst this
      obtain ⟨bl, l1, l2, rfl, l3⟩ := sl.own hwi0
      have l4 := dl bl (own_own.2 rfl)
      have hlo := B.lo
      have hwi' := wrap64 (x := (i : Int) + 1) (by omega)
      have hdeg := e.deg_le hB hiN
      have hdeg' : e.dg i (e.w i) = e.deg i := rfl
      have hdsS : e.ds (i + 1) = e.ds i + e.deg i := rfl
      have hadd : IntKind.i64.wrap (((e.r + e.ds i : Nat) : Int) + ((e.deg i : Nat) : Int)) = ((e.r + e.ds (i + 1) : Nat) : Int) := (wrap64 (by omega)).trans (by omega)
      have hmm : (max ((e.mem i : Nat) : Int) ((e.deg i : Nat) : Int)) = ((e.mem (i + 1) : Nat) : Int) := by rw [Enc.mem]; omega
      rw [hdeg'] at e12
      have c1 := B.s1.cell
      have c2 := B.s2.cell
      simp -implicitDefEqProofs only [go_sem, Nat.reduceLT, Nat.reduceBEq, Nat.reduceAdd, Nat.reduceEqDiff, Nat.reduceLeDiff, Nat.reduceSub, Nat.reduceMul, e6, e13, h1]
      have s1' : Sl (upd H' n' (some [GV.own bl 0 (e.w i)])) (n + 2) (n' + 1) g1 i (fun t => .own (upf bs i bl t) 0 (e.w t)) := (B.s1.keep (fun c hc => upd_ne _ _ (by have := B.s1.lt hc; omega)) (by omega)).congr fun t ht => by rw [upf_ne _ _ (by omega)]
      refine app_one s1' (by rw [upf_same]) rfl (by omega) fun H1 k1 k2 => ?_
      have q1 : ∀ c, c < n' → ¬ Own g1 c → H1 c = H' c := fun c hc hg => by rw [k2 c (by omega) hg, upd_ne _ _ (by omega)]
      have hm1 : H1 (n + 1) = _ := (q1 (n + 1) (by omega) fun hg => by have := B.s1.lt hg; omega).trans h1
      have f1 : (n + 1 = n' + 2) = False := eq_false (by omega)
      have f2 : (n' + 1 + 1 : Nat) = n' + 2 := rfl
      have f3 : (n' + 2 + 1 : Nat) = n' + 3 := rfl
      simp -implicitDefEqProofs only [go_sem, Nat.reduceLT, Nat.reduceBEq, Nat.reduceAdd, Nat.reduceEqDiff, Nat.reduceLeDiff, Nat.reduceSub, Nat.reduceMul, e6, e12, hm1, f2]
      have s2' : Sl (upd (upd H1 (n + 1) (some (mcs h.gf (.own (n' + 1) 0 (i + 1)) g2 .nil e.r (e.w 0) (qn M) (e.mem i) 1))) (n' + 2) (some [GV.int .i64 (e.deg i : Nat)])) (n + 2) (n' + 3) g2 i (it fun t => (e.deg t : Nat)) := B.s2.keep (fun c hc => by
        have := B.s2.lt hc
        rw [upd_ne _ _ (by omega), upd_ne _ _ (by omega)]
        exact q1 c (by omega) fun hg => B.d2 c hg hc) (by omega)
      refine app_one s2' rfl rfl (by omega) fun H2 k3 k4 => ?_
      have q2 : ∀ c, c < n' + 2 → c ≠ n + 1 → ¬ Own g2 c → H2 c = H1 c := fun c hc hc1 hg => by rw [k4 c (by omega) hg, upd_ne _ _ (by omega), upd_ne _ _ hc1]
      have hm2 : H2 (n + 1) = some (mcs h.gf (.own (n' + 1) 0 (i + 1)) g2 .nil e.r (e.w 0) (qn M) (e.mem i) 1) := by
        rw [k4 (n + 1) (by omega) fun hg => by have := B.s2.lt hg; omega, upd_ne _ _ (by omega), upd_same]
      simp -implicitDefEqProofs only [go_sem, Nat.reduceLT, Nat.reduceBEq, Nat.reduceAdd, Nat.reduceEqDiff, Nat.reduceLeDiff, Nat.reduceSub, Nat.reduceMul, e6, e9, e12, e95, hm2, hmm, hadd, hwi']
      refine l_n ⟨i + 1, by omega, .own (n' + 1) 0 (i + 1), .own (n' + 3) 0 (i + 1), upf bs i bl, ?_, by simp -implicitDefEqProofs only [go_sem, Nat.reduceLT, Nat.reduceBEq, Nat.reduceAdd, Nat.reduceEqDiff, Nat.reduceLeDiff, Nat.reduceSub, Nat.reduceMul], by simp -implicitDefEqProofs only [go_sem, Nat.reduceLT, Nat.reduceBEq, Nat.reduceAdd, Nat.reduceEqDiff, Nat.reduceLeDiff, Nat.reduceSub, Nat.reduceMul, e1], by simp -implicitDefEqProofs only [go_sem, Nat.reduceLT, Nat.reduceBEq, Nat.reduceAdd, Nat.reduceEqDiff, Nat.reduceLeDiff, Nat.reduceSub, Nat.reduceMul, e4], by simp -implicitDefEqProofs only [go_sem, Nat.reduceLT, Nat.reduceBEq, Nat.reduceAdd, Nat.reduceEqDiff, Nat.reduceLeDiff, Nat.reduceSub, Nat.reduceMul, e6], by simp -implicitDefEqProofs only [go_sem, Nat.reduceLT, Nat.reduceBEq, Nat.reduceAdd, Nat.reduceEqDiff, Nat.reduceLeDiff, Nat.reduceSub, Nat.reduceMul], by simp -implicitDefEqProofs only [go_sem, Nat.reduceLT, Nat.reduceBEq, Nat.reduceAdd, Nat.reduceEqDiff, Nat.reduceLeDiff, Nat.reduceSub, Nat.reduceMul, e93], by simp -implicitDefEqProofs only [go_sem, Nat.reduceLT, Nat.reduceBEq, Nat.reduceAdd, Nat.reduceEqDiff, Nat.reduceLeDiff, Nat.reduceSub, Nat.reduceMul, e94], by simp -implicitDefEqProofs only [go_sem, Nat.reduceLT, Nat.reduceBEq, Nat.reduceAdd, Nat.reduceEqDiff, Nat.reduceLeDiff, Nat.reduceSub, Nat.reduceMul]; rfl, by omega, by omega, fun t u ht hu => ?_⟩
      · refine B.step l1 l2 l3 l4 (by omega) (by omega) (by omega) (by omega) (by omega) ?_ ?_ fun c hc1 hc2 hg1 hg2 => ?_
        · rw [upd_ne _ _ (by omega), q2 (n' + 1) (by omega) (by omega) fun hg => by have := B.s2.lt hg; omega]; exact k1
        · rw [upd_ne _ _ (by omega)]; exact k3
        · rw [upd_ne _ _ hc2, q2 c (by omega) hc2 hg2, q1 c hc1 hg1]
      · by_cases et : t = i
        · subst et; exact helj u hu
        · exact hel t u (by omega) hu
  have hi' : i = e.r := by omega
  subst hi'
  have hEl : e.El := hel
  have htot := e.tot_ds e.r
  simp -implicitDefEqProofs only [go_sem, Nat.reduceLT, Nat.reduceBEq, Nat.reduceAdd, Nat.reduceEqDiff, Nat.reduceLeDiff, Nat.reduceSub, Nat.reduceMul, e6, e9, h1]
  rw [← htot]
  have hh1 : (2 : Int) ≤ ((qn M : Nat) : Int) := by omega
  have hh2 : ((qn M : Nat) : Int) ≤ 256 := by omega
  refine call_of (sp_Exp ((qn M : Nat) : Int) 65536 (e.tot e.r) hh1 hh2 (by omega) (by decide) (by decide)) ?_
  by_cases hx : ((qn M : Nat) : Int) ^ e.tot e.r ≤ 65536
  case neg =>
    have h80 : ((8 : Int) = 0) = False := by simp
    simp -implicitDefEqProofs only [go_sem, Nat.reduceLT, Nat.reduceBEq, Nat.reduceAdd, Nat.reduceEqDiff, Nat.reduceLeDiff, Nat.reduceSub, Nat.reduceMul, hx, h80]
    exact err _ _ _ 8 (by simp -implicitDefEqProofs only [go_sem, Nat.reduceLT, Nat.reduceBEq, Nat.reduceAdd, Nat.reduceEqDiff, Nat.reduceLeDiff, Nat.reduceSub, Nat.reduceMul]) (by simp -implicitDefEqProofs only [go_sem, Nat.reduceLT, Nat.reduceBEq, Nat.reduceAdd, Nat.reduceEqDiff, Nat.reduceLeDiff, Nat.reduceSub, Nat.reduceMul]) (by rw [Enc.ce, if_pos hA, if_pos hS, if_pos h64, if_pos hEl, hqo, if_neg hx]) (by decide) B.old
  have hce : e.ce = 0 := by rw [Enc.ce, if_pos hA, if_pos hS, if_pos h64, if_pos hEl, hqo, if_pos hx]
  obtain ⟨bd, b1, b2, rfl, b3⟩ := B.s2.own hz2
  have hxN : qn M ^ e.tot e.r ≤ 65536 := by
    have := hx
    rw [← Int.natCast_pow] at this
    omega
  have hpw : ∀ x, x ≤ e.ds e.r → qn M ^ x ≤ 65536 := fun x hx => Nat.le_trans (Nat.pow_le_pow_right (by omega) (by omega)) hxN
  have h1' : H' (n + 1) = some (mcs h.gf g1 (.own bd 0 e.r) .nil e.r (e.w 0) (qn M) (e.mem e.r) (qn M ^ e.ds 0)) := h1
  simp -implicitDefEqProofs only [go_sem, Nat.reduceLT, Nat.reduceBEq, Nat.reduceAdd, Nat.reduceEqDiff, Nat.reduceLeDiff, Nat.reduceSub, Nat.reduceMul, hx, e6, h1]
  refine loop_rule (fun (i : Nat) E H1 n1 => ∃ g3, Bo e n H e.r g1 (.own bd 0 e.r) bs H1 n1 ∧ H1 (n + 1) = some (mcs h.gf g1 (.own bd 0 e.r) g3 e.r (e.w 0) (qn M) (e.mem e.r) (qn M ^ e.ds i)) ∧ Sl H1 (n + 2) n1 g3 i (it fun t => (qn M ^ e.ds t : Nat)) ∧ (∀ c, Own g3 c → ¬ Used n e.r g1 (.own bd 0 e.r) bs c) ∧ E 6 = .ptr (n + 1) 0 ∧ E 176 = .own bd 0 e.r ∧ E 177 = .int .i64 (e.r : Nat) ∧ E 178 = .int .i64 (i : Nat) ∧ i ≤ e.r) (fun i => e.r - i) 0 ?_ ?_
  · exact ⟨.nil, B, h1', .nil, fun c hc => absurd hc own_nil, by simp -implicitDefEqProofs only [go_sem, Nat.reduceLT, Nat.reduceBEq, Nat.reduceAdd, Nat.reduceEqDiff, Nat.reduceLeDiff, Nat.reduceSub, Nat.reduceMul, e6], by simp -implicitDefEqProofs only [go_sem, Nat.reduceLT, Nat.reduceBEq, Nat.reduceAdd, Nat.reduceEqDiff, Nat.reduceLeDiff, Nat.reduceSub, Nat.reduceMul], by simp -implicitDefEqProofs only [go_sem, Nat.reduceLT, Nat.reduceBEq, Nat.reduceAdd, Nat.reduceEqDiff, Nat.reduceLeDiff, Nat.reduceSub, Nat.reduceMul], by simp -implicitDefEqProofs only [go_sem, Nat.reduceLT, Nat.reduceBEq, Nat.reduceAdd, Nat.reduceEqDiff, Nat.reduceLeDiff, Nat.reduceSub, Nat.reduceMul]; rfl, by omega⟩
  clear B h1 h1' b1 b2 b3 e1 e4 e6 e9 e93 e94 e95 E H' n' hc hds hi
  rintro i E H1 n1 ⟨g3, B, h1, s3, d3, e6, e176, e177, e178, hi⟩
  obtain ⟨bd', b1, b2, b4, b3⟩ := B.s2.own hz2
  have hlo := B.lo
  injection b4 with b4
  subst b4
  simp -implicitDefEqProofs only [go_sem, Nat.reduceLT, Nat.reduceBEq, Nat.reduceAdd, Nat.reduceEqDiff, Nat.reduceLeDiff, Nat.reduceSub, Nat.reduceMul, e177, e178]
  refine c_split (fun hc => ?_) (fun hc => ?_)
  · have hiN : i < e.r := by omega
    have hdeg := e.deg_le hB hiN
    have hdsS : e.ds (i + 1) = e.ds i + e.deg i := rfl
    have hdsle : e.ds (i + 1) ≤ e.ds e.r := sumn_mono (by omega)
    have f0 : n + 1 < n1 := by omega
    have hU : ∀ c, Used n e.r g1 (.own bd 0 e.r) bs c → c < n1 := fun c hc => (B.lt hc).1
    have hwi' := wrap64 (x := (i : Int) + 1) (by omega)
    have c3 := s3.cell
    simp -implicitDefEqProofs only [go_sem, Nat.reduceLT, Nat.reduceBEq, Nat.reduceAdd, Nat.reduceEqDiff, Nat.reduceLeDiff, Nat.reduceSub, Nat.reduceMul, e6, e176, e178, b3, h1, hc, hiN, gat_tab, f0]
    refine app_one s3 rfl rfl (by omega) fun H2 k1 k2 => ?_
    have q1 : ∀ c, c < n1 → ¬ Own g3 c → H2 c = H1 c := fun c hc hg => k2 c (by omega) hg
    have hm1 : H2 (n + 1) = _ := (q1 (n + 1) (by omega) fun hg => by have := s3.lt hg; omega).trans h1
    simp -implicitDefEqProofs only [go_sem, Nat.reduceLT, Nat.reduceBEq, Nat.reduceAdd, Nat.reduceEqDiff, Nat.reduceLeDiff, Nat.reduceSub, Nat.reduceMul, hm1]
    refine loop_rule (fun (u : Nat) E H3 n3 => n3 = n1 + 1 ∧ Bo e n H e.r g1 (.own bd 0 e.r) bs H3 n3 ∧ H3 (n + 1) = some (mcs h.gf g1 (.own bd 0 e.r) (.own n1 0 (i + 1)) e.r (e.w 0) (qn M) (e.mem e.r) (qn M ^ (e.ds i + u))) ∧ H3 n1 = some (tab (i + 1) (it fun t => (qn M ^ e.ds t : Nat))) ∧ E 6 = .ptr (n + 1) 0 ∧ E 176 = .own bd 0 e.r ∧ E 177 = .int .i64 (e.r : Nat) ∧ E 178 = .int .i64 (i : Nat) ∧ E 195 = .int .i64 (e.deg i : Nat) ∧ E 196 = .int .i64 (u : Nat) ∧ u ≤ e.deg i) (fun u => e.deg i - u) 0 ?_ ?_
    · refine ⟨rfl, B.keep (by omega) ?_, by simp -implicitDefEqProofs only [go_sem, Nat.reduceLT, Nat.reduceBEq, Nat.reduceAdd, Nat.reduceEqDiff, Nat.reduceLeDiff, Nat.reduceSub, Nat.reduceMul], ?_, by simp -implicitDefEqProofs only [go_sem, Nat.reduceLT, Nat.reduceBEq, Nat.reduceAdd, Nat.reduceEqDiff, Nat.reduceLeDiff, Nat.reduceSub, Nat.reduceMul, e6], by simp -implicitDefEqProofs only [go_sem, Nat.reduceLT, Nat.reduceBEq, Nat.reduceAdd, Nat.reduceEqDiff, Nat.reduceLeDiff, Nat.reduceSub, Nat.reduceMul, e176], by simp -implicitDefEqProofs only [go_sem, Nat.reduceLT, Nat.reduceBEq, Nat.reduceAdd, Nat.reduceEqDiff, Nat.reduceLeDiff, Nat.reduceSub, Nat.reduceMul, e177], by simp -implicitDefEqProofs only [go_sem, Nat.reduceLT, Nat.reduceBEq, Nat.reduceAdd, Nat.reduceEqDiff, Nat.reduceLeDiff, Nat.reduceSub, Nat.reduceMul, e178], by simp -implicitDefEqProofs only [go_sem, Nat.reduceLT, Nat.reduceBEq, Nat.reduceAdd, Nat.reduceEqDiff, Nat.reduceLeDiff, Nat.reduceSub, Nat.reduceMul], by simp -implicitDefEqProofs only [go_sem, Nat.reduceLT, Nat.reduceBEq, Nat.reduceAdd, Nat.reduceEqDiff, Nat.reduceLeDiff, Nat.reduceSub, Nat.reduceMul]; rfl, by omega⟩
      · rintro c (hc | hc)
        · rw [upd_ne _ _ (by omega)]; exact q1 c (by omega) fun hg => by have := s3.lt hg; omega
        · have := B.lt hc
          rw [upd_ne _ _ this.2]; exact q1 c this.1 fun hg => d3 c hg hc
      · rw [upd_ne _ _ (by omega)]; exact k1
    clear B h1 s3 e6 e176 e177 e178 hm1 k1 k2 q1 H2 b1 b2 b3 E
    rintro u E H3 n3 ⟨rfl, B, h1, h2, e6, e176, e177, e178, e195, e196, hu⟩
    simp -implicitDefEqProofs only [go_sem, Nat.reduceLT, Nat.reduceBEq, Nat.reduceAdd, Nat.reduceEqDiff, Nat.reduceLeDiff, Nat.reduceSub, Nat.reduceMul, e195, e196]
    refine c_split (fun hc' => ?_) (fun hc' => ?_)
    · have f1 : n + 1 < n1 + 1 := by omega
      have hps : qn M ^ (e.ds i + (u + 1)) = qn M ^ (e.ds i + u) * qn M := Nat.pow_succ ..
      have hle := hpw (e.ds i + (u + 1)) (by omega)
      have hmul : ((qn M ^ (e.ds i + u) : Nat) : Int) * ((qn M : Nat) : Int) = ((qn M ^ (e.ds i + (u + 1)) : Nat) : Int) := by rw [hps]; push_cast; rfl
      have hwm := wrap64 (x := ((qn M ^ (e.ds i + (u + 1)) : Nat) : Int)) (by omega)
      have hwu := wrap64 (x := (u : Int) + 1) (by omega)
      simp -implicitDefEqProofs only [go_sem, Nat.reduceLT, Nat.reduceBEq, Nat.reduceAdd, Nat.reduceEqDiff, Nat.reduceLeDiff, Nat.reduceSub, Nat.reduceMul, e6, e196, h1, f1, hmul, hwm, hwu]
      refine l_n ⟨u + 1, by omega, rfl, B.keep (Nat.le_refl _) ?_, by simp -implicitDefEqProofs only [go_sem, Nat.reduceLT, Nat.reduceBEq, Nat.reduceAdd, Nat.reduceEqDiff, Nat.reduceLeDiff, Nat.reduceSub, Nat.reduceMul], ?_, by simp -implicitDefEqProofs only [go_sem, Nat.reduceLT, Nat.reduceBEq, Nat.reduceAdd, Nat.reduceEqDiff, Nat.reduceLeDiff, Nat.reduceSub, Nat.reduceMul, e6], by simp -implicitDefEqProofs only [go_sem, Nat.reduceLT, Nat.reduceBEq, Nat.reduceAdd, Nat.reduceEqDiff, Nat.reduceLeDiff, Nat.reduceSub, Nat.reduceMul, e176], by simp -implicitDefEqProofs only [go_sem, Nat.reduceLT, Nat.reduceBEq, Nat.reduceAdd, Nat.reduceEqDiff, Nat.reduceLeDiff, Nat.reduceSub, Nat.reduceMul, e177], by simp -implicitDefEqProofs only [go_sem, Nat.reduceLT, Nat.reduceBEq, Nat.reduceAdd, Nat.reduceEqDiff, Nat.reduceLeDiff, Nat.reduceSub, Nat.reduceMul, e178], by simp -implicitDefEqProofs only [go_sem, Nat.reduceLT, Nat.reduceBEq, Nat.reduceAdd, Nat.reduceEqDiff, Nat.reduceLeDiff, Nat.reduceSub, Nat.reduceMul, e195], by simp -implicitDefEqProofs only [go_sem, Nat.reduceLT, Nat.reduceBEq, Nat.reduceAdd, Nat.reduceEqDiff, Nat.reduceLeDiff, Nat.reduceSub, Nat.reduceMul]; rfl, by omega⟩
      · rintro c (hc | hc)
        · exact upd_ne _ _ (by omega)
        · exact upd_ne _ _ (B.lt hc).2
      · rw [upd_ne _ _ (by omega)]; exact h2
    · have hu' : u = e.deg i := by omega
      subst hu'
      simp -implicitDefEqProofs only [go_sem, Nat.reduceLT, Nat.reduceBEq, Nat.reduceAdd, Nat.reduceEqDiff, Nat.reduceLeDiff, Nat.reduceSub, Nat.reduceMul, e178, hwi']
      refine l_n ⟨i + 1, by omega, .own n1 0 (i + 1), B, by rw [hdsS]; exact h1, .inr ⟨n1, by omega, by omega, rfl, h2⟩, ?_, by simp -implicitDefEqProofs only [go_sem, Nat.reduceLT, Nat.reduceBEq, Nat.reduceAdd, Nat.reduceEqDiff, Nat.reduceLeDiff, Nat.reduceSub, Nat.reduceMul, e6], by simp -implicitDefEqProofs only [go_sem, Nat.reduceLT, Nat.reduceBEq, Nat.reduceAdd, Nat.reduceEqDiff, Nat.reduceLeDiff, Nat.reduceSub, Nat.reduceMul, e176], by simp -implicitDefEqProofs only [go_sem, Nat.reduceLT, Nat.reduceBEq, Nat.reduceAdd, Nat.reduceEqDiff, Nat.reduceLeDiff, Nat.reduceSub, Nat.reduceMul, e177], by simp -implicitDefEqProofs only [go_sem, Nat.reduceLT, Nat.reduceBEq, Nat.reduceAdd, Nat.reduceEqDiff, Nat.reduceLeDiff, Nat.reduceSub, Nat.reduceMul]; rfl, by omega⟩
      intro c hc hu
      rw [own_own] at hc
      have := hU c hu
      omega
  · have hi' : i = e.r := by omega
    subst hi'
    simp -implicitDefEqProofs only [go_sem, Nat.reduceLT, Nat.reduceBEq, Nat.reduceAdd, Nat.reduceEqDiff, Nat.reduceLeDiff, Nat.reduceSub, Nat.reduceMul, e6]
    refine fin_ret2 rfl (by decide) (by decide) ?_ (by rw [hce]; exact .int _ _) B.old
    rw [if_pos hce]
    obtain ⟨bg, g1a, g1b, rfl, g1c⟩ := B.s1.own hz2
    obtain ⟨bf, g3a, g3b, rfl, g3c⟩ := s3.own hz2
    simp -implicitDefEqProofs only [go_sem, Nat.reduceLT, Nat.reduceBEq, Nat.reduceAdd, Nat.reduceEqDiff, Nat.reduceLeDiff, Nat.reduceSub, Nat.reduceMul]
    refine .ptrf (n + 1) 0 _ _ h1 (by omega) (fun i a c => by omega) (by simp) rfl fun j hj => ?_
    rcases j with _ | _ | _ | _ | _ | _ | _ | _ | _ | j
    · exact (pl_gf h.g).tr
    · refine .ownf bg 0 e.r _ _ g1c (by omega) (fun i a c => by omega) (by rw [tab_len]; omega) tab_len fun t ht => ?_
      rw [Nat.zero_add, gat_tab ht, gat_tab ht]
      obtain ⟨r1, r2, r3⟩ := B.rows t ht
      refine .ownf (bs t) 0 (e.w t) _ _ r3 (by omega) (fun i a c => by omega) (by rw [tab_len]; omega) tab_len fun u hu => ?_
      rw [Nat.zero_add, gat_tab hu, e.rowf_at]
      exact (pl_isl _ _).tr
    · exact .int _ _
    · exact .int _ _
    · exact fz_own_isl b3 (by omega)
    · exact .int _ _
    · exact .int _ _
    · exact .int _ _
    · exact fz_own_isl g3c (by omega)
    · simp at hj; omega
end
end Go.Proofs.Ytdpibcniodhinaa.Gh
/- The statement ConvChecks, over ghost values. -/
namespace Go.Proofs.Ytdpibcniodhinaa.Gh
open Go Go.RowKit
open Alg (CR Ps Dg Zm Mn El Cg sm pw Irr Prm)
set_option linter.unusedVariables false
set_option linter.unusedSimpArgs false

theorem Enc.cases (e : Enc) : (∃ (k : Nat) (M : Mn k) (_ : Fi M), e.Des M) ∨ ¬ e.Fok := fok_cases e.p e.m e.l e.mo
theorem Enc.ce_fail {e : Enc} (h : ¬ e.Fok) : e.ce = 1 := by rw [Enc.ce, if_neg h]
theorem Enc.ok {e : Enc} (h : e.ce = 0) : e.Fok ∧ e.Shp3 ∧ e.w 0 ≤ 64 ∧ e.El ∧ qo e.p e.m ^ e.tot e.r ≤ 65536 := by
  unfold Enc.ce at h
  by_cases h1 : e.Fok
  · rw [if_pos h1] at h
    by_cases h2 : e.Shp3
    · rw [if_pos h2] at h
      by_cases h3 : e.w 0 ≤ 64
      · rw [if_pos h3] at h
        by_cases h4 : e.El
        · rw [if_pos h4] at h
          by_cases h5 : qo e.p e.m ^ e.tot e.r ≤ 65536
          · exact ⟨h1, h2, h3, h4, h5⟩
          · rw [if_neg h5] at h; omega
        · rw [if_neg h4] at h; omega
      · rw [if_neg h3] at h; omega
    · rw [if_neg h2] at h; omega
  · rw [if_neg h1] at h; omega
end Go.Proofs.Ytdpibcniodhinaa.Gh
/- A step of the machine: the sums. -/
namespace Go.Proofs.Ytdpibcniodhinaa.Gh
open Go Go.RowKit
open Alg (CR Ps Dg Zm Mn El Cg sm pw Irr Prm)
set_option linter.unusedVariables false
set_option linter.unusedSimpArgs false

def si : Nat → (Nat → Int) → Int
  | 0, _ => 0
  | n + 1, f => si n f + f n
section
variable {k : Nat} {M : Mn k}
theorem ein_cn (h : Fc M) (a : El M) : ein M (cn a : Nat) = a := by
  have h1 := ein_inq h (cn a : Nat)
  have : inq (qn M : Nat) ((cn a : Nat) : Int) = (cn a : Nat) := if_pos ⟨by omega, by have := cn_lt a; omega⟩
  rw [this] at h1
  exact cn_inj (by omega)
theorem ein_zero (h : Fc M) : ein M 0 = 0 := by
  have := ein_cn h (0 : El M)
  rw [cn_zero] at this
  exact this
/-- what input i reads d steps ago -/
def Enc.X (e : Enc) (q st : Int) (inp : Nat → Int) (i d : Nat) : Int := if d = 0 then inp i else Gh.dg q st (e.ds i + (d - 1))
def Enc.co (e : Enc) (i j d : Nat) : Int := if d < e.n i j then e.c i j d else 0
noncomputable def Enc.tm (e : Enc) (M : Mn k) (st : Int) (inp : Nat → Int) (j i d : Nat) : Alg.El M := ein M (e.X (qn M : Nat) st inp i d) * ein M (e.co i j d)
/-- the output j, so far -/
noncomputable def Enc.so (e : Enc) (M : Mn k) (st : Int) (inp : Nat → Int) (i d j : Nat) : Alg.El M := sm i (fun i' => sm (e.deg i' + 1) (e.tm M st inp j i')) + sm d (e.tm M st inp j i)
/-- the next state, so far -/
def Enc.nx (e : Enc) (q st : Int) (inp : Nat → Int) (i d : Nat) : Int := si i (fun i' => si (e.deg i') fun d' => e.X q st inp i' d' * q ^ (e.ds i' + d')) + si d fun d' => e.X q st inp i d' * q ^ (e.ds i + d')
theorem Enc.so_zero (e : Enc) (st : Int) (inp : Nat → Int) (j : Nat) : e.so M st inp 0 0 j = 0 := Alg.add_zero _
theorem Enc.so_step (e : Enc) (st : Int) (inp : Nat → Int) (i d j : Nat) : e.so M st inp i (d + 1) j = e.so M st inp i d j + e.tm M st inp j i d := by
  rw [so, so, Alg.sm_succ, Alg.add_assoc]
theorem Enc.so_row (e : Enc) (st : Int) (inp : Nat → Int) (i j : Nat) : e.so M st inp (i + 1) 0 j = e.so M st inp i (e.deg i + 1) j := by
  rw [so, so, Alg.sm_succ, Alg.sm_zero, Alg.add_zero]
theorem Enc.nx_zero (e : Enc) (q st : Int) (inp : Nat → Int) : e.nx q st inp 0 0 = 0 := rfl
theorem Enc.nx_step (e : Enc) (q st : Int) (inp : Nat → Int) (i d : Nat) : e.nx q st inp i (d + 1) = e.nx q st inp i d + e.X q st inp i d * q ^ (e.ds i + d) := by
  rw [nx, nx, si, Int.add_assoc]
theorem Enc.nx_row (e : Enc) (q st : Int) (inp : Nat → Int) (i : Nat) : e.nx q st inp (i + 1) 0 = e.nx q st inp i (e.deg i) := by
  rw [nx, nx, si, si, Int.add_zero]
theorem Enc.X_in (e : Enc) {q st : Int} {inp : Nat → Int} (hq : 2 ≤ q) (hin : ∀ i, i < e.r → 0 ≤ inp i ∧ inp i < q) {i : Nat} (hi : i < e.r) (d : Nat) : 0 ≤ e.X q st inp i d ∧ e.X q st inp i d < q := by
  unfold X
  split
  · exact hin i hi
  · exact ⟨dg_lo hq _, dg_hi hq _⟩
theorem Enc.nx_lt (e : Enc) {q st : Int} {inp : Nat → Int} (hq : 2 ≤ q) (hin : ∀ i, i < e.r → 0 ≤ inp i ∧ inp i < q) : ∀ i, i ≤ e.r → ∀ d, (d = 0 ∨ i < e.r) → 0 ≤ e.nx q st inp i d ∧ e.nx q st inp i d < q ^ (e.ds i + d) := by
  intro i
  induction i with
  | zero =>
    intro hi d
    induction d with
    | zero => intro _; rw [nx_zero]; exact ⟨Int.le_refl _, Int.pow_pos (by omega)⟩
    | succ d ih =>
      intro hd
      have h1 := ih (by omega)
      have h2 := e.X_in (st := st) hq hin (i := 0) (by omega) d
      have hp : 0 < q ^ (e.ds 0 + d) := Int.pow_pos (by omega)
      rw [nx_step, show e.ds 0 + (d + 1) = (e.ds 0 + d) + 1 by omega, Int.pow_succ]
      have h3 : 0 ≤ e.X q st inp 0 d * q ^ (e.ds 0 + d) := Int.mul_nonneg h2.1 (by omega)
      have h4 : (e.X q st inp 0 d + 1) * q ^ (e.ds 0 + d) ≤ q * q ^ (e.ds 0 + d) := Int.mul_le_mul_of_nonneg_right (by omega) (by omega)
      rw [Int.add_mul, Int.one_mul, Int.mul_comm q] at h4
      omega
  | succ i ihi =>
    intro hi d
    induction d with
    | zero =>
      intro _
      have h1 := ihi (by omega) (e.deg i) (by omega)
      rw [nx_row]
      exact h1
    | succ d ih =>
      intro hd
      have h1 := ih (by omega)
      have h2 := e.X_in (st := st) hq hin (i := i + 1) (by omega) d
      have hp : 0 < q ^ (e.ds (i + 1) + d) := Int.pow_pos (by omega)
      rw [nx_step, show e.ds (i + 1) + (d + 1) = (e.ds (i + 1) + d) + 1 by omega, Int.pow_succ]
      have h3 : 0 ≤ e.X q st inp (i + 1) d * q ^ (e.ds (i + 1) + d) := Int.mul_nonneg h2.1 (by omega)
      have h4 : (e.X q st inp (i + 1) d + 1) * q ^ (e.ds (i + 1) + d) ≤ q * q ^ (e.ds (i + 1) + d) := Int.mul_le_mul_of_nonneg_right (by omega) (by omega)
      rw [Int.add_mul, Int.one_mul, Int.mul_comm q] at h4
      omega
theorem Enc.tm_zero (e : Enc) (h : Fc M) (st : Int) (inp : Nat → Int) (j i d : Nat) (hx : e.X (qn M : Nat) st inp i d = 0) : e.tm M st inp j i d = 0 := by
  rw [tm, hx, ein_zero h, Alg.zero_mul]
end

theorem sp_coefficient {H : Heap} {n : Nat} (e : Enc) (i j d : Nat) (hn : e.n i j ≤ 1000000) : Spec prog fid_conv_coefficient [isl (tn (e.c i j) (e.n i j)) (e.c i j), .int .i64 d] H n (.int .i64 (e.co i j d)) H n := by
  refine spec_ends hmix ok_conv_coefficient rfl fun hF => ?_
  show gw prog B_conv_coefficient _ (tl 13 _) H n
  have htn := tn_le (e.c i j) (e.n i j)
  have hz := tn_zero (f := e.c i j) (e.n i j) d
  simp -implicitDefEqProofs only [B_conv_coefficient, go_sem, Nat.reduceLT, Nat.reduceBEq, Nat.reduceAdd, Nat.reduceEqDiff, Nat.reduceLeDiff, Nat.reduceSub, Nat.reduceMul]
  refine c_split (fun hc => ?_) (fun hc => ?_)
  · have hd : d < tn (e.c i j) (e.n i j) := by omega
    simp -implicitDefEqProofs only [go_sem, Nat.reduceLT, Nat.reduceBEq, Nat.reduceAdd, Nat.reduceEqDiff, Nat.reduceLeDiff, Nat.reduceSub, Nat.reduceMul, hc, hd, gat_tab]
    refine fin_ret rfl (by decide) ?_ fun _ _ => rfl
    simp -implicitDefEqProofs only [go_sem, Nat.reduceLT, Nat.reduceBEq, Nat.reduceAdd, Nat.reduceEqDiff, Nat.reduceLeDiff, Nat.reduceSub, Nat.reduceMul]
    exact fz_int (if_pos (by omega)).symm
  · simp -implicitDefEqProofs only [go_sem, Nat.reduceLT, Nat.reduceBEq, Nat.reduceAdd, Nat.reduceEqDiff, Nat.reduceLeDiff, Nat.reduceSub, Nat.reduceMul]
    refine fin_ret rfl (by decide) ?_ fun _ _ => rfl
    simp -implicitDefEqProofs only [go_sem, Nat.reduceLT, Nat.reduceBEq, Nat.reduceAdd, Nat.reduceEqDiff, Nat.reduceLeDiff, Nat.reduceSub, Nat.reduceMul]
    refine fz_int ?_
    rw [Enc.co]
    split
    · exact (hz (by omega) (by omega)).symm
    · rfl
end Go.Proofs.Ytdpibcniodhinaa.Gh
/- Rows that are only read, of either kind; inner products. -/
namespace Go.Proofs.Ytdpibcniodhinaa.Gh
open Go Go.RowKit
open Alg (CR Ps Dg Zm Mn El Cg sm pw Irr Prm)
set_option linter.unusedVariables false
set_option linter.unusedSimpArgs false

/-- a row that can be read: one that is only read, or one of the call's own -/
def Rd (H : Heap) (n : Nat) (a : GV) (m : Nat) (f : Nat → Int) : Prop := a = isl m f ∨ ∃ b, b < n ∧ a = .own b 0 m ∧ H b = some (tab m (it f))
section
variable {H H' : Heap} {n n' m : Nat} {a : GV} {f : Nat → Int}
theorem Rd.sl (m : Nat) (f : Nat → Int) : Rd H n (isl m f) m f := .inl rfl
theorem Rd.own {b : Nat} (hb : b < n) (h : H b = some (tab m (it f))) : Rd H n (.own b 0 m) m f := .inr ⟨b, hb, rfl, h⟩
theorem Rd.keep (h : Rd H n a m f) (hn : n ≤ n') (hk : ∀ b, b < n → H' b = H b) : Rd H' n' a m f := by
  rcases h with h | ⟨b, h1, h2, h3⟩
  · exact .inl h
  · exact .inr ⟨b, by omega, h2, by rw [hk b h1]; exact h3⟩
theorem Rd.len (h : Rd H n a m f) : hlen a = some (.int .i64 (m : Nat)) := by
  rcases h with rfl | ⟨b, _, rfl, _⟩ <;> rfl
theorem Rd.cell (h : Rd H n a m f) : isCell a = true := by
  rcases h with rfl | ⟨b, _, rfl, _⟩ <;> rfl
theorem Rd.idx (h : Rd H n a m f) (i : Nat) (hi : i < m) : ∃ p, hiaddr 1 a (.int .i64 (i : Nat)) = some p ∧ (∀ (q : Kn) (H' H'' : Heap) (n' : Nat), (∀ b, b < n → H' b = H b) → hcell q H' H'' n' none p = q (.int .i64 (f i)) H'' n') ∧ ∀ (q : Km) (H' : Heap) (n' : Nat), n ≤ n' → (∀ b, b < n → H' b = H b) → hmcell q H' n' none p = q (.int .i64 (f i)) none := by
  have h0 := Int.natCast_nonneg i
  have hiI : ((i : Nat) : Int) < (m : Nat) := by omega
  rcases h with rfl | ⟨b, h1, rfl, h3⟩
  · refine ⟨.pp (tab m (it f)) i, ?_, ?_, ?_⟩
    · simp -implicitDefEqProofs only [go_sem, Nat.reduceLT, Nat.reduceBEq, Nat.reduceAdd, Nat.reduceEqDiff, Nat.reduceLeDiff, Nat.reduceSub, Nat.reduceMul, hi, hiI]
    · intro q H' H'' n' _
      rw [e_cell_pp, gat_tab hi, tab_len, it_at]; simp [hi]
    · intro q H' n' _ _
      rw [m_cell_pp, gat_tab hi, tab_len, it_at]; simp [hi]
  · refine ⟨.ptr b i, ?_, ?_, ?_⟩
    · simp -implicitDefEqProofs only [go_sem, Nat.reduceLT, Nat.reduceBEq, Nat.reduceAdd, Nat.reduceEqDiff, Nat.reduceLeDiff, Nat.reduceSub, Nat.reduceMul, hi, hiI]
    · intro q H' H'' n' hk
      rw [e_cell_ptr, hk b h1, h3, e_cl1, gat_tab hi, tab_len, it_at]; simp [hi]
    · intro q H' n' hn hk
      rw [m_cell_ptr, hk b h1, h3, m_cl1, gat_tab hi, tab_len, it_at]; simp [hi]; omega
end
section
variable {k : Nat} {M : Mn k}
theorem sp_Dot {H : Heap} {n : Nat} (h : Fc M) {a b : GV} {la lb : Nat} {f g : Nat → Int} (ha : Rd H n a la f) (hb : Rd H n b lb g) (hla : la ≤ 1000000) (hlb : lb ≤ 1000000) :
    Spec prog fid_ref04_Dot [fd M, a, b] H n (.int .i64 (cn (sm (min la lb) fun i => ein M (f i) * ein M (g i)) : Nat)) H n := by
  refine spec_ends hmix ok_ref04_Dot rfl fun hF => ?_
  show gw prog B_ref04_Dot _ (tl 35 _) H n
  have hal := ha.len
  have hbl := hb.len
  simp -implicitDefEqProofs only [B_ref04_Dot, fd, go_sem, Nat.reduceLT, Nat.reduceBEq, Nat.reduceAdd, Nat.reduceEqDiff, Nat.reduceLeDiff, Nat.reduceSub, Nat.reduceMul]
  refine loop_rule (fun (i : Nat) E H' n' => n' = n + 1 ∧ H' n = some [.int .i64 ((k : Int) + 2), .int .i64 (M.m : Nat), fmod M] ∧ (∀ b, b < n → H' b = H b) ∧ E 1 = a ∧ E 2 = b ∧ E 3 = .ptr n 0 ∧ E 7 = .int .i64 (cn (sm i fun i => ein M (f i) * ein M (g i)) : Nat) ∧ E 8 = .int .i64 (i : Nat) ∧ i ≤ min la lb) (fun i => min la lb - i) 0 ?_ ?_
  · exact ⟨rfl, by simp -implicitDefEqProofs only [go_sem, Nat.reduceLT, Nat.reduceBEq, Nat.reduceAdd, Nat.reduceEqDiff, Nat.reduceLeDiff, Nat.reduceSub, Nat.reduceMul], fun b hb => upd_ne _ _ (by omega), rfl, rfl, rfl, by simp -implicitDefEqProofs only [go_sem, Nat.reduceLT, Nat.reduceBEq, Nat.reduceAdd, Nat.reduceEqDiff, Nat.reduceLeDiff, Nat.reduceSub, Nat.reduceMul, Alg.sm_zero, cn_zero]; rfl, rfl, by omega⟩
  rintro i E H' n' ⟨rfl, h0, ho, e1, e2, e3, e7, e8, hi⟩
  by_cases hc : i < min la lb
  · have hca : ((i : Nat) : Int) < (la : Nat) := by omega
    have hcb : ((i : Nat) : Int) < (lb : Nat) := by omega
    obtain ⟨pa, pa1, pa2, pa3⟩ := ha.idx i (by omega)
    obtain ⟨pb, pb1, pb2, pb3⟩ := hb.idx i (by omega)
    have pa4 := fun q => pa3 q H' (n + 1) (by omega) ho
    have pb4 := fun q => pb3 q H' (n + 1) (by omega) ho
    have hwi := wrap64 (x := (i : Int) + 1) (by omega)
    simp -implicitDefEqProofs only [go_sem, Nat.reduceLT, Nat.reduceBEq, Nat.reduceAdd, Nat.reduceEqDiff, Nat.reduceLeDiff, Nat.reduceSub, Nat.reduceMul, e1, e2, e3, e7, e8, h0, hal, hbl, hca, hcb, pa1, pb1, pa4, pb4]
    refine mcall_of (.int _ _) (fun H1 n1 _ _ => sp_ref04_Mul h (f i) (g i)) ?_
    simp -implicitDefEqProofs only [go_sem, Nat.reduceLT, Nat.reduceBEq, Nat.reduceAdd, Nat.reduceEqDiff, Nat.reduceLeDiff, Nat.reduceSub, Nat.reduceMul]
    refine call_of (sp_ref04_Add h _ _) ?_
    simp -implicitDefEqProofs only [go_sem, Nat.reduceLT, Nat.reduceBEq, Nat.reduceAdd, Nat.reduceEqDiff, Nat.reduceLeDiff, Nat.reduceSub, Nat.reduceMul, e8, hwi]
    refine l_n ⟨i + 1, by omega, rfl, h0, ho, by simp -implicitDefEqProofs only [go_sem, Nat.reduceLT, Nat.reduceBEq, Nat.reduceAdd, Nat.reduceEqDiff, Nat.reduceLeDiff, Nat.reduceSub, Nat.reduceMul, e1], by simp -implicitDefEqProofs only [go_sem, Nat.reduceLT, Nat.reduceBEq, Nat.reduceAdd, Nat.reduceEqDiff, Nat.reduceLeDiff, Nat.reduceSub, Nat.reduceMul, e2], by simp -implicitDefEqProofs only [go_sem, Nat.reduceLT, Nat.reduceBEq, Nat.reduceAdd, Nat.reduceEqDiff, Nat.reduceLeDiff, Nat.reduceSub, Nat.reduceMul, e3], ?_, by simp -implicitDefEqProofs only [go_sem, Nat.reduceLT, Nat.reduceBEq, Nat.reduceAdd, Nat.reduceEqDiff, Nat.reduceLeDiff, Nat.reduceSub, Nat.reduceMul]; rfl, by omega⟩
    simp -implicitDefEqProofs only [go_sem, Nat.reduceLT, Nat.reduceBEq, Nat.reduceAdd, Nat.reduceEqDiff, Nat.reduceLeDiff, Nat.reduceSub, Nat.reduceMul]
    have e1 : cd (ein M (f i) * ein M (g i)) = (cn (ein M (f i) * ein M (g i)) : Nat) := cd_cn _
    rw [e1]
    have hein : ∀ a : El M, ein M ((cn a : Nat) : Int) = a := fun a => by
      have h1 := ein_inq h (cn a : Nat)
      have : inq (qn M : Nat) ((cn a : Nat) : Int) = (cn a : Nat) := if_pos ⟨by omega, by have := cn_lt a; omega⟩
      rw [this] at h1
      exact cn_inj (by omega)
    rw [hein, hein, Alg.sm_succ, cd_cn]
  · have him : i = min la lb := by omega
    by_cases hca : ((i : Nat) : Int) < (la : Nat)
    · have hcb : ¬ ((i : Nat) : Int) < (lb : Nat) := by omega
      simp -implicitDefEqProofs only [go_sem, Nat.reduceLT, Nat.reduceBEq, Nat.reduceAdd, Nat.reduceEqDiff, Nat.reduceLeDiff, Nat.reduceSub, Nat.reduceMul, e1, e2, e7, e8, hal, hbl, hca, hcb]
      refine fin_ret rfl (by decide) ?_ ho
      simp -implicitDefEqProofs only [go_sem, Nat.reduceLT, Nat.reduceBEq, Nat.reduceAdd, Nat.reduceEqDiff, Nat.reduceLeDiff, Nat.reduceSub, Nat.reduceMul]; exact fz_int (by rw [him])
    · simp -implicitDefEqProofs only [go_sem, Nat.reduceLT, Nat.reduceBEq, Nat.reduceAdd, Nat.reduceEqDiff, Nat.reduceLeDiff, Nat.reduceSub, Nat.reduceMul, e1, e2, e7, e8, hal, hbl, hca]
      refine fin_ret rfl (by decide) ?_ ho
      simp -implicitDefEqProofs only [go_sem, Nat.reduceLT, Nat.reduceBEq, Nat.reduceAdd, Nat.reduceEqDiff, Nat.reduceLeDiff, Nat.reduceSub, Nat.reduceMul]; exact fz_int (by rw [him])
end
end Go.Proofs.Ytdpibcniodhinaa.Gh
/- A step of the machine, as the program makes it. -/
namespace Go.Proofs.Ytdpibcniodhinaa.Gh
open Go Go.RowKit
open Alg (CR Ps Dg Zm Mn El Cg sm pw Irr Prm)
set_option linter.unusedVariables false
set_option linter.unusedSimpArgs false

def Enc.mcl (e : Enc) (gf : GV) (q : Nat) : List GV := [gf, .sl e.r (tab e.r fun t => .sl (e.w t) (tab (e.w t) (e.rowf t))), .int .i64 (e.r : Nat), .int .i64 (e.w 0 : Nat), isl e.r (fun t => (e.deg t : Nat)), .int .i64 (e.mem e.r : Nat), .int .i64 (q : Nat), .int .i64 (q ^ e.ds e.r : Nat), isl e.r fun t => (q ^ e.ds t : Nat)]
theorem Enc.mch_eq (e : Enc) (gf : GV) (q : Nat) : e.mch gf q = .pp (e.mcl gf q) 0 := rfl
section
variable {k : Nat} {M : Mn k}
theorem Enc.pow_le {e : Enc} (h : Fi M) (d : e.Des M) (hce : e.ce = 0) : ∀ x, x ≤ e.ds e.r → qn M ^ x ≤ 65536 := by
  have h1 := (Enc.ok hce).2.2.2.2
  rw [d.qo h, ← Int.natCast_pow] at h1
  have h2 := e.tot_ds e.r
  have h3 := qn_two M
  intro x hx
  exact Nat.le_trans (Nat.pow_le_pow_right (by omega) (show x ≤ e.tot e.r by omega)) (by omega)
set_option maxHeartbeats 4000000 in
theorem sp_step' {H : Heap} {n : Nat} (e : Enc) (hB : e.Bnd) (h : Fi M) (hd : e.Des M) (hce : e.ce = 0) (st : Int) (inp : Nat → Int) (hs0 : 0 ≤ st) (hs1 : st ≤ 65536) (hin : ∀ i, i < e.r → 0 ≤ inp i ∧ inp i < (qn M : Nat)) {a : GV} (ha : Rd H n a e.r inp) :
    Spec prog fid_conv_machine_step [e.mch h.gf (qn M), .int .i64 st, a] H n (.tup [.int .i64 (e.nx (qn M : Nat) st inp e.r 0), isl (e.w 0) fun j => (cn (e.so M st inp e.r 0 j) : Nat)]) H n := by
  refine spec_ends hmix ok_conv_machine_step rfl fun hF => ?_
  show gw prog B_conv_machine_step _ (tl 128 _) H n
  have hq2 := qn_two M
  have hq := h.fc.qn
  have hr := hB.r
  have hpw := Enc.pow_le h hd hce
  have hok := Enc.ok hce
  have hr0 : 0 < e.r := by have := hok.2.1.1; omega
  have hw0 := hB.w 0 hr0
  have hq2I : (2 : Int) ≤ ((qn M : Nat) : Int) := by omega
  have hqne : (((qn M : Nat) : Int) = 0) = False := eq_false (by omega)
  have hP : ∀ x, ((qn M ^ x : Nat) : Int) = ((qn M : Nat) : Int) ^ x := fun x => Int.natCast_pow ..
  have hdiv : ∀ x, 0 ≤ st / ((qn M : Nat) : Int) ^ x ∧ st / ((qn M : Nat) : Int) ^ x ≤ 65536 := fun x => by
    have h0 : 0 < ((qn M : Nat) : Int) ^ x := Int.pow_pos (by omega)
    exact ⟨Int.ediv_nonneg (by omega) (by omega), Int.le_trans (Int.ediv_le_self _ (by omega)) (by omega)⟩
  have hpw : ∀ x, x ≤ e.ds e.r → ((qn M ^ x : Nat) : Int) ≤ 65536 := fun x hx => by have := hpw x hx; omega
  have hal := ha.len
  rw [e.mch_eq]
  simp -implicitDefEqProofs only [B_conv_machine_step, Enc.mcl, go_sem, Nat.reduceLT, Nat.reduceBEq, Nat.reduceAdd, Nat.reduceEqDiff, Nat.reduceLeDiff, Nat.reduceSub, Nat.reduceMul, hal]
  repeat with_reducible refine And.intro (by omega) ?_
  refine loop_rule (fun (i : Nat) E H' n' => n' = n + 1 ∧ H' n = some (tab (e.w 0) (it fun j => (cn (e.so M st inp i 0 j) : Nat))) ∧ (∀ b, b < n → H' b = H b) ∧ E 0 = .pp (e.mcl h.gf (qn M)) 0 ∧ E 1 = .int .i64 st ∧ E 8 = .int .i64 (e.nx (qn M : Nat) st inp i 0) ∧ E 9 = .own n 0 (e.w 0) ∧ E 21 = a ∧ E 22 = .int .i64 (e.r : Nat) ∧ E 23 = .int .i64 (i : Nat) ∧ i ≤ e.r) (fun i => e.r - i) 0 ?_ ?_
  · refine ⟨rfl, ?_, fun b hb => upd_ne _ _ (by omega), rfl, rfl, rfl, rfl, rfl, rfl, rfl, by omega⟩
    simp -implicitDefEqProofs only [go_sem, Nat.reduceLT, Nat.reduceBEq, Nat.reduceAdd, Nat.reduceEqDiff, Nat.reduceLeDiff, Nat.reduceSub, Nat.reduceMul, tab_rep]
    refine congrArg some (tab_congr fun j hj => congrArg (GV.int .i64) ?_)
    show (0 : Int) = ((cn (e.so M st inp 0 0 j) : Nat) : Int)
    rw [e.so_zero, cn_zero]; rfl
  rintro i E H' n' ⟨rfl, hrow, ho, e0, e1, e8, e9, e21, e22, e23, hi⟩
  simp -implicitDefEqProofs only [go_sem, Nat.reduceLT, Nat.reduceBEq, Nat.reduceAdd, Nat.reduceEqDiff, Nat.reduceLeDiff, Nat.reduceSub, Nat.reduceMul, e22, e23]
  refine c_split (fun hc => ?_) (fun hc => ?_)
  · have hiN : i < e.r := by omega
    have hiI : ((i : Nat) : Int) < ((e.r : Nat) : Int) := hc
    have hwi := wrap64 (x := (i : Int) + 1) (by omega)
    have hdsm : e.ds (i + 1) ≤ e.ds e.r := sumn_mono (by omega)
    have hdsS : e.ds (i + 1) = e.ds i + e.deg i := rfl
    have hdeg := e.deg_le hB hiN
    have hwN : e.w i = e.w 0 := hok.2.1.2.2.2 i hiN
    have hv0 := hdiv (e.ds i)
    have hp0 := hpw (e.ds i) (by omega)
    have hpp : 0 < qn M ^ e.ds i := Nat.pow_pos (by omega)
    have hpne : (((qn M ^ e.ds i : Nat) : Int) = 0) = False := eq_false (by omega)
    have w0 : IntKind.i64.wrap (st.tdiv ((qn M ^ e.ds i : Nat) : Int)) = st / ((qn M : Nat) : Int) ^ (e.ds i + 0) := by
      rw [tdiv_nn (by omega), hP]; exact wrap64 (by rw [Nat.add_zero] at *; omega)
    obtain ⟨pa, pa1, pa2, pa3⟩ := ha.idx i hiN
    have pa4 := fun q => pa2 q H' H' (n + 1) ho
    simp -implicitDefEqProofs only [go_sem, Nat.reduceLT, Nat.reduceBEq, Nat.reduceAdd, Nat.reduceEqDiff, Nat.reduceLeDiff, Nat.reduceSub, Nat.reduceMul, Enc.mcl, e0, e1, e21, e23, hiI, hiN, gat_tab, hpne, w0, pa1, pa4]
    clear pa4
    refine loop_rule (fun (d : Nat) E H' n' => n' = n + 1 ∧ H' n = some (tab (e.w 0) (it fun j => (cn (e.so M st inp i d j) : Nat))) ∧ (∀ b, b < n → H' b = H b) ∧ E 0 = .pp (e.mcl h.gf (qn M)) 0 ∧ E 1 = .int .i64 st ∧ E 8 = .int .i64 (e.nx (qn M : Nat) st inp i (min d (e.deg i))) ∧ E 9 = .own n 0 (e.w 0) ∧ E 10 = .int .i64 (i : Nat) ∧ E 14 = .int .i64 (d : Nat) ∧ E 21 = a ∧ E 22 = .int .i64 (e.r : Nat) ∧ E 23 = .int .i64 (i : Nat) ∧ (d ≤ e.deg i → E 11 = .int .i64 (e.X (qn M : Nat) st inp i d) ∧ E 12 = .int .i64 (((qn M : Nat) : Int) ^ (e.ds i + d)) ∧ E 13 = .int .i64 (st / ((qn M : Nat) : Int) ^ (e.ds i + d))) ∧ d ≤ e.deg i + 1) (fun d => e.deg i + 1 - d) 0 ?_ ?_
    · refine ⟨rfl, hrow, ho, by simp -implicitDefEqProofs only [go_sem, Nat.reduceLT, Nat.reduceBEq, Nat.reduceAdd, Nat.reduceEqDiff, Nat.reduceLeDiff, Nat.reduceSub, Nat.reduceMul, e0, Enc.mcl], by simp -implicitDefEqProofs only [go_sem, Nat.reduceLT, Nat.reduceBEq, Nat.reduceAdd, Nat.reduceEqDiff, Nat.reduceLeDiff, Nat.reduceSub, Nat.reduceMul, e1], ?_, by simp -implicitDefEqProofs only [go_sem, Nat.reduceLT, Nat.reduceBEq, Nat.reduceAdd, Nat.reduceEqDiff, Nat.reduceLeDiff, Nat.reduceSub, Nat.reduceMul, e9], by simp -implicitDefEqProofs only [go_sem, Nat.reduceLT, Nat.reduceBEq, Nat.reduceAdd, Nat.reduceEqDiff, Nat.reduceLeDiff, Nat.reduceSub, Nat.reduceMul], rfl, by simp -implicitDefEqProofs only [go_sem, Nat.reduceLT, Nat.reduceBEq, Nat.reduceAdd, Nat.reduceEqDiff, Nat.reduceLeDiff, Nat.reduceSub, Nat.reduceMul, e21], by simp -implicitDefEqProofs only [go_sem, Nat.reduceLT, Nat.reduceBEq, Nat.reduceAdd, Nat.reduceEqDiff, Nat.reduceLeDiff, Nat.reduceSub, Nat.reduceMul, e22], by simp -implicitDefEqProofs only [go_sem, Nat.reduceLT, Nat.reduceBEq, Nat.reduceAdd, Nat.reduceEqDiff, Nat.reduceLeDiff, Nat.reduceSub, Nat.reduceMul, e23], fun _ => ⟨?_, ?_, ?_⟩, by omega⟩
      · simp -implicitDefEqProofs only [go_sem, Nat.reduceLT, Nat.reduceBEq, Nat.reduceAdd, Nat.reduceEqDiff, Nat.reduceLeDiff, Nat.reduceSub, Nat.reduceMul, e8]
        have : min 0 (e.deg i) = 0 := by omega
        rw [this]
      · simp -implicitDefEqProofs only [go_sem, Nat.reduceLT, Nat.reduceBEq, Nat.reduceAdd, Nat.reduceEqDiff, Nat.reduceLeDiff, Nat.reduceSub, Nat.reduceMul]; rfl
      · simp -implicitDefEqProofs only [go_sem, Nat.reduceLT, Nat.reduceBEq, Nat.reduceAdd, Nat.reduceEqDiff, Nat.reduceLeDiff, Nat.reduceSub, Nat.reduceMul]; rw [hP]
      · simp -implicitDefEqProofs only [go_sem, Nat.reduceLT, Nat.reduceBEq, Nat.reduceAdd, Nat.reduceEqDiff, Nat.reduceLeDiff, Nat.reduceSub, Nat.reduceMul]
    clear hrow ho e0 e1 e8 e9 e21 e22 e23 E H'
    rintro d E H' n' ⟨rfl, hrow, ho, e0, e1, e8, e9, e10, e14, e21, e22, e23, hx, hd1⟩
    simp -implicitDefEqProofs only [go_sem, Nat.reduceLT, Nat.reduceBEq, Nat.reduceAdd, Nat.reduceEqDiff, Nat.reduceLeDiff, Nat.reduceSub, Nat.reduceMul, Enc.mcl, e0, e10, e14, hiI, hiN, gat_tab]
    refine c_split (fun hcd => ?_) (fun hcd => ?_)
    · have hdN : d ≤ e.deg i := by omega
      obtain ⟨e11, e12, e13⟩ := hx hdN
      have hwd := wrap64 (x := (d : Int) + 1) (by omega)
      have hX := e.X_in (st := st) hq2I hin hiN d
      have hXv : e.X (qn M : Nat) st inp i d = e.X (qn M : Nat) st inp i d := rfl
      generalize hXX : e.X (qn M : Nat) st inp i d = X at hX e11
      rw [hXX] at hXv
      have hXv := hXX
      by_cases hx0 : X = 0
      · have hrow : H' n = some (tab (e.w 0) (it fun j => (cn (e.so M st inp i (d + 1) j) : Nat))) := by
          rw [hrow]
          refine congrArg some (tab_congr fun j hj => congrArg (GV.int .i64) ?_)
          show ((cn (e.so M st inp i d j) : Nat) : Int) = ((cn (e.so M st inp i (d + 1) j) : Nat) : Int)
          rw [e.so_step, e.tm_zero h.fc st inp j i d (hXX.trans hx0), Alg.add_zero]
        simp -implicitDefEqProofs only [go_sem, Nat.reduceLT, Nat.reduceBEq, Nat.reduceAdd, Nat.reduceEqDiff, Nat.reduceLeDiff, Nat.reduceSub, Nat.reduceMul, e11, hx0]
        by_cases hdl : d < e.deg i
        · have hdI : ((d : Nat) : Int) < ((e.deg i : Nat) : Int) := by omega
          have hnx := e.nx_step (qn M : Nat) st inp i d
          have hmn : min (d + 1) (e.deg i) = d + 1 := by omega
          have hmn0 : min d (e.deg i) = d := by omega
          have hb0 := e.nx_lt (st := st) hq2I hin i (by omega) d (.inr hiN)
          have hb1 := e.nx_lt (st := st) hq2I hin i (by omega) (d + 1) (.inr hiN)
          have hp1 := hpw (e.ds i + d) (by omega)
          have hp2 := hpw (e.ds i + (d + 1)) (by omega)
          have hps : qn M ^ (e.ds i + (d + 1)) = qn M ^ (e.ds i + d) * qn M := Nat.pow_succ ..
          have hX1 : e.X (qn M : Nat) st inp i (d + 1) = st / ((qn M : Nat) : Int) ^ (e.ds i + d) % ((qn M : Nat) : Int) := rfl
          have hdst := dg_step (p := ((qn M : Nat) : Int)) (x := st) hq2I (e.ds i + d)
          have hv0 := hdiv (e.ds i + d)
          have hv1 := hdiv (e.ds i + (d + 1))
          rw [hP] at hp1 hp2
          have hm0 : 0 ≤ X * ((qn M : Nat) : Int) ^ (e.ds i + d) := Int.mul_nonneg hX.1 (by omega)
          have hm1 : X * ((qn M : Nat) : Int) ^ (e.ds i + d) ≤ 256 * 65536 := Int.mul_le_mul (by omega) (by omega) (by omega) (by omega)
          have w1 := wrap64 (x := X * ((qn M : Nat) : Int) ^ (e.ds i + d)) (by omega)
          have w2 : IntKind.i64.wrap (e.nx (qn M : Nat) st inp i d + X * ((qn M : Nat) : Int) ^ (e.ds i + d)) = e.nx (qn M : Nat) st inp i (d + 1) := by rw [hnx, hXv]; exact wrap64 (by omega)
          have w3 : IntKind.i64.wrap (((qn M : Nat) : Int) ^ (e.ds i + d) * ((qn M : Nat) : Int)) = ((qn M : Nat) : Int) ^ (e.ds i + (d + 1)) := by
            have : ((qn M : Nat) : Int) ^ (e.ds i + (d + 1)) = ((qn M : Nat) : Int) ^ (e.ds i + d) * ((qn M : Nat) : Int) := Int.pow_succ _ _
            rw [← this]; exact wrap64 (by omega)
          have t1 := tmod_nn (a := st / ((qn M : Nat) : Int) ^ (e.ds i + d)) (b := ((qn M : Nat) : Int)) (by omega)
          have w4 : IntKind.i64.wrap ((st / ((qn M : Nat) : Int) ^ (e.ds i + d)).tdiv ((qn M : Nat) : Int)) = st / ((qn M : Nat) : Int) ^ (e.ds i + (d + 1)) := by
            rw [tdiv_nn (by omega), hdst]; exact wrap64 (x := st / ((qn M : Nat) : Int) ^ (e.ds i + (d + 1))) (by omega)
          simp -implicitDefEqProofs only [go_sem, Nat.reduceLT, Nat.reduceBEq, Nat.reduceAdd, Nat.reduceEqDiff, Nat.reduceLeDiff, Nat.reduceSub, Nat.reduceMul, Enc.mcl, e0, e8, e10, e11, e12, e13, e14, hiI, hiN, gat_tab, hdI, hmn0, hqne, w1, w2, w3, w4, t1, hwd]
          exact l_n ⟨d + 1, by omega, rfl, hrow, ho, by simp -implicitDefEqProofs only [go_sem, Nat.reduceLT, Nat.reduceBEq, Nat.reduceAdd, Nat.reduceEqDiff, Nat.reduceLeDiff, Nat.reduceSub, Nat.reduceMul, e0, Enc.mcl], by simp -implicitDefEqProofs only [go_sem, Nat.reduceLT, Nat.reduceBEq, Nat.reduceAdd, Nat.reduceEqDiff, Nat.reduceLeDiff, Nat.reduceSub, Nat.reduceMul, e1], by simp -implicitDefEqProofs only [go_sem, Nat.reduceLT, Nat.reduceBEq, Nat.reduceAdd, Nat.reduceEqDiff, Nat.reduceLeDiff, Nat.reduceSub, Nat.reduceMul, hmn], by simp -implicitDefEqProofs only [go_sem, Nat.reduceLT, Nat.reduceBEq, Nat.reduceAdd, Nat.reduceEqDiff, Nat.reduceLeDiff, Nat.reduceSub, Nat.reduceMul, e9], by simp -implicitDefEqProofs only [go_sem, Nat.reduceLT, Nat.reduceBEq, Nat.reduceAdd, Nat.reduceEqDiff, Nat.reduceLeDiff, Nat.reduceSub, Nat.reduceMul, e10], by simp -implicitDefEqProofs only [go_sem, Nat.reduceLT, Nat.reduceBEq, Nat.reduceAdd, Nat.reduceEqDiff, Nat.reduceLeDiff, Nat.reduceSub, Nat.reduceMul]; rfl, by simp -implicitDefEqProofs only [go_sem, Nat.reduceLT, Nat.reduceBEq, Nat.reduceAdd, Nat.reduceEqDiff, Nat.reduceLeDiff, Nat.reduceSub, Nat.reduceMul, e21], by simp -implicitDefEqProofs only [go_sem, Nat.reduceLT, Nat.reduceBEq, Nat.reduceAdd, Nat.reduceEqDiff, Nat.reduceLeDiff, Nat.reduceSub, Nat.reduceMul, e22], by simp -implicitDefEqProofs only [go_sem, Nat.reduceLT, Nat.reduceBEq, Nat.reduceAdd, Nat.reduceEqDiff, Nat.reduceLeDiff, Nat.reduceSub, Nat.reduceMul, e23], fun _ => ⟨by simp -implicitDefEqProofs only [go_sem, Nat.reduceLT, Nat.reduceBEq, Nat.reduceAdd, Nat.reduceEqDiff, Nat.reduceLeDiff, Nat.reduceSub, Nat.reduceMul]; rfl, by simp -implicitDefEqProofs only [go_sem, Nat.reduceLT, Nat.reduceBEq, Nat.reduceAdd, Nat.reduceEqDiff, Nat.reduceLeDiff, Nat.reduceSub, Nat.reduceMul], by simp -implicitDefEqProofs only [go_sem, Nat.reduceLT, Nat.reduceBEq, Nat.reduceAdd, Nat.reduceEqDiff, Nat.reduceLeDiff, Nat.reduceSub, Nat.reduceMul]⟩, by omega⟩
        · have hdI : ¬ ((d : Nat) : Int) < ((e.deg i : Nat) : Int) := by omega
          have hmn : min (d + 1) (e.deg i) = min d (e.deg i) := by omega
          simp -implicitDefEqProofs only [go_sem, Nat.reduceLT, Nat.reduceBEq, Nat.reduceAdd, Nat.reduceEqDiff, Nat.reduceLeDiff, Nat.reduceSub, Nat.reduceMul, Enc.mcl, e0, e10, e14, hiI, hiN, gat_tab, hdI, hwd]
          exact l_n ⟨d + 1, by omega, rfl, hrow, ho, by simp -implicitDefEqProofs only [go_sem, Nat.reduceLT, Nat.reduceBEq, Nat.reduceAdd, Nat.reduceEqDiff, Nat.reduceLeDiff, Nat.reduceSub, Nat.reduceMul, e0, Enc.mcl], by simp -implicitDefEqProofs only [go_sem, Nat.reduceLT, Nat.reduceBEq, Nat.reduceAdd, Nat.reduceEqDiff, Nat.reduceLeDiff, Nat.reduceSub, Nat.reduceMul, e1], by simp -implicitDefEqProofs only [go_sem, Nat.reduceLT, Nat.reduceBEq, Nat.reduceAdd, Nat.reduceEqDiff, Nat.reduceLeDiff, Nat.reduceSub, Nat.reduceMul, e8, hmn], by simp -implicitDefEqProofs only [go_sem, Nat.reduceLT, Nat.reduceBEq, Nat.reduceAdd, Nat.reduceEqDiff, Nat.reduceLeDiff, Nat.reduceSub, Nat.reduceMul, e9], by simp -implicitDefEqProofs only [go_sem, Nat.reduceLT, Nat.reduceBEq, Nat.reduceAdd, Nat.reduceEqDiff, Nat.reduceLeDiff, Nat.reduceSub, Nat.reduceMul, e10], by simp -implicitDefEqProofs only [go_sem, Nat.reduceLT, Nat.reduceBEq, Nat.reduceAdd, Nat.reduceEqDiff, Nat.reduceLeDiff, Nat.reduceSub, Nat.reduceMul]; rfl, by simp -implicitDefEqProofs only [go_sem, Nat.reduceLT, Nat.reduceBEq, Nat.reduceAdd, Nat.reduceEqDiff, Nat.reduceLeDiff, Nat.reduceSub, Nat.reduceMul, e21], by simp -implicitDefEqProofs only [go_sem, Nat.reduceLT, Nat.reduceBEq, Nat.reduceAdd, Nat.reduceEqDiff, Nat.reduceLeDiff, Nat.reduceSub, Nat.reduceMul, e22], by simp -implicitDefEqProofs only [go_sem, Nat.reduceLT, Nat.reduceBEq, Nat.reduceAdd, Nat.reduceEqDiff, Nat.reduceLeDiff, Nat.reduceSub, Nat.reduceMul, e23], fun h => by omega, by omega⟩
      · simp -implicitDefEqProofs only [go_sem, Nat.reduceLT, Nat.reduceBEq, Nat.reduceAdd, Nat.reduceEqDiff, Nat.reduceLeDiff, Nat.reduceSub, Nat.reduceMul, e9, e11, hx0]
        refine loop_rule (fun (j : Nat) E H' n' => n' = n + 1 ∧ H' n = some (tab (e.w 0) (it (mix (fun j => (cn (e.so M st inp i (d + 1) j) : Nat)) (fun j => (cn (e.so M st inp i d j) : Nat)) j))) ∧ (∀ b, b < n → H' b = H b) ∧ E 0 = .pp (e.mcl h.gf (qn M)) 0 ∧ E 1 = .int .i64 st ∧ E 8 = .int .i64 (e.nx (qn M : Nat) st inp i (min d (e.deg i))) ∧ E 9 = .own n 0 (e.w 0) ∧ E 10 = .int .i64 (i : Nat) ∧ E 11 = .int .i64 X ∧ E 12 = .int .i64 (((qn M : Nat) : Int) ^ (e.ds i + d)) ∧ E 13 = .int .i64 (st / ((qn M : Nat) : Int) ^ (e.ds i + d)) ∧ E 14 = .int .i64 (d : Nat) ∧ E 21 = a ∧ E 22 = .int .i64 (e.r : Nat) ∧ E 23 = .int .i64 (i : Nat) ∧ E 58 = .int .i64 (e.w 0 : Nat) ∧ E 59 = .int .i64 (j : Nat) ∧ j ≤ e.w 0) (fun j => e.w 0 - j) 0 ?_ ?_
        · exact ⟨rfl, by rw [mix_zero]; exact hrow, ho, by simp -implicitDefEqProofs only [go_sem, Nat.reduceLT, Nat.reduceBEq, Nat.reduceAdd, Nat.reduceEqDiff, Nat.reduceLeDiff, Nat.reduceSub, Nat.reduceMul, e0, Enc.mcl], by simp -implicitDefEqProofs only [go_sem, Nat.reduceLT, Nat.reduceBEq, Nat.reduceAdd, Nat.reduceEqDiff, Nat.reduceLeDiff, Nat.reduceSub, Nat.reduceMul, e1], by simp -implicitDefEqProofs only [go_sem, Nat.reduceLT, Nat.reduceBEq, Nat.reduceAdd, Nat.reduceEqDiff, Nat.reduceLeDiff, Nat.reduceSub, Nat.reduceMul, e8], by simp -implicitDefEqProofs only [go_sem, Nat.reduceLT, Nat.reduceBEq, Nat.reduceAdd, Nat.reduceEqDiff, Nat.reduceLeDiff, Nat.reduceSub, Nat.reduceMul, e9], by simp -implicitDefEqProofs only [go_sem, Nat.reduceLT, Nat.reduceBEq, Nat.reduceAdd, Nat.reduceEqDiff, Nat.reduceLeDiff, Nat.reduceSub, Nat.reduceMul, e10], by simp -implicitDefEqProofs only [go_sem, Nat.reduceLT, Nat.reduceBEq, Nat.reduceAdd, Nat.reduceEqDiff, Nat.reduceLeDiff, Nat.reduceSub, Nat.reduceMul, e11], by simp -implicitDefEqProofs only [go_sem, Nat.reduceLT, Nat.reduceBEq, Nat.reduceAdd, Nat.reduceEqDiff, Nat.reduceLeDiff, Nat.reduceSub, Nat.reduceMul, e12], by simp -implicitDefEqProofs only [go_sem, Nat.reduceLT, Nat.reduceBEq, Nat.reduceAdd, Nat.reduceEqDiff, Nat.reduceLeDiff, Nat.reduceSub, Nat.reduceMul, e13], by simp -implicitDefEqProofs only [go_sem, Nat.reduceLT, Nat.reduceBEq, Nat.reduceAdd, Nat.reduceEqDiff, Nat.reduceLeDiff, Nat.reduceSub, Nat.reduceMul, e14], by simp -implicitDefEqProofs only [go_sem, Nat.reduceLT, Nat.reduceBEq, Nat.reduceAdd, Nat.reduceEqDiff, Nat.reduceLeDiff, Nat.reduceSub, Nat.reduceMul, e21], by simp -implicitDefEqProofs only [go_sem, Nat.reduceLT, Nat.reduceBEq, Nat.reduceAdd, Nat.reduceEqDiff, Nat.reduceLeDiff, Nat.reduceSub, Nat.reduceMul, e22], by simp -implicitDefEqProofs only [go_sem, Nat.reduceLT, Nat.reduceBEq, Nat.reduceAdd, Nat.reduceEqDiff, Nat.reduceLeDiff, Nat.reduceSub, Nat.reduceMul, e23], by simp -implicitDefEqProofs only [go_sem, Nat.reduceLT, Nat.reduceBEq, Nat.reduceAdd, Nat.reduceEqDiff, Nat.reduceLeDiff, Nat.reduceSub, Nat.reduceMul], rfl, by omega⟩
        clear hrow ho e0 e1 e8 e9 e10 e11 e12 e13 e14 e21 e22 e23 hx E H'
        rintro j E H' n' ⟨rfl, hrow, ho, e0, e1, e8, e9, e10, e11, e12, e13, e14, e21, e22, e23, e58, e59, hj⟩
        simp -implicitDefEqProofs only [go_sem, Nat.reduceLT, Nat.reduceBEq, Nat.reduceAdd, Nat.reduceEqDiff, Nat.reduceLeDiff, Nat.reduceSub, Nat.reduceMul, e58, e59]
        refine c_split (fun hcj => ?_) (fun hcj => ?_)
        · have hjN : j < e.w 0 := by omega
          have hjI : ((j : Nat) : Int) < ((e.w 0 : Nat) : Int) := hcj
          have hwj := wrap64 (x := (j : Int) + 1) (by omega)
          have hn := hB.n i j hiN (by omega)
          simp -implicitDefEqProofs only [go_sem, Nat.reduceLT, Nat.reduceBEq, Nat.reduceAdd, Nat.reduceEqDiff, Nat.reduceLeDiff, Nat.reduceSub, Nat.reduceMul, Enc.mcl, e0, e9, e10, e11, e14, e59, hrow, hjN, hjI, hiN, hiI, gat_tab, hwN, e.rowf_at, mix_at]
          refine mcall_of (.int _ _) (fun H1 n1 _ _ => sp_coefficient e i j d (by omega)) ?_
          simp -implicitDefEqProofs only [go_sem, Nat.reduceLT, Nat.reduceBEq, Nat.reduceAdd, Nat.reduceEqDiff, Nat.reduceLeDiff, Nat.reduceSub, Nat.reduceMul]
          refine mcall_of (.int _ _) (fun H1 n1 _ _ => sp_GF_Mul h.fc h.g h.gg X (e.co i j d)) ?_
          simp -implicitDefEqProofs only [go_sem, Nat.reduceLT, Nat.reduceBEq, Nat.reduceAdd, Nat.reduceEqDiff, Nat.reduceLeDiff, Nat.reduceSub, Nat.reduceMul]
          refine mcall_of (.int _ _) (fun H1 n1 _ _ => sp_GF_Add h.fc h.g _ _) ?_
          have hval : ein M ((cn (e.so M st inp i d j) : Nat) : Int) + ein M ((cn (ein M X * ein M (e.co i j d)) : Nat) : Int) = e.so M st inp i (d + 1) j := by
            rw [ein_cn h.fc, ein_cn h.fc, e.so_step, Enc.tm, hXX]
          rw [hval]
          have hst := mix_step (fun j => ((cn (e.so M st inp i (d + 1) j) : Nat) : Int)) (fun j => ((cn (e.so M st inp i d j) : Nat) : Int)) j
          simp -implicitDefEqProofs only [go_sem, Nat.reduceLT, Nat.reduceBEq, Nat.reduceAdd, Nat.reduceEqDiff, Nat.reduceLeDiff, Nat.reduceSub, Nat.reduceMul, e59, hrow, hjN, hjI, hwj, hst]
          repeat with_reducible refine And.intro (by omega) ?_
          exact l_n ⟨j + 1, by omega, rfl, by simp -implicitDefEqProofs only [go_sem, Nat.reduceLT, Nat.reduceBEq, Nat.reduceAdd, Nat.reduceEqDiff, Nat.reduceLeDiff, Nat.reduceSub, Nat.reduceMul], fun b hb => by rw [upd_ne _ _ (by omega)]; exact ho b hb, by simp -implicitDefEqProofs only [go_sem, Nat.reduceLT, Nat.reduceBEq, Nat.reduceAdd, Nat.reduceEqDiff, Nat.reduceLeDiff, Nat.reduceSub, Nat.reduceMul, e0, Enc.mcl], by simp -implicitDefEqProofs only [go_sem, Nat.reduceLT, Nat.reduceBEq, Nat.reduceAdd, Nat.reduceEqDiff, Nat.reduceLeDiff, Nat.reduceSub, Nat.reduceMul, e1], by simp -implicitDefEqProofs only [go_sem, Nat.reduceLT, Nat.reduceBEq, Nat.reduceAdd, Nat.reduceEqDiff, Nat.reduceLeDiff, Nat.reduceSub, Nat.reduceMul, e8], by simp -implicitDefEqProofs only [go_sem, Nat.reduceLT, Nat.reduceBEq, Nat.reduceAdd, Nat.reduceEqDiff, Nat.reduceLeDiff, Nat.reduceSub, Nat.reduceMul, e9], by simp -implicitDefEqProofs only [go_sem, Nat.reduceLT, Nat.reduceBEq, Nat.reduceAdd, Nat.reduceEqDiff, Nat.reduceLeDiff, Nat.reduceSub, Nat.reduceMul, e10], by simp -implicitDefEqProofs only [go_sem, Nat.reduceLT, Nat.reduceBEq, Nat.reduceAdd, Nat.reduceEqDiff, Nat.reduceLeDiff, Nat.reduceSub, Nat.reduceMul, e11], by simp -implicitDefEqProofs only [go_sem, Nat.reduceLT, Nat.reduceBEq, Nat.reduceAdd, Nat.reduceEqDiff, Nat.reduceLeDiff, Nat.reduceSub, Nat.reduceMul, e12], by simp -implicitDefEqProofs only [go_sem, Nat.reduceLT, Nat.reduceBEq, Nat.reduceAdd, Nat.reduceEqDiff, Nat.reduceLeDiff, Nat.reduceSub, Nat.reduceMul, e13], by simp -implicitDefEqProofs only [go_sem, Nat.reduceLT, Nat.reduceBEq, Nat.reduceAdd, Nat.reduceEqDiff, Nat.reduceLeDiff, Nat.reduceSub, Nat.reduceMul, e14], by simp -implicitDefEqProofs only [go_sem, Nat.reduceLT, Nat.reduceBEq, Nat.reduceAdd, Nat.reduceEqDiff, Nat.reduceLeDiff, Nat.reduceSub, Nat.reduceMul, e21], by simp -implicitDefEqProofs only [go_sem, Nat.reduceLT, Nat.reduceBEq, Nat.reduceAdd, Nat.reduceEqDiff, Nat.reduceLeDiff, Nat.reduceSub, Nat.reduceMul, e22], by simp -implicitDefEqProofs only [go_sem, Nat.reduceLT, Nat.reduceBEq, Nat.reduceAdd, Nat.reduceEqDiff, Nat.reduceLeDiff, Nat.reduceSub, Nat.reduceMul, e23], by simp -implicitDefEqProofs only [go_sem, Nat.reduceLT, Nat.reduceBEq, Nat.reduceAdd, Nat.reduceEqDiff, Nat.reduceLeDiff, Nat.reduceSub, Nat.reduceMul, e58], by simp -implicitDefEqProofs only [go_sem, Nat.reduceLT, Nat.reduceBEq, Nat.reduceAdd, Nat.reduceEqDiff, Nat.reduceLeDiff, Nat.reduceSub, Nat.reduceMul]; rfl, by omega⟩
        · have hjw : j = e.w 0 := by omega
          subst hjw
          have hrow : H' n = some (tab (e.w 0) (it fun j => (cn (e.so M st inp i (d + 1) j) : Nat))) := by
            rw [hrow]
            exact congrArg some (tab_congr fun j hj => congrArg (GV.int .i64) (mix_lt _ _ hj))
          simp -implicitDefEqProofs only [go_sem, Nat.reduceLT, Nat.reduceBEq, Nat.reduceAdd, Nat.reduceEqDiff, Nat.reduceLeDiff, Nat.reduceSub, Nat.reduceMul]
          by_cases hdl : d < e.deg i
          · have hdI : ((d : Nat) : Int) < ((e.deg i : Nat) : Int) := by omega
            have hnx := e.nx_step (qn M : Nat) st inp i d
            have hmn : min (d + 1) (e.deg i) = d + 1 := by omega
            have hmn0 : min d (e.deg i) = d := by omega
            have hb0 := e.nx_lt (st := st) hq2I hin i (by omega) d (.inr hiN)
            have hb1 := e.nx_lt (st := st) hq2I hin i (by omega) (d + 1) (.inr hiN)
            have hp1 := hpw (e.ds i + d) (by omega)
            have hp2 := hpw (e.ds i + (d + 1)) (by omega)
            have hps : qn M ^ (e.ds i + (d + 1)) = qn M ^ (e.ds i + d) * qn M := Nat.pow_succ ..
            have hX1 : e.X (qn M : Nat) st inp i (d + 1) = st / ((qn M : Nat) : Int) ^ (e.ds i + d) % ((qn M : Nat) : Int) := rfl
            have hdst := dg_step (p := ((qn M : Nat) : Int)) (x := st) hq2I (e.ds i + d)
            have hv0 := hdiv (e.ds i + d)
            have hv1 := hdiv (e.ds i + (d + 1))
            rw [hP] at hp1 hp2
            have hm0 : 0 ≤ X * ((qn M : Nat) : Int) ^ (e.ds i + d) := Int.mul_nonneg hX.1 (by omega)
            have hm1 : X * ((qn M : Nat) : Int) ^ (e.ds i + d) ≤ 256 * 65536 := Int.mul_le_mul (by omega) (by omega) (by omega) (by omega)
            have w1 := wrap64 (x := X * ((qn M : Nat) : Int) ^ (e.ds i + d)) (by omega)
            have w2 : IntKind.i64.wrap (e.nx (qn M : Nat) st inp i d + X * ((qn M : Nat) : Int) ^ (e.ds i + d)) = e.nx (qn M : Nat) st inp i (d + 1) := by rw [hnx, hXv]; exact wrap64 (by omega)
            have w3 : IntKind.i64.wrap (((qn M : Nat) : Int) ^ (e.ds i + d) * ((qn M : Nat) : Int)) = ((qn M : Nat) : Int) ^ (e.ds i + (d + 1)) := by
              have : ((qn M : Nat) : Int) ^ (e.ds i + (d + 1)) = ((qn M : Nat) : Int) ^ (e.ds i + d) * ((qn M : Nat) : Int) := Int.pow_succ _ _
              rw [← this]; exact wrap64 (by omega)
            have t1 := tmod_nn (a := st / ((qn M : Nat) : Int) ^ (e.ds i + d)) (b := ((qn M : Nat) : Int)) (by omega)
            have w4 : IntKind.i64.wrap ((st / ((qn M : Nat) : Int) ^ (e.ds i + d)).tdiv ((qn M : Nat) : Int)) = st / ((qn M : Nat) : Int) ^ (e.ds i + (d + 1)) := by
              rw [tdiv_nn (by omega), hdst]; exact wrap64 (x := st / ((qn M : Nat) : Int) ^ (e.ds i + (d + 1))) (by omega)
            simp -implicitDefEqProofs only [go_sem, Nat.reduceLT, Nat.reduceBEq, Nat.reduceAdd, Nat.reduceEqDiff, Nat.reduceLeDiff, Nat.reduceSub, Nat.reduceMul, Enc.mcl, e0, e8, e10, e11, e12, e13, e14, hiI, hiN, gat_tab, hdI, hmn0, hqne, w1, w2, w3, w4, t1, hwd]
            exact l_n ⟨d + 1, by omega, rfl, hrow, ho, by simp -implicitDefEqProofs only [go_sem, Nat.reduceLT, Nat.reduceBEq, Nat.reduceAdd, Nat.reduceEqDiff, Nat.reduceLeDiff, Nat.reduceSub, Nat.reduceMul, e0, Enc.mcl], by simp -implicitDefEqProofs only [go_sem, Nat.reduceLT, Nat.reduceBEq, Nat.reduceAdd, Nat.reduceEqDiff, Nat.reduceLeDiff, Nat.reduceSub, Nat.reduceMul, e1], by simp -implicitDefEqProofs only [go_sem, Nat.reduceLT, Nat.reduceBEq, Nat.reduceAdd, Nat.reduceEqDiff, Nat.reduceLeDiff, Nat.reduceSub, Nat.reduceMul, hmn], by simp -implicitDefEqProofs only [go_sem, Nat.reduceLT, Nat.reduceBEq, Nat.reduceAdd, Nat.reduceEqDiff, Nat.reduceLeDiff, Nat.reduceSub, Nat.reduceMul, e9], by simp -implicitDefEqProofs only [go_sem, Nat.reduceLT, Nat.reduceBEq, Nat.reduceAdd, Nat.reduceEqDiff, Nat.reduceLeDiff, Nat.reduceSub, Nat.reduceMul, e10], by simp -implicitDefEqProofs only [go_sem, Nat.reduceLT, Nat.reduceBEq, Nat.reduceAdd, Nat.reduceEqDiff, Nat.reduceLeDiff, Nat.reduceSub, Nat.reduceMul]; rfl, by simp -implicitDefEqProofs only [go_sem, Nat.reduceLT, Nat.reduceBEq, Nat.reduceAdd, Nat.reduceEqDiff, Nat.reduceLeDiff, Nat.reduceSub, Nat.reduceMul, e21], by simp -implicitDefEqProofs only [go_sem, Nat.reduceLT, Nat.reduceBEq, Nat.reduceAdd, Nat.reduceEqDiff, Nat.reduceLeDiff, Nat.reduceSub, Nat.reduceMul, e22], by simp -implicitDefEqProofs only [go_sem, Nat.reduceLT, Nat.reduceBEq, Nat.reduceAdd, Nat.reduceEqDiff, Nat.reduceLeDiff, Nat.reduceSub, Nat.reduceMul, e23], fun _ => ⟨by simp -implicitDefEqProofs only [go_sem, Nat.reduceLT, Nat.reduceBEq, Nat.reduceAdd, Nat.reduceEqDiff, Nat.reduceLeDiff, Nat.reduceSub, Nat.reduceMul]; rfl, by simp -implicitDefEqProofs only [go_sem, Nat.reduceLT, Nat.reduceBEq, Nat.reduceAdd, Nat.reduceEqDiff, Nat.reduceLeDiff, Nat.reduceSub, Nat.reduceMul], by simp -implicitDefEqProofs only [go_sem, Nat.reduceLT, Nat.reduceBEq, Nat.reduceAdd, Nat.reduceEqDiff, Nat.reduceLeDiff, Nat.reduceSub, Nat.reduceMul]⟩, by omega⟩
          · have hdI : ¬ ((d : Nat) : Int) < ((e.deg i : Nat) : Int) := by omega
            have hmn : min (d + 1) (e.deg i) = min d (e.deg i) := by omega
            simp -implicitDefEqProofs only [go_sem, Nat.reduceLT, Nat.reduceBEq, Nat.reduceAdd, Nat.reduceEqDiff, Nat.reduceLeDiff, Nat.reduceSub, Nat.reduceMul, Enc.mcl, e0, e10, e14, hiI, hiN, gat_tab, hdI, hwd]
            exact l_n ⟨d + 1, by omega, rfl, hrow, ho, by simp -implicitDefEqProofs only [go_sem, Nat.reduceLT, Nat.reduceBEq, Nat.reduceAdd, Nat.reduceEqDiff, Nat.reduceLeDiff, Nat.reduceSub, Nat.reduceMul, e0, Enc.mcl], by simp -implicitDefEqProofs only [go_sem, Nat.reduceLT, Nat.reduceBEq, Nat.reduceAdd, Nat.reduceEqDiff, Nat.reduceLeDiff, Nat.reduceSub, Nat.reduceMul, e1], by simp -implicitDefEqProofs only [go_sem, Nat.reduceLT, Nat.reduceBEq, Nat.reduceAdd, Nat.reduceEqDiff, Nat.reduceLeDiff, Nat.reduceSub, Nat.reduceMul, e8, hmn], by simp -implicitDefEqProofs only [go_sem, Nat.reduceLT, Nat.reduceBEq, Nat.reduceAdd, Nat.reduceEqDiff, Nat.reduceLeDiff, Nat.reduceSub, Nat.reduceMul, e9], by simp -implicitDefEqProofs only [go_sem, Nat.reduceLT, Nat.reduceBEq, Nat.reduceAdd, Nat.reduceEqDiff, Nat.reduceLeDiff, Nat.reduceSub, Nat.reduceMul, e10], by simp -implicitDefEqProofs only [go_sem, Nat.reduceLT, Nat.reduceBEq, Nat.reduceAdd, Nat.reduceEqDiff, Nat.reduceLeDiff, Nat.reduceSub, Nat.reduceMul]; rfl, by simp -implicitDefEqProofs only [go_sem, Nat.reduceLT, Nat.reduceBEq, Nat.reduceAdd, Nat.reduceEqDiff, Nat.reduceLeDiff, Nat.reduceSub, Nat.reduceMul, e21], by simp -implicitDefEqProofs only [go_sem, Nat.reduceLT, Nat.reduceBEq, Nat.reduceAdd, Nat.reduceEqDiff, Nat.reduceLeDiff, Nat.reduceSub, Nat.reduceMul, e22], by simp -implicitDefEqProofs only [go_sem, Nat.reduceLT, Nat.reduceBEq, Nat.reduceAdd, Nat.reduceEqDiff, Nat.reduceLeDiff, Nat.reduceSub, Nat.reduceMul, e23], fun h => by omega, by omega⟩
    · have hdd : d = e.deg i + 1 := by omega
      subst hdd
      have hmn : min (e.deg i + 1) (e.deg i) = e.deg i := by omega
      rw [hmn, ← e.nx_row] at e8
      have hrow : H' n = some (tab (e.w 0) (it fun j => (cn (e.so M st inp (i + 1) 0 j) : Nat))) := by
        rw [hrow]
        exact congrArg some (tab_congr fun j hj => congrArg (GV.int .i64) (show ((cn (e.so M st inp i (e.deg i + 1) j) : Nat) : Int) = ((cn (e.so M st inp (i + 1) 0 j) : Nat) : Int) by rw [e.so_row]))
      simp -implicitDefEqProofs only [go_sem, Nat.reduceLT, Nat.reduceBEq, Nat.reduceAdd, Nat.reduceEqDiff, Nat.reduceLeDiff, Nat.reduceSub, Nat.reduceMul, e23, hwi]
      exact l_n ⟨i + 1, by omega, rfl, hrow, ho, by simp -implicitDefEqProofs only [go_sem, Nat.reduceLT, Nat.reduceBEq, Nat.reduceAdd, Nat.reduceEqDiff, Nat.reduceLeDiff, Nat.reduceSub, Nat.reduceMul, e0, Enc.mcl], by simp -implicitDefEqProofs only [go_sem, Nat.reduceLT, Nat.reduceBEq, Nat.reduceAdd, Nat.reduceEqDiff, Nat.reduceLeDiff, Nat.reduceSub, Nat.reduceMul, e1], by simp -implicitDefEqProofs only [go_sem, Nat.reduceLT, Nat.reduceBEq, Nat.reduceAdd, Nat.reduceEqDiff, Nat.reduceLeDiff, Nat.reduceSub, Nat.reduceMul, e8], by simp -implicitDefEqProofs only [go_sem, Nat.reduceLT, Nat.reduceBEq, Nat.reduceAdd, Nat.reduceEqDiff, Nat.reduceLeDiff, Nat.reduceSub, Nat.reduceMul, e9], by simp -implicitDefEqProofs only [go_sem, Nat.reduceLT, Nat.reduceBEq, Nat.reduceAdd, Nat.reduceEqDiff, Nat.reduceLeDiff, Nat.reduceSub, Nat.reduceMul, e21], by simp -implicitDefEqProofs only [go_sem, Nat.reduceLT, Nat.reduceBEq, Nat.reduceAdd, Nat.reduceEqDiff, Nat.reduceLeDiff, Nat.reduceSub, Nat.reduceMul, e22], by simp -implicitDefEqProofs only [go_sem, Nat.reduceLT, Nat.reduceBEq, Nat.reduceAdd, Nat.reduceEqDiff, Nat.reduceLeDiff, Nat.reduceSub, Nat.reduceMul]; rfl, by omega⟩
  · have : i = e.r := by omega
    subst this
    simp -implicitDefEqProofs only [go_sem, Nat.reduceLT, Nat.reduceBEq, Nat.reduceAdd, Nat.reduceEqDiff, Nat.reduceLeDiff, Nat.reduceSub, Nat.reduceMul, e8, e9]
    refine fin_ret2 rfl (by decide) (by decide) ?_ ?_ ho
    · simp -implicitDefEqProofs only [go_sem, Nat.reduceLT, Nat.reduceBEq, Nat.reduceAdd, Nat.reduceEqDiff, Nat.reduceLeDiff, Nat.reduceSub, Nat.reduceMul]; exact fz_int rfl
    · simp -implicitDefEqProofs only [go_sem, Nat.reduceLT, Nat.reduceBEq, Nat.reduceAdd, Nat.reduceEqDiff, Nat.reduceLeDiff, Nat.reduceSub, Nat.reduceMul]; exact fz_own_isl hrow (by omega)
theorem sp_step {H : Heap} {n : Nat} (e : Enc) (hB : e.Bnd) (h : Fi M) (hd : e.Des M) (hce : e.ce = 0) (st : Int) (inp : Nat → Int) (hs0 : 0 ≤ st) (hs1 : st ≤ 65536) (hin : ∀ i, i < e.r → 0 ≤ inp i ∧ inp i < (qn M : Nat)) :
    Spec prog fid_conv_machine_step [e.mch h.gf (qn M), .int .i64 st, isl e.r inp] H n (.tup [.int .i64 (e.nx (qn M : Nat) st inp e.r 0), isl (e.w 0) fun j => (cn (e.so M st inp e.r 0 j) : Nat)]) H n :=
  sp_step' e hB h hd hce st inp hs0 hs1 hin (Rd.sl _ _)
end
end Go.Proofs.Ytdpibcniodhinaa.Gh
/- The reference's step, states and inputs. -/
namespace Go.Proofs.Ytdpibcniodhinaa.Gh
open Go Go.RowKit
open Alg (CR Ps Dg Zm Mn El Cg sm pw Irr Prm)
set_option linter.unusedVariables false
set_option linter.unusedSimpArgs false

section
variable {k : Nat} {M : Mn k}
theorem Enc.dot_eq (e : Enc) (h : Fc M) (st : Int) (inp : Nat → Int) (i j : Nat) :
    sm (min (e.deg i + 1) (e.n i j)) (fun d => ein M (e.X (qn M : Nat) st inp i d) * ein M (e.c i j d)) = sm (e.deg i + 1) (e.tm M st inp j i) := by
  have h1 : sm (min (e.deg i + 1) (e.n i j)) (fun d => ein M (e.X (qn M : Nat) st inp i d) * ein M (e.c i j d)) = sm (min (e.deg i + 1) (e.n i j)) (e.tm M st inp j i) :=
    Alg.sm_congr fun d hd => by rw [tm, co, if_pos (by omega)]
  rw [h1]
  refine (Alg.sm_ext (Nat.min_le_left _ _) fun d h2 h3 => ?_).symm
  rw [tm, co, if_neg (by omega), ein_zero h, Alg.mul_zero]
theorem Enc.so_add (e : Enc) (st : Int) (inp : Nat → Int) (i j : Nat) : e.so M st inp i 0 j + sm (e.deg i + 1) (e.tm M st inp j i) = e.so M st inp (i + 1) 0 j := by
  rw [so, so, Alg.sm_zero, Alg.sm_zero, Alg.add_zero, Alg.add_zero]
  rfl
set_option maxHeartbeats 4000000 in
theorem sp_ref20_Next {H : Heap} {n : Nat} (e : Enc) (hB : e.Bnd) (h : Fi M) (hd : e.Des M) (hce : e.ce = 0) (st : Int) (inp : Nat → Int) (hs0 : 0 ≤ st) (hs1 : st ≤ 65536) (hin : ∀ i, i < e.r → 0 ≤ inp i ∧ inp i < (qn M : Nat)) :
    Spec prog fid_ref20_Next [e.gv, .int .i64 st, isl e.r inp] H n (.tup [.int .i64 (e.nx (qn M : Nat) st inp e.r 0), isl (e.w 0) fun j => (cn (e.so M st inp e.r 0 j) : Nat)]) H n := by
  refine spec_ends hmix ok_ref20_Next rfl fun hF => ?_
  show gw prog B_ref20_Next _ (tl 102 _) H n
  have hq2 := qn_two M
  have hq := h.fc.qn
  have hr := hB.r
  have hqo := hd.qo h
  have hpw := Enc.pow_le h hd hce
  have hok := Enc.ok hce
  have hr0 : 0 < e.r := by have := hok.2.1.1; omega
  have hw0 := hB.w 0 hr0
  have hq2I : (2 : Int) ≤ ((qn M : Nat) : Int) := by omega
  have hqne : (((qn M : Nat) : Int) = 0) = False := eq_false (by omega)
  have hP : ∀ x, ((qn M ^ x : Nat) : Int) = ((qn M : Nat) : Int) ^ x := fun x => Int.natCast_pow ..
  have hdiv : ∀ x, 0 ≤ st / ((qn M : Nat) : Int) ^ x ∧ st / ((qn M : Nat) : Int) ^ x ≤ 65536 := fun x => by
    have h0 : 0 < ((qn M : Nat) : Int) ^ x := Int.pow_pos (by omega)
    exact ⟨Int.ediv_nonneg (by omega) (by omega), Int.le_trans (Int.ediv_le_self _ (by omega)) (by omega)⟩
  have hpw : ∀ x, x ≤ e.ds e.r → ((qn M : Nat) : Int) ^ x ≤ 65536 := fun x hx => by have := hpw x hx; rw [← hP]; omega
  have hfd : fgv e.p e.m (isl e.l e.mo) = fd M := Des.fd hd
  have sDot : ∀ (H3 : Heap) (n3 : Nat) (a b : GV) (la lb : Nat) (f g : Nat → Int), Rd H3 n3 a la f → Rd H3 n3 b lb g → la ≤ 1000000 → lb ≤ 1000000 → Spec prog fid_ref04_Dot [fgv e.p e.m (isl e.l e.mo), a, b] H3 n3 (.int .i64 (cn (sm (min la lb) fun i => ein M (f i) * ein M (g i)) : Nat)) H3 n3 := fun H3 n3 a b la lb f g h1 h2 h3 h4 => by rw [hfd]; exact sp_Dot h.fc h1 h2 h3 h4
  have sAdd : ∀ (H3 : Heap) (n3 : Nat) (x y : Int), Spec prog fid_ref04_Add [fgv e.p e.m (isl e.l e.mo), .int .i64 x, .int .i64 y] H3 n3 (.int .i64 (cd (ein M x + ein M y))) H3 n3 := fun H3 n3 x y => by rw [hfd]; exact sp_ref04_Add h.fc x y
  have hz1 : (0 : Int) < (e.r : Int) := by omega
  have hz3 : (0 : Int).toNat = 0 := rfl
  have hz4 : (0 : Int) ≤ 0 := Int.le_refl 0
  simp -implicitDefEqProofs only [B_ref20_Next, go_sem, Nat.reduceLT, Nat.reduceBEq, Nat.reduceAdd, Nat.reduceEqDiff, Nat.reduceLeDiff, Nat.reduceSub, Nat.reduceMul]
  refine call_of (sp_ref04_Order e.p e.m _ rfl) ?_
  rw [hqo]
  simp -implicitDefEqProofs only [go_sem, Nat.reduceLT, Nat.reduceBEq, Nat.reduceAdd, Nat.reduceEqDiff, Nat.reduceLeDiff, Nat.reduceSub, Nat.reduceMul, hz1, hr0, hz3, hz4, gat_tab, e.rw_at]
  repeat with_reducible refine And.intro (by omega) ?_
  refine loop_rule (fun (i : Nat) E H' n' => n + 2 ≤ n' ∧ H' n = some e.cs ∧ H' (n + 1) = some (tab (e.w 0) (it fun j => (cn (e.so M st inp i 0 j) : Nat))) ∧ (∀ b, b < n → H' b = H b) ∧ E 1 = .int .i64 (st / ((qn M : Nat) : Int) ^ (e.ds i)) ∧ E 2 = isl e.r inp ∧ E 3 = .ptr n 0 ∧ E 8 = .int .i64 (qn M : Nat) ∧ E 9 = .int .i64 (e.nx (qn M : Nat) st inp i 0) ∧ E 10 = .int .i64 (((qn M : Nat) : Int) ^ (e.ds i)) ∧ E 11 = .own (n + 1) 0 (e.w 0) ∧ E 12 = .int .i64 (i : Nat) ∧ i ≤ e.r) (fun i => e.r - i) 0 ?_ ?_
  · refine ⟨by omega, by simp -implicitDefEqProofs only [go_sem, Nat.reduceLT, Nat.reduceBEq, Nat.reduceAdd, Nat.reduceEqDiff, Nat.reduceLeDiff, Nat.reduceSub, Nat.reduceMul], ?_, fun b hb => by rw [upd_ne _ _ (by omega), upd_ne _ _ (by omega)], ?_, rfl, rfl, rfl, rfl, ?_, rfl, rfl, by omega⟩
    · simp -implicitDefEqProofs only [go_sem, Nat.reduceLT, Nat.reduceBEq, Nat.reduceAdd, Nat.reduceEqDiff, Nat.reduceLeDiff, Nat.reduceSub, Nat.reduceMul, tab_rep]
      refine congrArg some (tab_congr fun j hj => congrArg (GV.int .i64) ?_)
      show (0 : Int) = ((cn (e.so M st inp 0 0 j) : Nat) : Int)
      rw [e.so_zero, cn_zero]; rfl
    · have : e.ds 0 = 0 := rfl
      simp -implicitDefEqProofs only [go_sem, Nat.reduceLT, Nat.reduceBEq, Nat.reduceAdd, Nat.reduceEqDiff, Nat.reduceLeDiff, Nat.reduceSub, Nat.reduceMul, this, Int.pow_zero, Int.ediv_one]
    · have : e.ds 0 = 0 := rfl
      simp -implicitDefEqProofs only [go_sem, Nat.reduceLT, Nat.reduceBEq, Nat.reduceAdd, Nat.reduceEqDiff, Nat.reduceLeDiff, Nat.reduceSub, Nat.reduceMul, this, Int.pow_zero]
  rintro i E H' n' ⟨hn', h0, hrow, ho, e1, e2, e3, e8, e9, e10, e11, e12, hi⟩
  simp -implicitDefEqProofs only [go_sem, Nat.reduceLT, Nat.reduceBEq, Nat.reduceAdd, Nat.reduceEqDiff, Nat.reduceLeDiff, Nat.reduceSub, Nat.reduceMul, e3, e12, h0]
  refine c_split (fun hc => ?_) (fun hc => ?_)
  · have hiN : i < e.r := by omega
    have hiI : ((i : Nat) : Int) < ((e.r : Nat) : Int) := hc
    have hwi := wrap64 (x := (i : Int) + 1) (by omega)
    have hdsm : e.ds (i + 1) ≤ e.ds e.r := sumn_mono (by omega)
    have hdsS : e.ds (i + 1) = e.ds i + e.deg i := rfl
    have hdeg := e.deg_le hB hiN
    have hwN : e.w i = e.w 0 := hok.2.1.2.2.2 i hiN
    simp -implicitDefEqProofs only [go_sem, Nat.reduceLT, Nat.reduceBEq, Nat.reduceAdd, Nat.reduceEqDiff, Nat.reduceLeDiff, Nat.reduceSub, Nat.reduceMul, e2, e12, hiI, hiN, gat_tab]
    repeat with_reducible refine And.intro (by omega) ?_
    refine loop_rule (fun (d : Nat) E H' n' => ∃ bl, n + 2 ≤ bl ∧ bl < n' ∧ H' n = some e.cs ∧ H' (n + 1) = some (tab (e.w 0) (it fun j => (cn (e.so M st inp i 0 j) : Nat))) ∧ H' bl = some (tab (d + 1) (it (e.X (qn M : Nat) st inp i))) ∧ (∀ b, b < n → H' b = H b) ∧ E 1 = .int .i64 (st / ((qn M : Nat) : Int) ^ (e.ds i + d)) ∧ E 2 = isl e.r inp ∧ E 3 = .ptr n 0 ∧ E 8 = .int .i64 (qn M : Nat) ∧ E 9 = .int .i64 (e.nx (qn M : Nat) st inp i 0) ∧ E 10 = .int .i64 (((qn M : Nat) : Int) ^ (e.ds i)) ∧ E 11 = .own (n + 1) 0 (e.w 0) ∧ E 12 = .int .i64 (i : Nat) ∧ E 13 = .own bl 0 (d + 1) ∧ E 14 = .int .i64 (d : Nat) ∧ d ≤ e.deg i) (fun d => e.deg i - d) 0 ?_ ?_
    · refine ⟨n', by omega, by omega, ?_, ?_, ?_, fun b hb => by rw [upd_ne _ _ (by omega)]; exact ho b hb, by simp -implicitDefEqProofs only [go_sem, Nat.reduceLT, Nat.reduceBEq, Nat.reduceAdd, Nat.reduceEqDiff, Nat.reduceLeDiff, Nat.reduceSub, Nat.reduceMul, e1], by simp -implicitDefEqProofs only [go_sem, Nat.reduceLT, Nat.reduceBEq, Nat.reduceAdd, Nat.reduceEqDiff, Nat.reduceLeDiff, Nat.reduceSub, Nat.reduceMul, e2], by simp -implicitDefEqProofs only [go_sem, Nat.reduceLT, Nat.reduceBEq, Nat.reduceAdd, Nat.reduceEqDiff, Nat.reduceLeDiff, Nat.reduceSub, Nat.reduceMul, e3], by simp -implicitDefEqProofs only [go_sem, Nat.reduceLT, Nat.reduceBEq, Nat.reduceAdd, Nat.reduceEqDiff, Nat.reduceLeDiff, Nat.reduceSub, Nat.reduceMul, e8], by simp -implicitDefEqProofs only [go_sem, Nat.reduceLT, Nat.reduceBEq, Nat.reduceAdd, Nat.reduceEqDiff, Nat.reduceLeDiff, Nat.reduceSub, Nat.reduceMul, e9], by simp -implicitDefEqProofs only [go_sem, Nat.reduceLT, Nat.reduceBEq, Nat.reduceAdd, Nat.reduceEqDiff, Nat.reduceLeDiff, Nat.reduceSub, Nat.reduceMul, e10], by simp -implicitDefEqProofs only [go_sem, Nat.reduceLT, Nat.reduceBEq, Nat.reduceAdd, Nat.reduceEqDiff, Nat.reduceLeDiff, Nat.reduceSub, Nat.reduceMul, e11], by simp -implicitDefEqProofs only [go_sem, Nat.reduceLT, Nat.reduceBEq, Nat.reduceAdd, Nat.reduceEqDiff, Nat.reduceLeDiff, Nat.reduceSub, Nat.reduceMul, e12], by simp -implicitDefEqProofs only [go_sem, Nat.reduceLT, Nat.reduceBEq, Nat.reduceAdd, Nat.reduceEqDiff, Nat.reduceLeDiff, Nat.reduceSub, Nat.reduceMul], by simp -implicitDefEqProofs only [go_sem, Nat.reduceLT, Nat.reduceBEq, Nat.reduceAdd, Nat.reduceEqDiff, Nat.reduceLeDiff, Nat.reduceSub, Nat.reduceMul]; rfl, by omega⟩
      · rw [upd_ne _ _ (by omega)]; exact h0
      · rw [upd_ne _ _ (by omega)]; exact hrow
      · rw [upd_same]; rfl
    clear hn' h0 hrow ho e1 e2 e3 e8 e9 e10 e11 e12 E H' n'
    rintro d E H' n' ⟨bl, l1, l2, h0, hrow, hl, ho, e1, e2, e3, e8, e9, e10, e11, e12, e13, e14, hdd⟩
    simp -implicitDefEqProofs only [go_sem, Nat.reduceLT, Nat.reduceBEq, Nat.reduceAdd, Nat.reduceEqDiff, Nat.reduceLeDiff, Nat.reduceSub, Nat.reduceMul, e3, e12, e14, h0]
    refine call_of (sp_ref20_Degree e hB i hiN) ?_
    simp -implicitDefEqProofs only [go_sem, Nat.reduceLT, Nat.reduceBEq, Nat.reduceAdd, Nat.reduceEqDiff, Nat.reduceLeDiff, Nat.reduceSub, Nat.reduceMul]
    refine c_split (fun hcd => ?_) (fun hcd => ?_)
    · have hv0 := hdiv (e.ds i + d)
      have hv1 := hdiv (e.ds i + (d + 1))
      have hX1 : e.X (qn M : Nat) st inp i (d + 1) = st / ((qn M : Nat) : Int) ^ (e.ds i + d) % ((qn M : Nat) : Int) := rfl
      have hdst := dg_step (p := ((qn M : Nat) : Int)) (x := st) hq2I (e.ds i + d)
      have t1 := tmod_nn (a := st / ((qn M : Nat) : Int) ^ (e.ds i + d)) (b := ((qn M : Nat) : Int)) (by omega)
      have w4 : IntKind.i64.wrap ((st / ((qn M : Nat) : Int) ^ (e.ds i + d)).tdiv ((qn M : Nat) : Int)) = st / ((qn M : Nat) : Int) ^ (e.ds i + (d + 1)) := by
        rw [tdiv_nn (by omega), hdst]; exact wrap64 (x := st / ((qn M : Nat) : Int) ^ (e.ds i + (d + 1))) (by omega)
      have hwd := wrap64 (x := (d : Int) + 1) (by omega)
      have f1 : (bl = n') = False := eq_false (by omega)
      have f2 : (n' = bl) = False := eq_false (by omega)
      have hs1 : tab (d + 1) (it (e.X (qn M : Nat) st inp i)) ++ [GV.int .i64 (st / ((qn M : Nat) : Int) ^ (e.ds i + d) % ((qn M : Nat) : Int))] = tab (d + 1 + 1) (it (e.X (qn M : Nat) st inp i)) := by
        rw [← hX1]; exact tab_succ.symm
      simp -implicitDefEqProofs only [go_sem, Nat.reduceLT, Nat.reduceBEq, Nat.reduceAdd, Nat.reduceEqDiff, Nat.reduceLeDiff, Nat.reduceSub, Nat.reduceMul, e1, e8, e13, e14, hl, hqne, t1, w4, hwd, upd_no, f1, f2, hs1]
      repeat with_reducible refine And.intro (by omega) ?_
      refine l_n ⟨d + 1, by omega, n' + 1, by omega, by omega, ?_, ?_, by simp -implicitDefEqProofs only [go_sem, Nat.reduceLT, Nat.reduceBEq, Nat.reduceAdd, Nat.reduceEqDiff, Nat.reduceLeDiff, Nat.reduceSub, Nat.reduceMul], fun b hb => ?_, by simp -implicitDefEqProofs only [go_sem, Nat.reduceLT, Nat.reduceBEq, Nat.reduceAdd, Nat.reduceEqDiff, Nat.reduceLeDiff, Nat.reduceSub, Nat.reduceMul], by simp -implicitDefEqProofs only [go_sem, Nat.reduceLT, Nat.reduceBEq, Nat.reduceAdd, Nat.reduceEqDiff, Nat.reduceLeDiff, Nat.reduceSub, Nat.reduceMul, e2], by simp -implicitDefEqProofs only [go_sem, Nat.reduceLT, Nat.reduceBEq, Nat.reduceAdd, Nat.reduceEqDiff, Nat.reduceLeDiff, Nat.reduceSub, Nat.reduceMul, e3], by simp -implicitDefEqProofs only [go_sem, Nat.reduceLT, Nat.reduceBEq, Nat.reduceAdd, Nat.reduceEqDiff, Nat.reduceLeDiff, Nat.reduceSub, Nat.reduceMul, e8], by simp -implicitDefEqProofs only [go_sem, Nat.reduceLT, Nat.reduceBEq, Nat.reduceAdd, Nat.reduceEqDiff, Nat.reduceLeDiff, Nat.reduceSub, Nat.reduceMul, e9], by simp -implicitDefEqProofs only [go_sem, Nat.reduceLT, Nat.reduceBEq, Nat.reduceAdd, Nat.reduceEqDiff, Nat.reduceLeDiff, Nat.reduceSub, Nat.reduceMul, e10], by simp -implicitDefEqProofs only [go_sem, Nat.reduceLT, Nat.reduceBEq, Nat.reduceAdd, Nat.reduceEqDiff, Nat.reduceLeDiff, Nat.reduceSub, Nat.reduceMul, e11], by simp -implicitDefEqProofs only [go_sem, Nat.reduceLT, Nat.reduceBEq, Nat.reduceAdd, Nat.reduceEqDiff, Nat.reduceLeDiff, Nat.reduceSub, Nat.reduceMul, e12], by simp -implicitDefEqProofs only [go_sem, Nat.reduceLT, Nat.reduceBEq, Nat.reduceAdd, Nat.reduceEqDiff, Nat.reduceLeDiff, Nat.reduceSub, Nat.reduceMul], by simp -implicitDefEqProofs only [go_sem, Nat.reduceLT, Nat.reduceBEq, Nat.reduceAdd, Nat.reduceEqDiff, Nat.reduceLeDiff, Nat.reduceSub, Nat.reduceMul]; rfl, by omega⟩
      · rw [upd_ne _ _ (by omega), upd_ne _ _ (by omega), upd_ne _ _ (by omega)]; exact h0
      · rw [upd_ne _ _ (by omega), upd_ne _ _ (by omega), upd_ne _ _ (by omega)]; exact hrow
      · rw [upd_ne _ _ (by omega), upd_ne _ _ (by omega), upd_ne _ _ (by omega)]; exact ho b hb
    have hdD : d = e.deg i := by omega
    subst hdD
    simp -implicitDefEqProofs only [go_sem, Nat.reduceLT, Nat.reduceBEq, Nat.reduceAdd, Nat.reduceEqDiff, Nat.reduceLeDiff, Nat.reduceSub, Nat.reduceMul]
    refine loop_rule (fun (d : Nat) E H1 n1 => H1 = H' ∧ n1 = n' ∧ E 1 = .int .i64 (st / ((qn M : Nat) : Int) ^ (e.ds i + e.deg i)) ∧ E 2 = isl e.r inp ∧ E 3 = .ptr n 0 ∧ E 8 = .int .i64 (qn M : Nat) ∧ E 9 = .int .i64 (e.nx (qn M : Nat) st inp i d) ∧ E 10 = .int .i64 (((qn M : Nat) : Int) ^ (e.ds i + d)) ∧ E 11 = .own (n + 1) 0 (e.w 0) ∧ E 12 = .int .i64 (i : Nat) ∧ E 13 = .own bl 0 (e.deg i + 1) ∧ E 15 = .int .i64 (d : Nat) ∧ d ≤ e.deg i) (fun d => e.deg i - d) 0 ?_ ?_
    · exact ⟨rfl, rfl, by simp -implicitDefEqProofs only [go_sem, Nat.reduceLT, Nat.reduceBEq, Nat.reduceAdd, Nat.reduceEqDiff, Nat.reduceLeDiff, Nat.reduceSub, Nat.reduceMul, e1], by simp -implicitDefEqProofs only [go_sem, Nat.reduceLT, Nat.reduceBEq, Nat.reduceAdd, Nat.reduceEqDiff, Nat.reduceLeDiff, Nat.reduceSub, Nat.reduceMul, e2], by simp -implicitDefEqProofs only [go_sem, Nat.reduceLT, Nat.reduceBEq, Nat.reduceAdd, Nat.reduceEqDiff, Nat.reduceLeDiff, Nat.reduceSub, Nat.reduceMul, e3], by simp -implicitDefEqProofs only [go_sem, Nat.reduceLT, Nat.reduceBEq, Nat.reduceAdd, Nat.reduceEqDiff, Nat.reduceLeDiff, Nat.reduceSub, Nat.reduceMul, e8], by simp -implicitDefEqProofs only [go_sem, Nat.reduceLT, Nat.reduceBEq, Nat.reduceAdd, Nat.reduceEqDiff, Nat.reduceLeDiff, Nat.reduceSub, Nat.reduceMul, e9], by simp -implicitDefEqProofs only [go_sem, Nat.reduceLT, Nat.reduceBEq, Nat.reduceAdd, Nat.reduceEqDiff, Nat.reduceLeDiff, Nat.reduceSub, Nat.reduceMul, e10], by simp -implicitDefEqProofs only [go_sem, Nat.reduceLT, Nat.reduceBEq, Nat.reduceAdd, Nat.reduceEqDiff, Nat.reduceLeDiff, Nat.reduceSub, Nat.reduceMul, e11], by simp -implicitDefEqProofs only [go_sem, Nat.reduceLT, Nat.reduceBEq, Nat.reduceAdd, Nat.reduceEqDiff, Nat.reduceLeDiff, Nat.reduceSub, Nat.reduceMul, e12], by simp -implicitDefEqProofs only [go_sem, Nat.reduceLT, Nat.reduceBEq, Nat.reduceAdd, Nat.reduceEqDiff, Nat.reduceLeDiff, Nat.reduceSub, Nat.reduceMul, e13], by simp -implicitDefEqProofs only [go_sem, Nat.reduceLT, Nat.reduceBEq, Nat.reduceAdd, Nat.reduceEqDiff, Nat.reduceLeDiff, Nat.reduceSub, Nat.reduceMul]; rfl, by omega⟩
    clear e1 e2 e3 e8 e9 e10 e11 e12 e13 e14 hcd E
    rintro d E H1 n1 ⟨rfl, rfl, e1, e2, e3, e8, e9, e10, e11, e12, e13, e15, hdd⟩
    simp -implicitDefEqProofs only [go_sem, Nat.reduceLT, Nat.reduceBEq, Nat.reduceAdd, Nat.reduceEqDiff, Nat.reduceLeDiff, Nat.reduceSub, Nat.reduceMul, e3, e12, e15, h0]
    refine call_of (sp_ref20_Degree e hB i hiN) ?_
    simp -implicitDefEqProofs only [go_sem, Nat.reduceLT, Nat.reduceBEq, Nat.reduceAdd, Nat.reduceEqDiff, Nat.reduceLeDiff, Nat.reduceSub, Nat.reduceMul]
    refine c_split (fun hcd => ?_) (fun hcd => ?_)
    · have hdN : d < e.deg i + 1 := by omega
      have hdI : ((d : Nat) : Int) < ((e.deg i + 1 : Nat) : Int) := by omega
      have hnx := e.nx_step (qn M : Nat) st inp i d
      have hX := e.X_in (st := st) hq2I hin hiN d
      have hb0 := e.nx_lt (st := st) hq2I hin i (by omega) d (.inr hiN)
      have hb1 := e.nx_lt (st := st) hq2I hin i (by omega) (d + 1) (.inr hiN)
      have hp1 := hpw (e.ds i + d) (by omega)
      have hp2 := hpw (e.ds i + (d + 1)) (by omega)
      have hpp : 0 < ((qn M : Nat) : Int) ^ (e.ds i + d) := Int.pow_pos (by omega)
      have hpp2 : 0 < ((qn M : Nat) : Int) ^ (e.ds i + (d + 1)) := Int.pow_pos (by omega)
      have hm0 : 0 ≤ e.X (qn M : Nat) st inp i d * ((qn M : Nat) : Int) ^ (e.ds i + d) := Int.mul_nonneg hX.1 (by omega)
      have hm1 : e.X (qn M : Nat) st inp i d * ((qn M : Nat) : Int) ^ (e.ds i + d) ≤ 256 * 65536 := Int.mul_le_mul (by omega) (by omega) (by omega) (by omega)
      have w1 := wrap64 (x := e.X (qn M : Nat) st inp i d * ((qn M : Nat) : Int) ^ (e.ds i + d)) (by omega)
      have w2 : IntKind.i64.wrap (e.nx (qn M : Nat) st inp i d + e.X (qn M : Nat) st inp i d * ((qn M : Nat) : Int) ^ (e.ds i + d)) = e.nx (qn M : Nat) st inp i (d + 1) := by rw [hnx]; exact wrap64 (by omega)
      have w3 : IntKind.i64.wrap (((qn M : Nat) : Int) ^ (e.ds i + d) * ((qn M : Nat) : Int)) = ((qn M : Nat) : Int) ^ (e.ds i + (d + 1)) := by
        have : ((qn M : Nat) : Int) ^ (e.ds i + (d + 1)) = ((qn M : Nat) : Int) ^ (e.ds i + d) * ((qn M : Nat) : Int) := Int.pow_succ _ _
        rw [← this]; exact wrap64 (by omega)
      have hwd := wrap64 (x := (d : Int) + 1) (by omega)
      simp -implicitDefEqProofs only [go_sem, Nat.reduceLT, Nat.reduceBEq, Nat.reduceAdd, Nat.reduceEqDiff, Nat.reduceLeDiff, Nat.reduceSub, Nat.reduceMul, e8, e9, e10, e13, e15, hl, hdN, hdI, gat_tab, w1, w2, w3, hwd]
      exact l_n ⟨d + 1, by omega, rfl, rfl, by simp -implicitDefEqProofs only [go_sem, Nat.reduceLT, Nat.reduceBEq, Nat.reduceAdd, Nat.reduceEqDiff, Nat.reduceLeDiff, Nat.reduceSub, Nat.reduceMul, e1], by simp -implicitDefEqProofs only [go_sem, Nat.reduceLT, Nat.reduceBEq, Nat.reduceAdd, Nat.reduceEqDiff, Nat.reduceLeDiff, Nat.reduceSub, Nat.reduceMul, e2], by simp -implicitDefEqProofs only [go_sem, Nat.reduceLT, Nat.reduceBEq, Nat.reduceAdd, Nat.reduceEqDiff, Nat.reduceLeDiff, Nat.reduceSub, Nat.reduceMul, e3], by simp -implicitDefEqProofs only [go_sem, Nat.reduceLT, Nat.reduceBEq, Nat.reduceAdd, Nat.reduceEqDiff, Nat.reduceLeDiff, Nat.reduceSub, Nat.reduceMul, e8], by simp -implicitDefEqProofs only [go_sem, Nat.reduceLT, Nat.reduceBEq, Nat.reduceAdd, Nat.reduceEqDiff, Nat.reduceLeDiff, Nat.reduceSub, Nat.reduceMul], by simp -implicitDefEqProofs only [go_sem, Nat.reduceLT, Nat.reduceBEq, Nat.reduceAdd, Nat.reduceEqDiff, Nat.reduceLeDiff, Nat.reduceSub, Nat.reduceMul], by simp -implicitDefEqProofs only [go_sem, Nat.reduceLT, Nat.reduceBEq, Nat.reduceAdd, Nat.reduceEqDiff, Nat.reduceLeDiff, Nat.reduceSub, Nat.reduceMul, e11], by simp -implicitDefEqProofs only [go_sem, Nat.reduceLT, Nat.reduceBEq, Nat.reduceAdd, Nat.reduceEqDiff, Nat.reduceLeDiff, Nat.reduceSub, Nat.reduceMul, e12], by simp -implicitDefEqProofs only [go_sem, Nat.reduceLT, Nat.reduceBEq, Nat.reduceAdd, Nat.reduceEqDiff, Nat.reduceLeDiff, Nat.reduceSub, Nat.reduceMul, e13], by simp -implicitDefEqProofs only [go_sem, Nat.reduceLT, Nat.reduceBEq, Nat.reduceAdd, Nat.reduceEqDiff, Nat.reduceLeDiff, Nat.reduceSub, Nat.reduceMul]; rfl, by omega⟩
    have hdD : d = e.deg i := by omega
    subst hdD
    simp -implicitDefEqProofs only [go_sem, Nat.reduceLT, Nat.reduceBEq, Nat.reduceAdd, Nat.reduceEqDiff, Nat.reduceLeDiff, Nat.reduceSub, Nat.reduceMul]
    refine loop_rule (fun (j : Nat) E H2 n2 => n2 = n1 ∧ H2 n = some e.cs ∧ H2 (n + 1) = some (tab (e.w 0) (it (mix (fun j => (cn (e.so M st inp (i + 1) 0 j) : Nat)) (fun j => (cn (e.so M st inp i 0 j) : Nat)) j))) ∧ H2 bl = some (tab (e.deg i + 1) (it (e.X (qn M : Nat) st inp i))) ∧ (∀ b, b < n → H2 b = H b) ∧ E 1 = .int .i64 (st / ((qn M : Nat) : Int) ^ (e.ds i + e.deg i)) ∧ E 2 = isl e.r inp ∧ E 3 = .ptr n 0 ∧ E 8 = .int .i64 (qn M : Nat) ∧ E 9 = .int .i64 (e.nx (qn M : Nat) st inp i (e.deg i)) ∧ E 10 = .int .i64 (((qn M : Nat) : Int) ^ (e.ds i + e.deg i)) ∧ E 11 = .own (n + 1) 0 (e.w 0) ∧ E 12 = .int .i64 (i : Nat) ∧ E 13 = .own bl 0 (e.deg i + 1) ∧ E 16 = .int .i64 (j : Nat) ∧ j ≤ e.w 0) (fun j => e.w 0 - j) 0 ?_ ?_
    · exact ⟨rfl, h0, by rw [mix_zero]; exact hrow, hl, ho, by simp -implicitDefEqProofs only [go_sem, Nat.reduceLT, Nat.reduceBEq, Nat.reduceAdd, Nat.reduceEqDiff, Nat.reduceLeDiff, Nat.reduceSub, Nat.reduceMul, e1], by simp -implicitDefEqProofs only [go_sem, Nat.reduceLT, Nat.reduceBEq, Nat.reduceAdd, Nat.reduceEqDiff, Nat.reduceLeDiff, Nat.reduceSub, Nat.reduceMul, e2], by simp -implicitDefEqProofs only [go_sem, Nat.reduceLT, Nat.reduceBEq, Nat.reduceAdd, Nat.reduceEqDiff, Nat.reduceLeDiff, Nat.reduceSub, Nat.reduceMul, e3], by simp -implicitDefEqProofs only [go_sem, Nat.reduceLT, Nat.reduceBEq, Nat.reduceAdd, Nat.reduceEqDiff, Nat.reduceLeDiff, Nat.reduceSub, Nat.reduceMul, e8], by simp -implicitDefEqProofs only [go_sem, Nat.reduceLT, Nat.reduceBEq, Nat.reduceAdd, Nat.reduceEqDiff, Nat.reduceLeDiff, Nat.reduceSub, Nat.reduceMul, e9], by simp -implicitDefEqProofs only [go_sem, Nat.reduceLT, Nat.reduceBEq, Nat.reduceAdd, Nat.reduceEqDiff, Nat.reduceLeDiff, Nat.reduceSub, Nat.reduceMul, e10], by simp -implicitDefEqProofs only [go_sem, Nat.reduceLT, Nat.reduceBEq, Nat.reduceAdd, Nat.reduceEqDiff, Nat.reduceLeDiff, Nat.reduceSub, Nat.reduceMul, e11], by simp -implicitDefEqProofs only [go_sem, Nat.reduceLT, Nat.reduceBEq, Nat.reduceAdd, Nat.reduceEqDiff, Nat.reduceLeDiff, Nat.reduceSub, Nat.reduceMul, e12], by simp -implicitDefEqProofs only [go_sem, Nat.reduceLT, Nat.reduceBEq, Nat.reduceAdd, Nat.reduceEqDiff, Nat.reduceLeDiff, Nat.reduceSub, Nat.reduceMul, e13], by simp -implicitDefEqProofs only [go_sem, Nat.reduceLT, Nat.reduceBEq, Nat.reduceAdd, Nat.reduceEqDiff, Nat.reduceLeDiff, Nat.reduceSub, Nat.reduceMul]; rfl, by omega⟩
    clear h0 hrow hl ho e1 e2 e3 e8 e9 e10 e11 e12 e13 e15 hcd E
    rintro j E H2 n2 ⟨rfl, h0, hrow, hl, ho, e1, e2, e3, e8, e9, e10, e11, e12, e13, e16, hj⟩
    simp -implicitDefEqProofs only [go_sem, Nat.reduceLT, Nat.reduceBEq, Nat.reduceAdd, Nat.reduceEqDiff, Nat.reduceLeDiff, Nat.reduceSub, Nat.reduceMul, e11, e16]
    refine c_split (fun hcj => ?_) (fun hcj => ?_)
    · have hjN : j < e.w 0 := by omega
      have hjI : ((j : Nat) : Int) < ((e.w 0 : Nat) : Int) := hcj
      have hwj := wrap64 (x := (j : Int) + 1) (by omega)
      have hnij := hB.n i j hiN (by omega)
      have f0 : n < n2 := by omega
      have f1 : n + 1 < n2 := by omega
      simp -implicitDefEqProofs only [go_sem, Nat.reduceLT, Nat.reduceBEq, Nat.reduceAdd, Nat.reduceEqDiff, Nat.reduceLeDiff, Nat.reduceSub, Nat.reduceMul, e3, e11, e12, e13, e16, h0, hrow, hiI, hiN, hjI, hjN, gat_tab, e.rw_at, e.pl_at, hwN, mix_at, f0, f1]
      refine mcall_of (.int _ _) (fun H3 n3 hk hn => sDot H3 n3 _ _ _ _ _ _ (Rd.own (by omega) (by rw [hk bl (by omega)]; exact hl)) (Rd.sl _ _) (by omega) (by omega)) ?_
      rw [e.dot_eq h.fc]
      simp -implicitDefEqProofs only [go_sem, Nat.reduceLT, Nat.reduceBEq, Nat.reduceAdd, Nat.reduceEqDiff, Nat.reduceLeDiff, Nat.reduceSub, Nat.reduceMul]
      refine mcall_of (.int _ _) (fun H3 n3 hk hn => sAdd H3 n3 _ _) ?_
      have hval : ein M ((cn (e.so M st inp i 0 j) : Nat) : Int) + ein M ((cn (sm (e.deg i + 1) (e.tm M st inp j i)) : Nat) : Int) = e.so M st inp (i + 1) 0 j := by
        rw [ein_cn h.fc, ein_cn h.fc, e.so_add]
      rw [hval, cd_cn]
      have hst := mix_step (fun j => ((cn (e.so M st inp (i + 1) 0 j) : Nat) : Int)) (fun j => ((cn (e.so M st inp i 0 j) : Nat) : Int)) j
      simp -implicitDefEqProofs only [go_sem, Nat.reduceLT, Nat.reduceBEq, Nat.reduceAdd, Nat.reduceEqDiff, Nat.reduceLeDiff, Nat.reduceSub, Nat.reduceMul, e16, hrow, hjN, hjI, hwj, hst]
      repeat with_reducible refine And.intro (by omega) ?_
      exact l_n ⟨j + 1, by omega, rfl, by rw [upd_ne _ _ (by omega)]; exact h0, by simp -implicitDefEqProofs only [go_sem, Nat.reduceLT, Nat.reduceBEq, Nat.reduceAdd, Nat.reduceEqDiff, Nat.reduceLeDiff, Nat.reduceSub, Nat.reduceMul], by rw [upd_ne _ _ (by omega)]; exact hl, fun b hb => by rw [upd_ne _ _ (by omega)]; exact ho b hb, by simp -implicitDefEqProofs only [go_sem, Nat.reduceLT, Nat.reduceBEq, Nat.reduceAdd, Nat.reduceEqDiff, Nat.reduceLeDiff, Nat.reduceSub, Nat.reduceMul, e1], by simp -implicitDefEqProofs only [go_sem, Nat.reduceLT, Nat.reduceBEq, Nat.reduceAdd, Nat.reduceEqDiff, Nat.reduceLeDiff, Nat.reduceSub, Nat.reduceMul, e2], by simp -implicitDefEqProofs only [go_sem, Nat.reduceLT, Nat.reduceBEq, Nat.reduceAdd, Nat.reduceEqDiff, Nat.reduceLeDiff, Nat.reduceSub, Nat.reduceMul, e3], by simp -implicitDefEqProofs only [go_sem, Nat.reduceLT, Nat.reduceBEq, Nat.reduceAdd, Nat.reduceEqDiff, Nat.reduceLeDiff, Nat.reduceSub, Nat.reduceMul, e8], by simp -implicitDefEqProofs only [go_sem, Nat.reduceLT, Nat.reduceBEq, Nat.reduceAdd, Nat.reduceEqDiff, Nat.reduceLeDiff, Nat.reduceSub, Nat.reduceMul, e9], by simp -implicitDefEqProofs only [go_sem, Nat.reduceLT, Nat.reduceBEq, Nat.reduceAdd, Nat.reduceEqDiff, Nat.reduceLeDiff, Nat.reduceSub, Nat.reduceMul, e10], by simp -implicitDefEqProofs only [go_sem, Nat.reduceLT, Nat.reduceBEq, Nat.reduceAdd, Nat.reduceEqDiff, Nat.reduceLeDiff, Nat.reduceSub, Nat.reduceMul, e11], by simp -implicitDefEqProofs only [go_sem, Nat.reduceLT, Nat.reduceBEq, Nat.reduceAdd, Nat.reduceEqDiff, Nat.reduceLeDiff, Nat.reduceSub, Nat.reduceMul, e12], by simp -implicitDefEqProofs only [go_sem, Nat.reduceLT, Nat.reduceBEq, Nat.reduceAdd, Nat.reduceEqDiff, Nat.reduceLeDiff, Nat.reduceSub, Nat.reduceMul, e13], by simp -implicitDefEqProofs only [go_sem, Nat.reduceLT, Nat.reduceBEq, Nat.reduceAdd, Nat.reduceEqDiff, Nat.reduceLeDiff, Nat.reduceSub, Nat.reduceMul]; rfl, by omega⟩
    · have hjw : j = e.w 0 := by omega
      subst hjw
      have hrow : H2 (n + 1) = some (tab (e.w 0) (it fun j => (cn (e.so M st inp (i + 1) 0 j) : Nat))) := by
        rw [hrow]
        exact congrArg some (tab_congr fun j hj => congrArg (GV.int .i64) (mix_lt _ _ hj))
      rw [← e.nx_row] at e9
      simp -implicitDefEqProofs only [go_sem, Nat.reduceLT, Nat.reduceBEq, Nat.reduceAdd, Nat.reduceEqDiff, Nat.reduceLeDiff, Nat.reduceSub, Nat.reduceMul, e12, hwi]
      exact l_n ⟨i + 1, by omega, by omega, h0, hrow, ho, by simp -implicitDefEqProofs only [go_sem, Nat.reduceLT, Nat.reduceBEq, Nat.reduceAdd, Nat.reduceEqDiff, Nat.reduceLeDiff, Nat.reduceSub, Nat.reduceMul, e1, hdsS], by simp -implicitDefEqProofs only [go_sem, Nat.reduceLT, Nat.reduceBEq, Nat.reduceAdd, Nat.reduceEqDiff, Nat.reduceLeDiff, Nat.reduceSub, Nat.reduceMul, e2], by simp -implicitDefEqProofs only [go_sem, Nat.reduceLT, Nat.reduceBEq, Nat.reduceAdd, Nat.reduceEqDiff, Nat.reduceLeDiff, Nat.reduceSub, Nat.reduceMul, e3], by simp -implicitDefEqProofs only [go_sem, Nat.reduceLT, Nat.reduceBEq, Nat.reduceAdd, Nat.reduceEqDiff, Nat.reduceLeDiff, Nat.reduceSub, Nat.reduceMul, e8], by simp -implicitDefEqProofs only [go_sem, Nat.reduceLT, Nat.reduceBEq, Nat.reduceAdd, Nat.reduceEqDiff, Nat.reduceLeDiff, Nat.reduceSub, Nat.reduceMul, e9], by simp -implicitDefEqProofs only [go_sem, Nat.reduceLT, Nat.reduceBEq, Nat.reduceAdd, Nat.reduceEqDiff, Nat.reduceLeDiff, Nat.reduceSub, Nat.reduceMul, e10, hdsS], by simp -implicitDefEqProofs only [go_sem, Nat.reduceLT, Nat.reduceBEq, Nat.reduceAdd, Nat.reduceEqDiff, Nat.reduceLeDiff, Nat.reduceSub, Nat.reduceMul, e11], by simp -implicitDefEqProofs only [go_sem, Nat.reduceLT, Nat.reduceBEq, Nat.reduceAdd, Nat.reduceEqDiff, Nat.reduceLeDiff, Nat.reduceSub, Nat.reduceMul]; rfl, by omega⟩
  · have : i = e.r := by omega
    subst this
    simp -implicitDefEqProofs only [go_sem, Nat.reduceLT, Nat.reduceBEq, Nat.reduceAdd, Nat.reduceEqDiff, Nat.reduceLeDiff, Nat.reduceSub, Nat.reduceMul, e9, e11]
    refine fin_ret2 rfl (by decide) (by decide) ?_ ?_ ho
    · simp -implicitDefEqProofs only [go_sem, Nat.reduceLT, Nat.reduceBEq, Nat.reduceAdd, Nat.reduceEqDiff, Nat.reduceLeDiff, Nat.reduceSub, Nat.reduceMul]; exact fz_int rfl
    · simp -implicitDefEqProofs only [go_sem, Nat.reduceLT, Nat.reduceBEq, Nat.reduceAdd, Nat.reduceEqDiff, Nat.reduceLeDiff, Nat.reduceSub, Nat.reduceMul]; exact fz_own_isl hrow (by omega)
end
end Go.Proofs.Ytdpibcniodhinaa.Gh
/- The statement ConvNext, over ghost values. -/
namespace Go.Proofs.Ytdpibcniodhinaa.Gh
open Go Go.RowKit
open Alg (CR Ps Dg Zm Mn El Cg sm pw Irr Prm)
set_option linter.unusedVariables false
set_option linter.unusedSimpArgs false

/-- the error of the inputs of a step -/
noncomputable def inE (r l : Nat) (f : Nat → Int) (q : Int) : Int := open Classical in if l = r then (if ∀ i, i < l → 0 ≤ f i ∧ f i < q then 0 else 2) else 4
theorem inE_ok {r l : Nat} {f : Nat → Int} {q : Int} (h : inE r l f q = 0) : l = r ∧ ∀ i, i < l → 0 ≤ f i ∧ f i < q := by
  unfold inE at h
  by_cases h1 : l = r
  · rw [if_pos h1] at h
    by_cases h2 : ∀ i, i < l → 0 ≤ f i ∧ f i < q
    · exact ⟨h1, h2⟩
    · rw [if_neg h2] at h; omega
  · rw [if_neg h1] at h; omega
theorem sp_ref20_List {H : Heap} {n : Nat} (e : Enc) (hB : e.Bnd) (l : Nat) (f : Nat → Int) : Spec prog fid_ref20_List [e.gv, isl l f] H n (.int .i64 (inE e.r l f (qo e.p e.m))) H n := by
  refine spec_ends hmix ok_ref20_List rfl fun hF => ?_
  show gw prog B_ref20_List _ (tl 15 _) H n
  have hu : ∀ x b, b < n → upd H n x b = H b := fun x b hb => upd_ne _ _ (by omega)
  have hr := hB.r
  simp -implicitDefEqProofs only [B_ref20_List, go_sem, Nat.reduceLT, Nat.reduceBEq, Nat.reduceAdd, Nat.reduceEqDiff, Nat.reduceLeDiff, Nat.reduceSub, Nat.reduceMul]
  by_cases hl : l = e.r
  · subst hl
    simp -implicitDefEqProofs only [go_sem, Nat.reduceLT, Nat.reduceBEq, Nat.reduceAdd, Nat.reduceEqDiff, Nat.reduceLeDiff, Nat.reduceSub, Nat.reduceMul]
    refine call_of (sp_Entries e.p e.m (isl e.l e.mo) rfl e.r f (by omega)) ?_
    simp -implicitDefEqProofs only [go_sem, Nat.reduceLT, Nat.reduceBEq, Nat.reduceAdd, Nat.reduceEqDiff, Nat.reduceLeDiff, Nat.reduceSub, Nat.reduceMul]
    refine fin_ret rfl (by decide) ?_ (hu _)
    simp -implicitDefEqProofs only [go_sem, Nat.reduceLT, Nat.reduceBEq, Nat.reduceAdd, Nat.reduceEqDiff, Nat.reduceLeDiff, Nat.reduceSub, Nat.reduceMul]
    refine fz_int ?_
    rw [inE, if_pos rfl]
  · have hlI : ¬ ((l : Int) = (e.r : Int)) := by omega
    simp -implicitDefEqProofs only [go_sem, Nat.reduceLT, Nat.reduceBEq, Nat.reduceAdd, Nat.reduceEqDiff, Nat.reduceLeDiff, Nat.reduceSub, Nat.reduceMul, hlI]
    refine fin_ret rfl (by decide) ?_ (hu _)
    simp -implicitDefEqProofs only [go_sem, Nat.reduceLT, Nat.reduceBEq, Nat.reduceAdd, Nat.reduceEqDiff, Nat.reduceLeDiff, Nat.reduceSub, Nat.reduceMul]
    exact fz_int (by rw [inE, if_neg hl])
theorem sp_ref20_States {H : Heap} {n : Nat} (e : Enc) (hB : e.Bnd) {k : Nat} {M : Mn k} (h : Fi M) (hd : e.Des M) (hce : e.ce = 0) : Spec prog fid_ref20_States [e.gv] H n (.int .i64 (qn M ^ e.ds e.r : Nat)) H n := by
  refine spec_ends hmix ok_ref20_States rfl fun hF => ?_
  show gw prog B_ref20_States _ (tl 26 _) H n
  have hr := hB.r
  have hq2 := qn_two M
  have hq := h.fc.qn
  have hqo := hd.qo h
  have hpw := Enc.pow_le h hd hce
  simp -implicitDefEqProofs only [B_ref20_States, go_sem, Nat.reduceLT, Nat.reduceBEq, Nat.reduceAdd, Nat.reduceEqDiff, Nat.reduceLeDiff, Nat.reduceSub, Nat.reduceMul]
  refine loop_rule (fun (i : Nat) E H' n' => n' = n + 1 ∧ H' n = some e.cs ∧ (∀ b, b < n → H' b = H b) ∧ E 1 = .ptr n 0 ∧ E 3 = .int .i64 (qn M ^ e.ds i : Nat) ∧ E 4 = .int .i64 (i : Nat) ∧ i ≤ e.r) (fun i => e.r - i) 0 ⟨rfl, by simp -implicitDefEqProofs only [go_sem, Nat.reduceLT, Nat.reduceBEq, Nat.reduceAdd, Nat.reduceEqDiff, Nat.reduceLeDiff, Nat.reduceSub, Nat.reduceMul], fun b hb => upd_ne _ _ (by omega), rfl, rfl, rfl, by omega⟩ ?_
  rintro i E H' n' ⟨rfl, h0, ho, e1, e3, e4, hi⟩
  simp -implicitDefEqProofs only [go_sem, Nat.reduceLT, Nat.reduceBEq, Nat.reduceAdd, Nat.reduceEqDiff, Nat.reduceLeDiff, Nat.reduceSub, Nat.reduceMul, e1, e4, h0]
  refine c_split (fun hc => ?_) (fun hc => ?_)
  · have hiN : i < e.r := by omega
    have hdsm : e.ds (i + 1) ≤ e.ds e.r := sumn_mono (by omega)
    have hdsS : e.ds (i + 1) = e.ds i + e.deg i := rfl
    have hdeg := e.deg_le hB hiN
    simp -implicitDefEqProofs only [go_sem, Nat.reduceLT, Nat.reduceBEq, Nat.reduceAdd, Nat.reduceEqDiff, Nat.reduceLeDiff, Nat.reduceSub, Nat.reduceMul]
    refine loop_rule (fun (d : Nat) E H' n' => n' = n + 1 ∧ H' n = some e.cs ∧ (∀ b, b < n → H' b = H b) ∧ E 1 = .ptr n 0 ∧ E 3 = .int .i64 (qn M ^ (e.ds i + d) : Nat) ∧ E 4 = .int .i64 (i : Nat) ∧ E 5 = .int .i64 (d : Nat) ∧ d ≤ e.deg i) (fun d => e.deg i - d) 0 ⟨rfl, h0, ho, by simp -implicitDefEqProofs only [go_sem, Nat.reduceLT, Nat.reduceBEq, Nat.reduceAdd, Nat.reduceEqDiff, Nat.reduceLeDiff, Nat.reduceSub, Nat.reduceMul, e1], by simp -implicitDefEqProofs only [go_sem, Nat.reduceLT, Nat.reduceBEq, Nat.reduceAdd, Nat.reduceEqDiff, Nat.reduceLeDiff, Nat.reduceSub, Nat.reduceMul, e3], by simp -implicitDefEqProofs only [go_sem, Nat.reduceLT, Nat.reduceBEq, Nat.reduceAdd, Nat.reduceEqDiff, Nat.reduceLeDiff, Nat.reduceSub, Nat.reduceMul, e4], rfl, by omega⟩ ?_
    clear h0 ho e1 e3 e4 E H'
    rintro d E H' n' ⟨rfl, h0, ho, e1, e3, e4, e5, hd'⟩
    simp -implicitDefEqProofs only [go_sem, Nat.reduceLT, Nat.reduceBEq, Nat.reduceAdd, Nat.reduceEqDiff, Nat.reduceLeDiff, Nat.reduceSub, Nat.reduceMul, e1, e4, e5, h0]
    refine call_of (sp_ref20_Degree e hB i hiN) ?_
    simp -implicitDefEqProofs only [go_sem, Nat.reduceLT, Nat.reduceBEq, Nat.reduceAdd, Nat.reduceEqDiff, Nat.reduceLeDiff, Nat.reduceSub, Nat.reduceMul]
    refine c_split (fun hc' => ?_) (fun hc' => ?_)
    · simp -implicitDefEqProofs only [go_sem, Nat.reduceLT, Nat.reduceBEq, Nat.reduceAdd, Nat.reduceEqDiff, Nat.reduceLeDiff, Nat.reduceSub, Nat.reduceMul, e1, e3, h0]
      refine call_of (sp_ref04_Order e.p e.m _ rfl) ?_
      rw [hqo]
      have hps : qn M ^ (e.ds i + (d + 1)) = qn M ^ (e.ds i + d) * qn M := Nat.pow_succ ..
      have hle := hpw (e.ds i + (d + 1)) (by omega)
      have hmul : ((qn M ^ (e.ds i + d) : Nat) : Int) * ((qn M : Nat) : Int) = ((qn M ^ (e.ds i + (d + 1)) : Nat) : Int) := by rw [hps]; push_cast; rfl
      have hwm := wrap64 (x := ((qn M ^ (e.ds i + (d + 1)) : Nat) : Int)) (by omega)
      have hwd := wrap64 (x := (d : Int) + 1) (by omega)
      simp -implicitDefEqProofs only [go_sem, Nat.reduceLT, Nat.reduceBEq, Nat.reduceAdd, Nat.reduceEqDiff, Nat.reduceLeDiff, Nat.reduceSub, Nat.reduceMul, e5, hmul, hwm, hwd]
      exact l_n ⟨d + 1, by omega, rfl, h0, ho, by simp -implicitDefEqProofs only [go_sem, Nat.reduceLT, Nat.reduceBEq, Nat.reduceAdd, Nat.reduceEqDiff, Nat.reduceLeDiff, Nat.reduceSub, Nat.reduceMul, e1], by simp -implicitDefEqProofs only [go_sem, Nat.reduceLT, Nat.reduceBEq, Nat.reduceAdd, Nat.reduceEqDiff, Nat.reduceLeDiff, Nat.reduceSub, Nat.reduceMul], by simp -implicitDefEqProofs only [go_sem, Nat.reduceLT, Nat.reduceBEq, Nat.reduceAdd, Nat.reduceEqDiff, Nat.reduceLeDiff, Nat.reduceSub, Nat.reduceMul, e4], by simp -implicitDefEqProofs only [go_sem, Nat.reduceLT, Nat.reduceBEq, Nat.reduceAdd, Nat.reduceEqDiff, Nat.reduceLeDiff, Nat.reduceSub, Nat.reduceMul]; rfl, by omega⟩
    · have : d = e.deg i := by omega
      subst this
      have hwi := wrap64 (x := (i : Int) + 1) (by omega)
      simp -implicitDefEqProofs only [go_sem, Nat.reduceLT, Nat.reduceBEq, Nat.reduceAdd, Nat.reduceEqDiff, Nat.reduceLeDiff, Nat.reduceSub, Nat.reduceMul, e4, hwi]
      exact l_n ⟨i + 1, by omega, rfl, h0, ho, by simp -implicitDefEqProofs only [go_sem, Nat.reduceLT, Nat.reduceBEq, Nat.reduceAdd, Nat.reduceEqDiff, Nat.reduceLeDiff, Nat.reduceSub, Nat.reduceMul, e1], by simp -implicitDefEqProofs only [go_sem, Nat.reduceLT, Nat.reduceBEq, Nat.reduceAdd, Nat.reduceEqDiff, Nat.reduceLeDiff, Nat.reduceSub, Nat.reduceMul, e3, hdsS], by simp -implicitDefEqProofs only [go_sem, Nat.reduceLT, Nat.reduceBEq, Nat.reduceAdd, Nat.reduceEqDiff, Nat.reduceLeDiff, Nat.reduceSub, Nat.reduceMul]; rfl, by omega⟩
  · have : i = e.r := by omega
    subst this
    simp -implicitDefEqProofs only [go_sem, Nat.reduceLT, Nat.reduceBEq, Nat.reduceAdd, Nat.reduceEqDiff, Nat.reduceLeDiff, Nat.reduceSub, Nat.reduceMul, e3]
    refine fin_ret rfl (by decide) ?_ ho
    simp -implicitDefEqProofs only [go_sem, Nat.reduceLT, Nat.reduceBEq, Nat.reduceAdd, Nat.reduceEqDiff, Nat.reduceLeDiff, Nat.reduceSub, Nat.reduceMul]; exact fz_int rfl
section
variable {k : Nat} {M : Mn k}
/-- the error of a step -/
noncomputable def Enc.nxE (e : Enc) (S st : Int) (l : Nat) (f : Nat → Int) : Int := if e.ce = 0 then (if 0 ≤ st ∧ st < S then inE e.r l f (qo e.p e.m) else 6) else e.ce
end
end Go.Proofs.Ytdpibcniodhinaa.Gh
