/- The digests of the functions that the laws of audit reach. -/
import Derived.Test.YtaeanhonfoakeaaK1
import Derived.Test.YtaeanhonfoakeaaProg
import Derived.KernelRfl
section
namespace Go.Proofs.Ytaeanhonfoakeaa
open Go Heron
def a3 : AFunc := { n := 97, nparams := 3, res := [.tmp 6], body := (.seq (.rg [⟨some 6, none, .q (.mv (.c (.raw (.bool false))))⟩] [0, 1, 2])
  (.seq (.rg [⟨some 15, none, .call 7 []⟩,
    ⟨some 7, none, .q (.mv (.t 15))⟩] [0, 1, 2, 7])
  (.seq (.rg [⟨some 16, none, .q (.mv (.t 0))⟩,
    ⟨some 17, none, .q (.bin .and .prim (.t 16) (.c (.raw (.int .i64 3))))⟩,
    ⟨some 8, none, .q (.mv (.t 17))⟩] [1, 2, 7, 8])
  (.seq (.rg [⟨some 18, none, .mks 1 1 (.raw (.int .u8 0)) (.c (.raw (.int .i64 32))) (.c (.raw (.int .i64 32)))⟩,
    ⟨some 9, none, .q (.mv (.t 18))⟩] [1, 2, 7, 8, 9])
  (.seq (.rg [⟨some 19, none, .q (.mv (.t 9))⟩,
    ⟨some 20, none, .q (.mv (.t 1))⟩,
    ⟨some 21, none, .q (.ia 1 (.t 19) (.c (.raw (.int .i64 0))))⟩,
    ⟨none, none, .store 1 (.t 21) (.t 20)⟩] [1, 2, 7, 8, 9])
  (.seq (.rg [⟨some 22, none, .mks 1 1 (.raw (.int .u8 0)) (.c (.raw (.int .i64 32))) (.c (.raw (.int .i64 32)))⟩,
    ⟨some 10, none, .q (.mv (.t 22))⟩] [1, 2, 7, 8, 9, 10])
  (.seq (.rg [⟨some 23, none, .q (.mv (.t 10))⟩,
    ⟨some 24, none, .q (.mv (.t 1))⟩,
    ⟨some 25, none, .q (.bin .add .prim (.t 24) (.c (.raw (.int .u8 1))))⟩,
    ⟨some 26, none, .q (.ia 1 (.t 23) (.c (.raw (.int .i64 0))))⟩,
    ⟨none, none, .store 1 (.t 26) (.t 25)⟩] [1, 2, 7, 8, 9, 10])
  (.seq (.rg [⟨some 27, none, .q (.build [(.raw (.int .i64 0)), (.raw (.int .i64 0)), (.raw (.int .i64 0)), (.raw (.int .i64 0)), (.raw (.int .i64 0)), (.raw (.slice none 0 0)), (.raw (.slice none 0 0))] [(0, 1, (.c (.raw (.int .i64 1)))), (3, 1, (.c (.raw (.int .i64 (-1)))))])⟩,
    ⟨some 28, none, .q (.mv (.t 8))⟩,
    ⟨some 29, none, .q (.mv (.t 1))⟩,
    ⟨some 30, none, .bsl 1 1 (.raw (.int .u8 0)) [(0, (.t 29))]⟩,
    ⟨some 31, none, .q (.build [(.raw (.int .i64 0)), (.raw (.int .i64 0)), (.raw (.int .i64 0)), (.raw (.int .i64 0)), (.raw (.int .i64 0)), (.raw (.slice none 0 0)), (.raw (.slice none 0 0))] [(0, 1, (.c (.raw (.int .i64 5)))), (3, 1, (.t 28)), (5, 1, (.t 30))])⟩,
    ⟨some 32, none, .q (.mv (.t 8))⟩,
    ⟨some 33, none, .q (.mv (.t 9))⟩,
    ⟨some 34, none, .q (.build [(.raw (.int .i64 0)), (.raw (.int .i64 0)), (.raw (.int .i64 0)), (.raw (.int .i64 0)), (.raw (.int .i64 0)), (.raw (.slice none 0 0)), (.raw (.slice none 0 0))] [(0, 1, (.c (.raw (.int .i64 4)))), (3, 1, (.t 32)), (5, 1, (.t 33))])⟩,
    ⟨some 35, none, .bsl 7 3 (.agg [(.raw (.int .i64 0)), (.raw (.int .i64 0)), (.raw (.int .i64 0)), (.raw (.int .i64 0)), (.raw (.int .i64 0)), (.raw (.slice none 0 0)), (.raw (.slice none 0 0))]) [(0, (.t 27)), (1, (.t 31)), (2, (.t 34))]⟩,
    ⟨some 11, none, .q (.mv (.t 35))⟩] [2, 7, 8, 9, 10, 11])
  (.seq (.seq (.rg [⟨some 36, none, .q (.mv (.t 2))⟩,
    ⟨some 37, none, .q (.bin .and .prim (.t 36) (.c (.raw (.int .i64 1))))⟩,
    ⟨some 38, none, .q (.bin .eql .prim (.t 37) (.c (.raw (.int .i64 1))))⟩] [2, 7, 8, 9, 10, 11, 38])
  (.cond (.t 38) (.rg [⟨some 39, none, .q (.mv (.t 11))⟩,
    ⟨some 40, none, .q (.mv (.t 8))⟩,
    ⟨some 41, none, .q (.mv (.t 10))⟩,
    ⟨some 42, none, .q (.build [(.raw (.int .i64 0)), (.raw (.int .i64 0)), (.raw (.int .i64 0)), (.raw (.int .i64 0)), (.raw (.int .i64 0)), (.raw (.slice none 0 0)), (.raw (.slice none 0 0))] [(0, 1, (.c (.raw (.int .i64 4)))), (3, 1, (.t 40)), (5, 1, (.t 41))])⟩,
    ⟨some 43, none, .bsl 7 1 (.agg [(.raw (.int .i64 0)), (.raw (.int .i64 0)), (.raw (.int .i64 0)), (.raw (.int .i64 0)), (.raw (.int .i64 0)), (.raw (.slice none 0 0)), (.raw (.slice none 0 0))]) [(0, (.t 42))]⟩,
    ⟨some 44, none, .app 7 88 (.t 39) (.t 43)⟩,
    ⟨some 11, none, .q (.mv (.t 44))⟩] [2, 7, 8, 9, 11]) .skip))
  (.seq (.rg [⟨some 45, none, .call 9 [(.c (.raw (.int .i64 4))), (.c (.raw (.int .i64 0)))]⟩,
    ⟨some 46, none, .q (.mv (.t 11))⟩,
    ⟨some 47, none, .call 8 [(.t 45), (.t 46)]⟩,
    ⟨some 12, none, .q (.mv (.t 47))⟩] [2, 7, 8, 9, 11, 12])
  (.seq (.rg [⟨some 48, none, .q (.mv (.t 11))⟩,
    ⟨some 49, none, .q (.build [(.raw (.int .i64 0)), (.raw (.int .i64 0)), (.raw (.int .i64 0)), (.raw (.int .i64 0)), (.raw (.int .i64 0)), (.raw (.slice none 0 0)), (.raw (.slice none 0 0))] [(0, 1, (.c (.raw (.int .i64 2))))])⟩,
    ⟨some 50, none, .bsl 7 1 (.agg [(.raw (.int .i64 0)), (.raw (.int .i64 0)), (.raw (.int .i64 0)), (.raw (.int .i64 0)), (.raw (.int .i64 0)), (.raw (.slice none 0 0)), (.raw (.slice none 0 0))]) [(0, (.t 49))]⟩,
    ⟨some 51, none, .app 7 88 (.t 48) (.t 50)⟩,
    ⟨some 11, none, .q (.mv (.t 51))⟩] [2, 7, 8, 9, 11, 12])
  (.seq (.rg [⟨some 53, none, .call 9 [(.c (.raw (.int .i64 4))), (.c (.raw (.int .i64 0)))]⟩,
    ⟨some 54, none, .q (.mv (.t 11))⟩,
    ⟨some 55, none, .call 11 [(.t 54)]⟩,
    ⟨some 56, none, .call 10 [(.t 53), (.t 55)]⟩,
    ⟨some 52, none, .q (.mv (.t 56))⟩,
    ⟨some 57, none, .q (.ext (.t 52) 0)⟩,
    ⟨some 58, none, .q (.ext (.t 52) 1)⟩,
    ⟨some 13, none, .alloc 2 (.agg [(.raw (.slice none 0 0)), (.raw (.slice none 0 0))])⟩,
    ⟨none, none, .store 2 (.t 13) (.t 57)⟩,
    ⟨some 14, none, .q (.mv (.t 58))⟩] [2, 7, 8, 9, 11, 12, 13, 14])
  (.seq (.rgs [[⟨some 59, none, .q (.mv (.t 7))⟩,
    ⟨some 60, none, .q (.mv (.t 59))⟩,
    ⟨some 61, some (60, true), .q (.mv (.t 12))⟩,
    ⟨some 62, none, .q (.pick (.t 60) (.t 61) (.c (.raw (.bool false))))⟩,
    ⟨some 63, none, .q (.mv (.t 62))⟩,
    ⟨some 64, some (63, true), .qcall 9 [(.c (.raw (.int .i64 4))), (.c (.raw (.int .i64 0)))]⟩,
    ⟨some 65, some (63, true), .q (.mv (.t 11))⟩,
    ⟨some 66, some (63, true), .qcall 8 [(.t 64), (.t 65)]⟩,
    ⟨some 67, some (63, true), .q (.mv (.t 2))⟩,
    ⟨some 68, some (63, true), .q (.bin .and .prim (.t 67) (.c (.raw (.int .i64 1))))⟩,
    ⟨some 69, some (63, true), .q (.bin .eql .prim (.t 68) (.c (.raw (.int .i64 0))))⟩,
    ⟨some 70, some (63, true), .q (.bin .eql .bool (.t 66) (.t 69))⟩,
    ⟨some 71, none, .q (.pick (.t 63) (.t 70) (.c (.raw (.bool false))))⟩,
    ⟨some 72, none, .q (.mv (.t 71))⟩,
    ⟨some 73, some (72, true), .q (.mv (.t 2))⟩,
    ⟨some 74, some (72, true), .q (.bin .and .prim (.t 73) (.c (.raw (.int .i64 1))))⟩,
    ⟨some 75, some (72, true), .q (.bin .eql .prim (.t 74) (.c (.raw (.int .i64 0))))⟩,
    ⟨some 76, some (72, true), .q (.mv (.t 14))⟩,
    ⟨some 77, some (72, true), .q (.bin .eql .prim (.t 76) (.c (.raw (.int .i64 (-1)))))⟩,
    ⟨some 78, some (72, true), .q (.bin .eql .bool (.t 75) (.t 77))⟩,
    ⟨some 79, none, .q (.pick (.t 72) (.t 78) (.c (.raw (.bool false))))⟩,
    ⟨some 80, none, .q (.mv (.t 79))⟩,
    ⟨some 81, some (80, true), .q (.fa 0 (.t 13))⟩,
    ⟨some 82, some (80, true), .q (.load none (.t 81))⟩,
    ⟨some 83, some (80, true), .q (.len (.t 82))⟩,
    ⟨some 84, some (80, true), .q (.bin .eql .prim (.t 83) (.c (.raw (.int .i64 4))))⟩,
    ⟨some 85, none, .q (.pick (.t 80) (.t 84) (.c (.raw (.bool false))))⟩,
    ⟨some 86, none, .q (.mv (.t 85))⟩,
    ⟨some 87, some (86, true), .q (.fa 0 (.t 13))⟩,
    ⟨some 88, some (86, true), .q (.load none (.t 87))⟩,
    ⟨some 89, some (86, true), .q (.mv (.t 8))⟩,
    ⟨some 90, some (86, true), .q (.ia 1 (.t 88) (.t 89))⟩,
    ⟨some 91, some (86, true), .q (.load none (.t 90))⟩,
    ⟨some 92, some (86, true), .q (.b2s (.t 91))⟩,
    ⟨some 93, some (86, true), .q (.mv (.t 9))⟩,
    ⟨some 94, some (86, true), .q (.b2s (.t 93))⟩,
    ⟨some 95, some (86, true), .q (.bin .eql .prim (.t 92) (.t 94))⟩,
    ⟨some 96, none, .q (.pick (.t 86) (.t 95) (.c (.raw (.bool false))))⟩,
    ⟨some 6, none, .q (.mv (.t 96))⟩]] [6])
  .ret))))))))))))) }
theorem a3_ok : genFunc Go.Proofs.Try.prog ⟨[(0, [0, 1, 2]), (1, [0, 1, 2, 7]), (2, [1, 2, 7, 8]), (3, [1, 2, 7, 8, 9]), (4, [1, 2, 7, 8, 9]), (5, [1, 2, 7, 8, 9, 10]), (6, [1, 2, 7, 8, 9, 10]), (7, [2, 7, 8, 9, 10, 11]), (8, [2, 7, 8, 9, 10, 11, 38]), (9, [2, 7, 8, 9, 11]), (10, [2, 7, 8, 9, 11, 12]), (11, [2, 7, 8, 9, 11, 12]), (12, [2, 7, 8, 9, 11, 12, 13, 14]), (13, [6])], [], false, [], [], [], false⟩ Go.Proofs.Try.f3 = some a3 := by kernel_rfl

def a4_L0 : ACode := (.seq (.seq (.rg [⟨some 35, none, .q (.mv (.t 8))⟩,
    ⟨some 36, none, .q (.fa 0 (.t 4))⟩,
    ⟨some 37, none, .q (.load none (.t 36))⟩,
    ⟨some 38, none, .q (.len (.t 37))⟩,
    ⟨some 39, none, .q (.bin .lss .prim (.t 35) (.t 38))⟩] [0, 2, 4, 7, 8, 39])
  (.cond (.t 39) .skip (.exit 0)))
  (.seq (.block 1 (.seq (.rg [⟨some 42, none, .q (.fa 0 (.t 4))⟩,
    ⟨some 43, none, .q (.load none (.t 42))⟩,
    ⟨some 44, none, .q (.mv (.t 8))⟩,
    ⟨some 45, none, .q (.ia 1 (.t 43) (.t 44))⟩,
    ⟨some 46, none, .q (.load none (.t 45))⟩,
    ⟨some 47, none, .q (.len (.t 46))⟩,
    ⟨some 48, none, .q (.bin .gtr .prim (.t 47) (.c (.raw (.int .i64 60))))⟩] [0, 2, 4, 7, 8, 48])
  (.cond (.t 48) (.seq (.rg [⟨some 49, none, .q (.mv (.t 7))⟩,
    ⟨some 6, none, .q (.mv (.t 49))⟩] [6])
  .ret) .skip)))
  (.rg [⟨some 40, none, .q (.mv (.t 8))⟩,
    ⟨some 41, none, .q (.bin .add .prim (.t 40) (.c (.raw (.int .i64 1))))⟩,
    ⟨some 8, none, .q (.mv (.t 41))⟩] [0, 2, 4, 7, 8])))
def a4 : AFunc := { n := 103, nparams := 3, res := [.tmp 6], body := (.seq (.rg [⟨some 4, none, .box 2 (.t 1)⟩,
    ⟨some 6, none, .q (.mv (.c (.raw (.bool false))))⟩] [0, 2, 4])
  (.seq (.rg [⟨some 18, none, .call 7 []⟩,
    ⟨some 7, none, .q (.mv (.t 18))⟩] [0, 2, 4, 7])
  (.seq (.seq (.rg [⟨some 19, none, .q (.mv (.t 0))⟩,
    ⟨some 20, none, .call 12 [(.t 19)]⟩,
    ⟨some 21, none, .q (.un .not (.t 20))⟩,
    ⟨some 22, none, .q (.mv (.t 21))⟩,
    ⟨some 23, some (22, false), .q (.fa 0 (.t 4))⟩,
    ⟨some 24, some (22, false), .q (.load none (.t 23))⟩,
    ⟨some 25, some (22, false), .q (.len (.t 24))⟩,
    ⟨some 26, some (22, false), .q (.bin .gtr .prim (.t 25) (.c (.raw (.int .i64 8))))⟩,
    ⟨some 27, none, .q (.pick (.t 22) (.c (.raw (.bool true))) (.t 26))⟩,
    ⟨some 28, none, .q (.mv (.t 27))⟩,
    ⟨some 29, some (28, false), .q (.fa 1 (.t 4))⟩,
    ⟨some 30, some (28, false), .q (.load none (.t 29))⟩,
    ⟨some 31, some (28, false), .q (.len (.t 30))⟩,
    ⟨some 32, some (28, false), .q (.bin .gtr .prim (.t 31) (.c (.raw (.int .i64 8))))⟩,
    ⟨some 33, none, .q (.pick (.t 28) (.c (.raw (.bool true))) (.t 32))⟩] [0, 2, 4, 7, 33])
  (.cond (.t 33) (.seq (.rg [⟨some 34, none, .q (.mv (.t 7))⟩,
    ⟨some 6, none, .q (.mv (.t 34))⟩] [6])
  .ret) .skip))
  (.seq (.seq (.rg [⟨some 8, none, .q (.mv (.c (.raw (.int .i64 0))))⟩] [0, 2, 4, 7, 8])
  (.block 0 (.loop a4_L0)))
  (.seq (.rg [⟨some 50, none, .q (.mv (.t 0))⟩,
    ⟨some 51, none, .call 13 [(.t 50)]⟩,
    ⟨some 9, none, .q (.mv (.t 51))⟩] [2, 4, 7, 9])
  (.seq (.rg [⟨some 52, none, .q (.mv (.t 2))⟩,
    ⟨some 53, none, .q (.bin .and .prim (.t 52) (.c (.raw (.int .i64 65535))))⟩,
    ⟨some 54, none, .q (.mv (.t 9))⟩,
    ⟨some 55, none, .q (.len (.t 54))⟩,
    ⟨some 56, none, .q (.bin .add .prim (.t 55) (.c (.raw (.int .i64 1))))⟩,
    ⟨some 57, none, .q (.bin .rem .prim (.t 53) (.t 56))⟩,
    ⟨some 10, none, .q (.mv (.t 57))⟩] [4, 7, 9, 10])
  (.seq (.rg [⟨some 59, none, .q (.load (some 2) (.t 4))⟩,
    ⟨some 60, none, .call 14 [(.t 59)]⟩,
    ⟨some 61, none, .q (.mv (.t 9))⟩,
    ⟨some 62, none, .call 10 [(.t 60), (.t 61)]⟩,
    ⟨some 58, none, .q (.mv (.t 62))⟩,
    ⟨some 63, none, .q (.ext (.t 58) 0)⟩,
    ⟨some 64, none, .q (.ext (.t 58) 1)⟩,
    ⟨some 11, none, .alloc 2 (.agg [(.raw (.slice none 0 0)), (.raw (.slice none 0 0))])⟩,
    ⟨none, none, .store 2 (.t 11) (.t 63)⟩,
    ⟨some 12, none, .q (.mv (.t 64))⟩] [4, 7, 9, 10, 11, 12])
  (.seq (.rgs [[⟨some 66, none, .q (.load (some 2) (.t 4))⟩,
    ⟨some 67, none, .qcall 14 [(.t 66)]⟩,
    ⟨some 68, none, .q (.mv (.t 9))⟩,
    ⟨some 69, none, .q (.mv (.t 10))⟩,
    ⟨some 70, none, .q (.sub 7 (.t 68) none (some (.t 69)) none)⟩,
    ⟨some 71, none, .qcall 10 [(.t 67), (.t 70)]⟩,
    ⟨some 65, none, .q (.mv (.t 71))⟩,
    ⟨some 72, none, .q (.ext (.t 65) 0)⟩,
    ⟨some 73, none, .q (.ext (.t 65) 1)⟩,
    ⟨some 13, none, .alloc 2 (.agg [(.raw (.slice none 0 0)), (.raw (.slice none 0 0))])⟩,
    ⟨none, none, .store 2 (.t 13) (.t 72)⟩,
    ⟨some 14, none, .q (.mv (.t 73))⟩]] [7, 9, 10, 11, 12, 13, 14])
  (.seq (.rgs [[⟨some 75, none, .q (.load (some 2) (.t 13))⟩,
    ⟨some 76, none, .q (.mv (.t 9))⟩,
    ⟨some 77, none, .q (.mv (.t 10))⟩,
    ⟨some 78, none, .q (.sub 7 (.t 76) (some (.t 77)) none none)⟩,
    ⟨some 79, none, .qcall 10 [(.t 75), (.t 78)]⟩,
    ⟨some 74, none, .q (.mv (.t 79))⟩,
    ⟨some 80, none, .q (.ext (.t 74) 0)⟩,
    ⟨some 81, none, .q (.ext (.t 74) 1)⟩,
    ⟨some 15, none, .alloc 2 (.agg [(.raw (.slice none 0 0)), (.raw (.slice none 0 0))])⟩,
    ⟨none, none, .store 2 (.t 15) (.t 80)⟩,
    ⟨some 16, none, .q (.mv (.t 81))⟩]] [7, 10, 11, 12, 14, 15, 16])
  (.seq (.rg [⟨some 82, none, .q (.mv (.t 14))⟩,
    ⟨some 17, none, .q (.mv (.t 82))⟩] [7, 10, 11, 12, 14, 15, 16, 17])
  (.seq (.seq (.rg [⟨some 83, none, .q (.mv (.t 14))⟩,
    ⟨some 84, none, .q (.bin .lss .prim (.t 83) (.c (.raw (.int .i64 0))))⟩,
    ⟨some 85, none, .q (.mv (.t 84))⟩,
    ⟨some 86, some (85, true), .q (.mv (.t 16))⟩,
    ⟨some 87, some (85, true), .q (.bin .geq .prim (.t 86) (.c (.raw (.int .i64 0))))⟩,
    ⟨some 88, none, .q (.pick (.t 85) (.t 87) (.c (.raw (.bool false))))⟩] [7, 10, 11, 12, 15, 16, 17, 88])
  (.cond (.t 88) (.rg [⟨some 89, none, .q (.mv (.t 16))⟩,
    ⟨some 90, none, .q (.mv (.t 10))⟩,
    ⟨some 91, none, .q (.bin .add .prim (.t 89) (.t 90))⟩,
    ⟨some 17, none, .q (.mv (.t 91))⟩] [7, 11, 12, 15, 17]) .skip))
  (.seq (.rg [⟨some 92, none, .q (.mv (.t 7))⟩,
    ⟨some 93, none, .q (.mv (.t 92))⟩,
    ⟨some 94, some (93, true), .q (.load (some 2) (.t 11))⟩,
    ⟨some 95, some (93, true), .q (.load (some 2) (.t 15))⟩,
    ⟨some 96, some (93, true), .call 15 [(.t 94), (.t 95)]⟩,
    ⟨some 97, none, .q (.pick (.t 93) (.t 96) (.c (.raw (.bool false))))⟩,
    ⟨some 98, none, .q (.mv (.t 97))⟩,
    ⟨some 99, some (98, true), .q (.mv (.t 12))⟩,
    ⟨some 100, some (98, true), .q (.mv (.t 17))⟩,
    ⟨some 101, some (98, true), .q (.bin .eql .prim (.t 99) (.t 100))⟩,
    ⟨some 102, none, .q (.pick (.t 98) (.t 101) (.c (.raw (.bool false))))⟩,
    ⟨some 6, none, .q (.mv (.t 102))⟩] [6])
  .ret)))))))))))) }
theorem a4_ok : genFunc Go.Proofs.Try.prog ⟨[(0, [0, 2, 4]), (1, [0, 2, 4, 7]), (2, [0, 2, 4, 7, 33]), (3, [6]), (4, [0, 2, 4, 7, 8]), (5, [0, 2, 4, 7, 8, 39]), (7, [0, 2, 4, 7, 8, 48]), (8, [6]), (6, [0, 2, 4, 7, 8]), (9, [2, 4, 7, 9]), (10, [4, 7, 9, 10]), (11, [4, 7, 9, 10, 11, 12]), (12, [7, 9, 10, 11, 12, 13, 14]), (13, [7, 10, 11, 12, 14, 15, 16]), (14, [7, 10, 11, 12, 14, 15, 16, 17]), (15, [7, 10, 11, 12, 15, 16, 17, 88]), (16, [7, 11, 12, 15, 17]), (17, [6])], [], false, [], [], [], false⟩ Go.Proofs.Try.f4 = some a4 := by kernel_rfl

def a5_L0 : ACode := (.seq (.seq (.rg [⟨some 37, none, .q (.mv (.t 10))⟩,
    ⟨some 38, none, .q (.fa 0 (.t 5))⟩,
    ⟨some 39, none, .q (.load none (.t 38))⟩,
    ⟨some 40, none, .q (.len (.t 39))⟩,
    ⟨some 41, none, .q (.bin .lss .prim (.t 37) (.t 40))⟩] [0, 2, 3, 5, 9, 10, 41])
  (.cond (.t 41) .skip (.exit 0)))
  (.seq (.block 1 (.seq (.rg [⟨some 44, none, .q (.fa 0 (.t 5))⟩,
    ⟨some 45, none, .q (.load none (.t 44))⟩,
    ⟨some 46, none, .q (.mv (.t 10))⟩,
    ⟨some 47, none, .q (.ia 1 (.t 45) (.t 46))⟩,
    ⟨some 48, none, .q (.load none (.t 47))⟩,
    ⟨some 49, none, .q (.len (.t 48))⟩,
    ⟨some 50, none, .q (.bin .gtr .prim (.t 49) (.c (.raw (.int .i64 60))))⟩] [0, 2, 3, 5, 9, 10, 50])
  (.cond (.t 50) (.seq (.rg [⟨some 51, none, .q (.mv (.t 9))⟩,
    ⟨some 8, none, .q (.mv (.t 51))⟩] [8])
  .ret) .skip)))
  (.rg [⟨some 42, none, .q (.mv (.t 10))⟩,
    ⟨some 43, none, .q (.bin .add .prim (.t 42) (.c (.raw (.int .i64 1))))⟩,
    ⟨some 10, none, .q (.mv (.t 43))⟩] [0, 2, 3, 5, 9, 10])))
def a5 : AFunc := { n := 125, nparams := 4, res := [.tmp 8], body := (.seq (.rg [⟨some 5, none, .box 2 (.t 1)⟩,
    ⟨some 8, none, .q (.mv (.c (.raw (.bool false))))⟩] [0, 2, 3, 5])
  (.seq (.rg [⟨some 20, none, .call 7 []⟩,
    ⟨some 9, none, .q (.mv (.t 20))⟩] [0, 2, 3, 5, 9])
  (.seq (.seq (.rg [⟨some 21, none, .q (.mv (.t 0))⟩,
    ⟨some 22, none, .call 12 [(.t 21)]⟩,
    ⟨some 23, none, .q (.un .not (.t 22))⟩,
    ⟨some 24, none, .q (.mv (.t 23))⟩,
    ⟨some 25, some (24, false), .q (.fa 0 (.t 5))⟩,
    ⟨some 26, some (24, false), .q (.load none (.t 25))⟩,
    ⟨some 27, some (24, false), .q (.len (.t 26))⟩,
    ⟨some 28, some (24, false), .q (.bin .gtr .prim (.t 27) (.c (.raw (.int .i64 8))))⟩,
    ⟨some 29, none, .q (.pick (.t 24) (.c (.raw (.bool true))) (.t 28))⟩,
    ⟨some 30, none, .q (.mv (.t 29))⟩,
    ⟨some 31, some (30, false), .q (.fa 1 (.t 5))⟩,
    ⟨some 32, some (30, false), .q (.load none (.t 31))⟩,
    ⟨some 33, some (30, false), .q (.len (.t 32))⟩,
    ⟨some 34, some (30, false), .q (.bin .gtr .prim (.t 33) (.c (.raw (.int .i64 8))))⟩,
    ⟨some 35, none, .q (.pick (.t 30) (.c (.raw (.bool true))) (.t 34))⟩] [0, 2, 3, 5, 9, 35])
  (.cond (.t 35) (.seq (.rg [⟨some 36, none, .q (.mv (.t 9))⟩,
    ⟨some 8, none, .q (.mv (.t 36))⟩] [8])
  .ret) .skip))
  (.seq (.seq (.rg [⟨some 10, none, .q (.mv (.c (.raw (.int .i64 0))))⟩] [0, 2, 3, 5, 9, 10])
  (.block 0 (.loop a5_L0)))
  (.seq (.rg [⟨some 52, none, .q (.mv (.t 0))⟩,
    ⟨some 53, none, .call 13 [(.t 52)]⟩,
    ⟨some 11, none, .q (.mv (.t 53))⟩] [0, 2, 3, 5, 9, 11])
  (.seq (.rg [⟨some 54, none, .q (.mv (.t 11))⟩,
    ⟨some 55, none, .call 11 [(.t 54)]⟩,
    ⟨some 12, none, .q (.mv (.t 55))⟩] [0, 2, 3, 5, 9, 11, 12])
  (.seq (.rg [⟨some 56, none, .q (.mv (.t 0))⟩,
    ⟨some 57, none, .call 16 [(.t 56)]⟩,
    ⟨some 13, none, .q (.mv (.t 57))⟩] [0, 2, 3, 5, 9, 11, 12, 13])
  (.seq (.rg [⟨some 59, none, .q (.load (some 2) (.t 5))⟩,
    ⟨some 60, none, .call 14 [(.t 59)]⟩,
    ⟨some 61, none, .q (.mv (.t 11))⟩,
    ⟨some 62, none, .call 10 [(.t 60), (.t 61)]⟩,
    ⟨some 58, none, .q (.mv (.t 62))⟩,
    ⟨some 63, none, .q (.ext (.t 58) 0)⟩,
    ⟨some 64, none, .q (.ext (.t 58) 1)⟩,
    ⟨some 14, none, .alloc 2 (.agg [(.raw (.slice none 0 0)), (.raw (.slice none 0 0))])⟩,
    ⟨none, none, .store 2 (.t 14) (.t 63)⟩,
    ⟨some 15, none, .q (.mv (.t 64))⟩] [0, 2, 3, 5, 9, 11, 12, 13, 14, 15])
  (.seq (.rg [⟨some 66, none, .q (.load (some 2) (.t 5))⟩,
    ⟨some 67, none, .q (.mv (.t 0))⟩,
    ⟨some 68, none, .call 17 [(.t 66), (.t 67)]⟩,
    ⟨some 65, none, .q (.mv (.t 68))⟩,
    ⟨some 69, none, .q (.ext (.t 65) 0)⟩,
    ⟨some 70, none, .q (.ext (.t 65) 1)⟩,
    ⟨some 16, none, .alloc 2 (.agg [(.raw (.slice none 0 0)), (.raw (.slice none 0 0))])⟩,
    ⟨none, none, .store 2 (.t 16) (.t 69)⟩,
    ⟨some 17, none, .q (.mv (.t 70))⟩] [0, 2, 3, 5, 9, 11, 12, 13, 14, 15, 16, 17])
  (.seq (.rg [⟨some 72, none, .q (.load (some 2) (.t 5))⟩,
    ⟨some 73, none, .q (.mv (.t 13))⟩,
    ⟨some 74, none, .call 17 [(.t 72), (.t 73)]⟩,
    ⟨some 71, none, .q (.mv (.t 74))⟩,
    ⟨some 75, none, .q (.ext (.t 71) 0)⟩,
    ⟨some 76, none, .q (.ext (.t 71) 1)⟩,
    ⟨some 18, none, .alloc 2 (.agg [(.raw (.slice none 0 0)), (.raw (.slice none 0 0))])⟩,
    ⟨none, none, .store 2 (.t 18) (.t 75)⟩,
    ⟨some 19, none, .q (.mv (.t 76))⟩] [0, 2, 3, 5, 9, 11, 12, 13, 14, 15, 16, 17, 18, 19])
  (.seq (.rgs [[⟨some 77, none, .q (.mv (.t 9))⟩,
    ⟨some 78, none, .q (.mv (.t 77))⟩,
    ⟨some 79, some (78, true), .q (.mv (.t 11))⟩,
    ⟨some 80, some (78, true), .q (.mv (.t 2))⟩,
    ⟨some 81, some (78, true), .q (.mv (.t 3))⟩,
    ⟨some 82, some (78, true), .qcall 18 [(.t 79), (.t 80), (.t 81)]⟩,
    ⟨some 83, some (78, true), .q (.mv (.t 0))⟩,
    ⟨some 84, some (78, true), .q (.mv (.t 2))⟩,
    ⟨some 85, some (78, true), .q (.mv (.t 3))⟩,
    ⟨some 86, some (78, true), .qcall 19 [(.t 83), (.t 84), (.t 85)]⟩,
    ⟨some 87, some (78, true), .q (.bin .eql .bool (.t 82) (.t 86))⟩,
    ⟨some 88, none, .q (.pick (.t 78) (.t 87) (.c (.raw (.bool false))))⟩,
    ⟨some 89, none, .q (.mv (.t 88))⟩,
    ⟨some 90, some (89, true), .q (.mv (.t 12))⟩,
    ⟨some 91, some (89, true), .qcall 21 [(.t 90)]⟩,
    ⟨some 92, some (89, true), .q (.mv (.t 13))⟩,
    ⟨some 93, some (89, true), .qcall 20 [(.t 91), (.t 92)]⟩,
    ⟨some 94, none, .q (.pick (.t 89) (.t 93) (.c (.raw (.bool false))))⟩,
    ⟨some 95, none, .q (.mv (.t 94))⟩,
    ⟨some 96, some (95, true), .q (.load (some 2) (.t 14))⟩,
    ⟨some 97, some (95, true), .qcall 23 [(.t 96)]⟩,
    ⟨some 98, some (95, true), .q (.load (some 2) (.t 16))⟩,
    ⟨some 99, some (95, true), .qcall 22 [(.t 97), (.t 98)]⟩,
    ⟨some 100, none, .q (.pick (.t 95) (.t 99) (.c (.raw (.bool false))))⟩,
    ⟨some 101, none, .q (.mv (.t 100))⟩,
    ⟨some 102, some (101, true), .q (.mv (.t 15))⟩,
    ⟨some 103, some (101, true), .q (.mv (.t 17))⟩,
    ⟨some 104, some (101, true), .q (.bin .eql .prim (.t 102) (.t 103))⟩,
    ⟨some 105, none, .q (.pick (.t 101) (.t 104) (.c (.raw (.bool false))))⟩,
    ⟨some 106, none, .q (.mv (.t 105))⟩,
    ⟨some 107, some (106, true), .q (.load (some 2) (.t 5))⟩,
    ⟨some 108, some (106, true), .qcall 14 [(.t 107)]⟩,
    ⟨some 109, some (106, true), .q (.mv (.t 11))⟩,
    ⟨some 110, some (106, true), .qcall 8 [(.t 108), (.t 109)]⟩,
    ⟨some 111, some (106, true), .q (.mv (.t 19))⟩,
    ⟨some 112, some (106, true), .q (.bin .lss .prim (.t 111) (.c (.raw (.int .i64 0))))⟩,
    ⟨some 113, some (106, true), .q (.bin .eql .bool (.t 110) (.t 112))⟩,
    ⟨some 114, none, .q (.pick (.t 106) (.t 113) (.c (.raw (.bool false))))⟩,
    ⟨some 115, none, .q (.mv (.t 114))⟩,
    ⟨some 116, some (115, true), .q (.load (some 2) (.t 14))⟩,
    ⟨some 117, some (115, true), .q (.load (some 2) (.t 18))⟩,
    ⟨some 118, some (115, true), .qcall 14 [(.t 117)]⟩,
    ⟨some 119, some (115, true), .qcall 15 [(.t 116), (.t 118)]⟩,
    ⟨some 120, some (115, true), .q (.load (some 2) (.t 16))⟩,
    ⟨some 121, some (115, true), .q (.load (some 2) (.t 18))⟩,
    ⟨some 122, some (115, true), .qcall 22 [(.t 120), (.t 121)]⟩,
    ⟨some 123, some (115, true), .q (.bin .eql .bool (.t 119) (.t 122))⟩,
    ⟨some 124, none, .q (.pick (.t 115) (.t 123) (.c (.raw (.bool false))))⟩,
    ⟨some 8, none, .q (.mv (.t 124))⟩]] [8])
  .ret))))))))))) }
theorem a5_ok : genFunc Go.Proofs.Try.prog ⟨[(0, [0, 2, 3, 5]), (1, [0, 2, 3, 5, 9]), (2, [0, 2, 3, 5, 9, 35]), (3, [8]), (4, [0, 2, 3, 5, 9, 10]), (5, [0, 2, 3, 5, 9, 10, 41]), (7, [0, 2, 3, 5, 9, 10, 50]), (8, [8]), (6, [0, 2, 3, 5, 9, 10]), (9, [0, 2, 3, 5, 9, 11]), (10, [0, 2, 3, 5, 9, 11, 12]), (11, [0, 2, 3, 5, 9, 11, 12, 13]), (12, [0, 2, 3, 5, 9, 11, 12, 13, 14, 15]), (13, [0, 2, 3, 5, 9, 11, 12, 13, 14, 15, 16, 17]), (14, [0, 2, 3, 5, 9, 11, 12, 13, 14, 15, 16, 17, 18, 19]), (15, [8])], [], false, [], [], [], false⟩ Go.Proofs.Try.f5 = some a5 := by kernel_rfl

def a6_L0 : ACode := (.seq (.seq (.rg [⟨some 19, none, .q (.mv (.t 8))⟩,
    ⟨some 20, none, .q (.mv (.t 7))⟩,
    ⟨some 21, none, .q (.len (.t 20))⟩,
    ⟨some 22, none, .q (.bin .lss .prim (.t 19) (.t 21))⟩] [1, 5, 6, 7, 8, 22])
  (.cond (.t 22) .skip (.exit 0)))
  (.seq (.block 1 (.seq (.rg [⟨some 25, none, .q (.mv (.t 7))⟩,
    ⟨some 26, none, .q (.mv (.t 8))⟩,
    ⟨some 27, none, .q (.ia 7 (.t 25) (.t 26))⟩,
    ⟨some 28, none, .q (.fa 0 (.t 27))⟩,
    ⟨some 29, none, .q (.load none (.t 28))⟩,
    ⟨some 30, none, .q (.bin .neq .prim (.t 29) (.c (.raw (.int .i64 2))))⟩] [1, 5, 6, 7, 8, 30])
  (.cond (.t 30) (.rg [⟨some 31, none, .q (.mv (.t 6))⟩,
    ⟨some 32, none, .q (.mv (.t 7))⟩,
    ⟨some 33, none, .q (.mv (.t 8))⟩,
    ⟨some 34, none, .q (.ia 7 (.t 32) (.t 33))⟩,
    ⟨some 35, none, .q (.load (some 7) (.t 34))⟩,
    ⟨some 36, none, .bsl 7 1 (.agg [(.raw (.int .i64 0)), (.raw (.int .i64 0)), (.raw (.int .i64 0)), (.raw (.int .i64 0)), (.raw (.int .i64 0)), (.raw (.slice none 0 0)), (.raw (.slice none 0 0))]) [(0, (.t 35))]⟩,
    ⟨some 37, none, .app 7 88 (.t 31) (.t 36)⟩,
    ⟨some 6, none, .q (.mv (.t 37))⟩] [1, 5, 6, 7, 8]) .skip)))
  (.rg [⟨some 23, none, .q (.mv (.t 8))⟩,
    ⟨some 24, none, .q (.bin .add .prim (.t 23) (.c (.raw (.int .i64 1))))⟩,
    ⟨some 8, none, .q (.mv (.t 24))⟩] [1, 5, 6, 7, 8])))
def a6 : AFunc := { n := 76, nparams := 2, res := [.tmp 4], body := (.seq (.rg [⟨some 4, none, .q (.mv (.c (.raw (.bool false))))⟩] [0, 1])
  (.seq (.rg [⟨some 12, none, .call 7 []⟩,
    ⟨some 5, none, .q (.mv (.t 12))⟩] [0, 1, 5])
  (.seq (.seq (.rg [⟨some 13, none, .q (.mv (.t 0))⟩,
    ⟨some 14, none, .call 12 [(.t 13)]⟩,
    ⟨some 15, none, .q (.un .not (.t 14))⟩] [0, 1, 5, 15])
  (.cond (.t 15) (.seq (.rg [⟨some 16, none, .q (.mv (.t 5))⟩,
    ⟨some 4, none, .q (.mv (.t 16))⟩] [4])
  .ret) .skip))
  (.seq (.rg [⟨some 6, none, .q (.mv (.c (.raw (.slice none 0 0))))⟩] [0, 1, 5, 6])
  (.seq (.rg [⟨some 17, none, .q (.mv (.t 0))⟩,
    ⟨some 18, none, .call 13 [(.t 17)]⟩,
    ⟨some 7, none, .q (.mv (.t 18))⟩] [1, 5, 6, 7])
  (.seq (.seq (.rg [⟨some 8, none, .q (.mv (.c (.raw (.int .i64 0))))⟩] [1, 5, 6, 7, 8])
  (.block 0 (.loop a6_L0)))
  (.seq (.rg [⟨some 38, none, .q (.mv (.t 1))⟩,
    ⟨some 39, none, .q (.bin .and .prim (.t 38) (.c (.raw (.int .i64 3))))⟩,
    ⟨some 40, none, .q (.mv (.t 1))⟩,
    ⟨some 41, none, .q (.bin .and .prim (.t 40) (.c (.raw (.int .i64 3))))⟩,
    ⟨some 42, none, .call 9 [(.t 39), (.t 41)]⟩,
    ⟨some 9, none, .alloc 2 (.agg [(.raw (.slice none 0 0)), (.raw (.slice none 0 0))])⟩,
    ⟨none, none, .store 2 (.t 9) (.t 42)⟩] [5, 6, 9])
  (.seq (.rgs [[⟨some 44, none, .q (.load (some 2) (.t 9))⟩,
    ⟨some 45, none, .q (.mv (.t 6))⟩,
    ⟨some 46, none, .qcall 11 [(.t 45)]⟩,
    ⟨some 47, none, .qcall 10 [(.t 44), (.t 46)]⟩,
    ⟨some 43, none, .q (.mv (.t 47))⟩,
    ⟨some 48, none, .q (.ext (.t 43) 0)⟩,
    ⟨some 49, none, .q (.ext (.t 43) 1)⟩,
    ⟨some 10, none, .alloc 2 (.agg [(.raw (.slice none 0 0)), (.raw (.slice none 0 0))])⟩,
    ⟨none, none, .store 2 (.t 10) (.t 48)⟩,
    ⟨some 11, none, .q (.mv (.t 49))⟩]] [5, 6, 9, 10, 11])
  (.seq (.rg [⟨some 50, none, .q (.mv (.t 5))⟩,
    ⟨some 51, none, .q (.mv (.t 50))⟩,
    ⟨some 52, some (51, true), .q (.mv (.t 6))⟩,
    ⟨some 53, some (51, true), .call 11 [(.t 52)]⟩,
    ⟨some 54, some (51, true), .q (.len (.t 53))⟩,
    ⟨some 55, some (51, true), .q (.bin .eql .prim (.t 54) (.c (.raw (.int .i64 0))))⟩,
    ⟨some 56, none, .q (.pick (.t 51) (.t 55) (.c (.raw (.bool false))))⟩,
    ⟨some 57, none, .q (.mv (.t 56))⟩,
    ⟨some 58, some (57, true), .q (.load (some 2) (.t 9))⟩,
    ⟨some 59, some (57, true), .q (.mv (.t 6))⟩,
    ⟨some 60, some (57, true), .call 8 [(.t 58), (.t 59)]⟩,
    ⟨some 61, none, .q (.pick (.t 57) (.t 60) (.c (.raw (.bool false))))⟩,
    ⟨some 62, none, .q (.mv (.t 61))⟩,
    ⟨some 63, some (62, true), .q (.mv (.t 11))⟩,
    ⟨some 64, some (62, true), .q (.bin .eql .prim (.t 63) (.c (.raw (.int .i64 (-1)))))⟩,
    ⟨some 65, none, .q (.pick (.t 62) (.t 64) (.c (.raw (.bool false))))⟩,
    ⟨some 66, none, .q (.mv (.t 65))⟩,
    ⟨some 67, some (66, true), .q (.load (some 2) (.t 10))⟩,
    ⟨some 68, some (66, true), .q (.load (some 2) (.t 9))⟩,
    ⟨some 69, some (66, true), .call 15 [(.t 67), (.t 68)]⟩,
    ⟨some 70, none, .q (.pick (.t 66) (.t 69) (.c (.raw (.bool false))))⟩,
    ⟨some 71, none, .q (.mv (.t 70))⟩,
    ⟨some 72, some (71, true), .call 11 [(.c (.raw (.slice none 0 0)))]⟩,
    ⟨some 73, some (71, true), .q (.len (.t 72))⟩,
    ⟨some 74, some (71, true), .q (.bin .eql .prim (.t 73) (.c (.raw (.int .i64 0))))⟩,
    ⟨some 75, none, .q (.pick (.t 71) (.t 74) (.c (.raw (.bool false))))⟩,
    ⟨some 4, none, .q (.mv (.t 75))⟩] [4])
  .ret))))))))) }
theorem a6_ok : genFunc Go.Proofs.Try.prog ⟨[(0, [0, 1]), (1, [0, 1, 5]), (2, [0, 1, 5, 15]), (3, [4]), (4, [0, 1, 5, 6]), (5, [1, 5, 6, 7]), (6, [1, 5, 6, 7, 8]), (7, [1, 5, 6, 7, 8, 22]), (9, [1, 5, 6, 7, 8, 30]), (10, [1, 5, 6, 7, 8]), (8, [1, 5, 6, 7, 8]), (11, [5, 6, 9]), (12, [5, 6, 9, 10, 11]), (13, [4])], [], false, [], [], [], false⟩ Go.Proofs.Try.f6 = some a6 := by kernel_rfl

def a7 : AFunc := { n := 57, nparams := 0, res := [.tmp 0], body := (.seq (.rg [⟨some 0, none, .q (.mv (.c (.raw (.bool false))))⟩] [])
  (.seq (.rg [⟨some 5, none, .q (.build [(.raw (.int .i64 0)), (.raw (.int .i64 0)), (.raw (.int .i64 0)), (.raw (.int .i64 0)), (.raw (.int .i64 0)), (.raw (.slice none 0 0)), (.raw (.slice none 0 0))] [(0, 1, (.c (.raw (.int .i64 1)))), (2, 1, (.c (.raw (.int .i64 0)))), (3, 1, (.c (.raw (.int .i64 (-1)))))])⟩,
    ⟨some 6, none, .q (.build [(.raw (.int .i64 0)), (.raw (.int .i64 0)), (.raw (.int .i64 0)), (.raw (.int .i64 0)), (.raw (.int .i64 0)), (.raw (.slice none 0 0)), (.raw (.slice none 0 0))] [(0, 1, (.c (.raw (.int .i64 1)))), (2, 1, (.c (.raw (.int .i64 1)))), (3, 1, (.c (.raw (.int .i64 (-1)))))])⟩,
    ⟨some 7, none, .q (.build [(.raw (.int .i64 0)), (.raw (.int .i64 0)), (.raw (.int .i64 0)), (.raw (.int .i64 0)), (.raw (.int .i64 0)), (.raw (.slice none 0 0)), (.raw (.slice none 0 0))] [(0, 1, (.c (.raw (.int .i64 6)))), (2, 1, (.c (.raw (.int .i64 0)))), (4, 1, (.c (.raw (.int .i64 4))))])⟩,
    ⟨some 8, none, .q (.build [(.raw (.int .i64 0)), (.raw (.int .i64 0)), (.raw (.int .i64 0)), (.raw (.int .i64 0)), (.raw (.int .i64 0)), (.raw (.slice none 0 0)), (.raw (.slice none 0 0))] [(0, 1, (.c (.raw (.int .i64 6)))), (2, 1, (.c (.raw (.int .i64 1)))), (4, 1, (.c (.raw (.int .i64 1))))])⟩,
    ⟨some 9, none, .bsl 1 1 (.raw (.int .i64 0)) [(0, (.c (.raw (.int .i64 1))))]⟩,
    ⟨some 10, none, .q (.build [(.raw (.int .i64 0)), (.raw (.int .i64 0)), (.raw (.int .i64 0)), (.raw (.int .i64 0)), (.raw (.int .i64 0)), (.raw (.slice none 0 0)), (.raw (.slice none 0 0))] [(0, 1, (.c (.raw (.int .i64 3)))), (2, 1, (.c (.raw (.int .i64 1)))), (6, 1, (.t 9))])⟩,
    ⟨some 11, none, .q (.build [(.raw (.int .i64 0)), (.raw (.int .i64 0)), (.raw (.int .i64 0)), (.raw (.int .i64 0)), (.raw (.int .i64 0)), (.raw (.slice none 0 0)), (.raw (.slice none 0 0))] [(0, 1, (.c (.raw (.int .i64 2)))), (2, 1, (.c (.raw (.int .i64 0))))])⟩,
    ⟨some 12, none, .bsl 7 6 (.agg [(.raw (.int .i64 0)), (.raw (.int .i64 0)), (.raw (.int .i64 0)), (.raw (.int .i64 0)), (.raw (.int .i64 0)), (.raw (.slice none 0 0)), (.raw (.slice none 0 0))]) [(0, (.t 5)), (1, (.t 6)), (2, (.t 7)), (3, (.t 8)), (4, (.t 10)), (5, (.t 11))]⟩,
    ⟨some 1, none, .q (.mv (.t 12))⟩] [1])
  (.seq (.rg [⟨some 13, none, .q (.mv (.t 1))⟩,
    ⟨some 14, none, .call 11 [(.t 13)]⟩,
    ⟨some 2, none, .q (.mv (.t 14))⟩] [1, 2])
  (.seq (.rg [⟨some 16, none, .call 9 [(.c (.raw (.int .i64 1))), (.c (.raw (.int .i64 1)))]⟩,
    ⟨some 17, none, .q (.mv (.t 2))⟩,
    ⟨some 18, none, .call 10 [(.t 16), (.t 17)]⟩,
    ⟨some 15, none, .q (.mv (.t 18))⟩,
    ⟨some 19, none, .q (.ext (.t 15) 0)⟩,
    ⟨some 20, none, .q (.ext (.t 15) 1)⟩,
    ⟨some 3, none, .alloc 2 (.agg [(.raw (.slice none 0 0)), (.raw (.slice none 0 0))])⟩,
    ⟨none, none, .store 2 (.t 3) (.t 19)⟩,
    ⟨some 4, none, .q (.mv (.t 20))⟩] [1, 2, 3, 4])
  (.seq (.rg [⟨some 21, none, .q (.mv (.t 2))⟩,
    ⟨some 22, none, .q (.len (.t 21))⟩,
    ⟨some 23, none, .q (.bin .eql .prim (.t 22) (.c (.raw (.int .i64 1))))⟩,
    ⟨some 24, none, .q (.mv (.t 23))⟩,
    ⟨some 25, some (24, true), .q (.mv (.t 2))⟩,
    ⟨some 26, some (24, true), .q (.ia 7 (.t 25) (.c (.raw (.int .i64 0))))⟩,
    ⟨some 27, some (24, true), .q (.fa 4 (.t 26))⟩,
    ⟨some 28, some (24, true), .q (.load none (.t 27))⟩,
    ⟨some 29, some (24, true), .q (.bin .eql .prim (.t 28) (.c (.raw (.int .i64 4))))⟩,
    ⟨some 30, none, .q (.pick (.t 24) (.t 29) (.c (.raw (.bool false))))⟩,
    ⟨some 31, none, .q (.mv (.t 30))⟩,
    ⟨some 32, some (31, true), .q (.mv (.t 4))⟩,
    ⟨some 33, some (31, true), .q (.bin .eql .prim (.t 32) (.c (.raw (.int .i64 (-1)))))⟩,
    ⟨some 34, none, .q (.pick (.t 31) (.t 33) (.c (.raw (.bool false))))⟩,
    ⟨some 35, none, .q (.mv (.t 34))⟩,
    ⟨some 36, some (35, true), .q (.fa 1 (.t 3))⟩,
    ⟨some 37, some (35, true), .q (.load none (.t 36))⟩,
    ⟨some 38, some (35, true), .q (.len (.t 37))⟩,
    ⟨some 39, some (35, true), .q (.bin .eql .prim (.t 38) (.c (.raw (.int .i64 1))))⟩,
    ⟨some 40, none, .q (.pick (.t 35) (.t 39) (.c (.raw (.bool false))))⟩,
    ⟨some 41, none, .q (.mv (.t 40))⟩,
    ⟨some 42, some (41, true), .q (.fa 1 (.t 3))⟩,
    ⟨some 43, some (41, true), .q (.load none (.t 42))⟩,
    ⟨some 44, some (41, true), .q (.ia 1 (.t 43) (.c (.raw (.int .i64 0))))⟩,
    ⟨some 45, some (41, true), .q (.load none (.t 44))⟩,
    ⟨some 46, some (41, true), .q (.bin .eql .prim (.t 45) (.c (.raw (.int .i64 4))))⟩,
    ⟨some 47, none, .q (.pick (.t 41) (.t 46) (.c (.raw (.bool false))))⟩,
    ⟨some 48, none, .q (.mv (.t 47))⟩,
    ⟨some 49, some (48, true), .q (.mv (.t 1))⟩,
    ⟨some 50, some (48, true), .call 18 [(.t 49), (.c (.raw (.int .i64 0))), (.c (.raw (.int .i64 0)))]⟩,
    ⟨some 51, none, .q (.pick (.t 48) (.t 50) (.c (.raw (.bool false))))⟩,
    ⟨some 52, none, .q (.mv (.t 51))⟩,
    ⟨some 53, some (52, true), .q (.mv (.t 1))⟩,
    ⟨some 54, some (52, true), .call 18 [(.t 53), (.c (.raw (.int .i64 0))), (.c (.raw (.int .i64 1)))]⟩,
    ⟨some 55, some (52, true), .q (.un .not (.t 54))⟩,
    ⟨some 56, none, .q (.pick (.t 52) (.t 55) (.c (.raw (.bool false))))⟩,
    ⟨some 0, none, .q (.mv (.t 56))⟩] [0])
  .ret))))) }
theorem a7_ok : genFunc Go.Proofs.Try.prog ⟨[(0, []), (1, [1]), (2, [1, 2]), (3, [1, 2, 3, 4]), (4, [0])], [], false, [], [], [], false⟩ Go.Proofs.Try.f7 = some a7 := by kernel_rfl

def a8 : AFunc := { n := 16, nparams := 2, res := [.tmp 4], body := (.seq (.rg [⟨some 2, none, .box 2 (.t 0)⟩,
    ⟨some 4, none, .q (.mv (.c (.raw (.bool false))))⟩] [1, 2])
  (.seq (.rgs [[⟨some 8, none, .q (.load (some 2) (.t 2))⟩,
    ⟨some 9, none, .q (.mv (.t 1))⟩,
    ⟨some 10, none, .qcall 11 [(.t 9)]⟩,
    ⟨some 11, none, .qcall 10 [(.t 8), (.t 10)]⟩,
    ⟨some 7, none, .q (.mv (.t 11))⟩,
    ⟨some 12, none, .q (.ext (.t 7) 0)⟩,
    ⟨some 13, none, .q (.ext (.t 7) 1)⟩,
    ⟨some 5, none, .alloc 2 (.agg [(.raw (.slice none 0 0)), (.raw (.slice none 0 0))])⟩,
    ⟨none, none, .store 2 (.t 5) (.t 12)⟩,
    ⟨some 6, none, .q (.mv (.t 13))⟩]] [6])
  (.seq (.rg [⟨some 14, none, .q (.mv (.t 6))⟩,
    ⟨some 15, none, .q (.bin .lss .prim (.t 14) (.c (.raw (.int .i64 0))))⟩,
    ⟨some 4, none, .q (.mv (.t 15))⟩] [4])
  .ret))) }
theorem a8_ok : genFunc Go.Proofs.Try.prog ⟨[(0, [1, 2]), (1, [6]), (2, [4])], [], false, [], [], [], false⟩ Go.Proofs.Try.f8 = some a8 := by kernel_rfl

def a9_L0 : ACode := (.seq (.seq (.rg [⟨some 10, none, .q (.mv (.t 6))⟩,
    ⟨some 11, none, .q (.mv (.t 0))⟩,
    ⟨some 12, none, .q (.bin .lss .prim (.t 10) (.t 11))⟩] [0, 4, 5, 6, 12])
  (.cond (.t 12) .skip (.exit 0)))
  (.seq (.block 1 (.seq (.rgs [[⟨some 15, none, .q (.fa 0 (.t 5))⟩,
    ⟨some 16, none, .q (.load none (.t 15))⟩,
    ⟨some 17, none, .mks 1 1 (.raw (.int .u8 0)) (.c (.raw (.int .i64 32))) (.c (.raw (.int .i64 32)))⟩,
    ⟨some 18, none, .bsl 1 1 (.raw (.slice none 0 0)) [(0, (.t 17))]⟩,
    ⟨some 19, none, .app 1 24 (.t 16) (.t 18)⟩,
    ⟨some 20, none, .q (.fa 0 (.t 5))⟩,
    ⟨none, none, .store 1 (.t 20) (.t 19)⟩]] [0, 4, 5, 6])
  .gh))
  (.rg [⟨some 13, none, .q (.mv (.t 6))⟩,
    ⟨some 14, none, .q (.bin .add .prim (.t 13) (.c (.raw (.int .i64 1))))⟩,
    ⟨some 6, none, .q (.mv (.t 14))⟩] [0, 4, 5, 6])))
def a9 : AFunc := { n := 22, nparams := 2, res := [.cell 4 (some 2)], body := (.seq (.rg [⟨some 4, none, .alloc 2 (.agg [(.raw (.slice none 0 0)), (.raw (.slice none 0 0))])⟩] [0, 1, 4])
  (.seq (.rg [⟨some 7, none, .q (.mv (.t 1))⟩,
    ⟨some 8, none, .mks 1 8 (.raw (.int .i64 0)) (.t 7) (.t 7)⟩,
    ⟨some 9, none, .q (.build [(.raw (.slice none 0 0)), (.raw (.slice none 0 0))] [(1, 1, (.t 8))])⟩,
    ⟨some 5, none, .alloc 2 (.agg [(.raw (.slice none 0 0)), (.raw (.slice none 0 0))])⟩,
    ⟨none, none, .store 2 (.t 5) (.t 9)⟩] [0, 4, 5])
  (.seq (.seq (.rg [⟨some 6, none, .q (.mv (.c (.raw (.int .i64 0))))⟩] [0, 4, 5, 6])
  (.block 0 (.loop a9_L0)))
  (.seq (.rg [⟨some 21, none, .q (.load (some 2) (.t 5))⟩,
    ⟨none, none, .store 2 (.t 4) (.t 21)⟩] [4])
  .ret)))) }
theorem a9_ok : genFunc Go.Proofs.Try.prog ⟨[(0, [0, 1, 4]), (1, [0, 4, 5]), (2, [0, 4, 5, 6]), (3, [0, 4, 5, 6, 12]), (5, [0, 4, 5, 6]), (4, [0, 4, 5, 6]), (6, [4])], [5], false, [], [5], [], false⟩ Go.Proofs.Try.f9 = some a9 := by kernel_rfl

def a10_L0 : ACode := (.seq (.rg [⟨some 20, none, .q (.bin .lss .prim (.t 19) (.t 18))⟩] [4, 6, 7, 17, 18, 19, 20])
  (.seq (.cond (.t 20) .skip (.exit 0))
  (.seq (.block 1 (.seq (.rg [⟨some 21, none, .q (.mv (.t 19))⟩,
    ⟨some 22, none, .q (.ia 7 (.t 17) (.t 19))⟩,
    ⟨some 23, none, .q (.load (some 7) (.t 22))⟩,
    ⟨some 9, none, .alloc 7 (.agg [(.raw (.int .i64 0)), (.raw (.int .i64 0)), (.raw (.int .i64 0)), (.raw (.int .i64 0)), (.raw (.int .i64 0)), (.raw (.slice none 0 0)), (.raw (.slice none 0 0))])⟩,
    ⟨some 8, none, .q (.mv (.t 21))⟩,
    ⟨none, none, .store 7 (.t 9) (.t 23)⟩] [4, 6, 7, 8, 9, 17, 18, 19])
  (.seq (.rg [⟨some 24, none, .q (.load (some 7) (.t 9))⟩,
    ⟨some 25, none, .call 26 [(.t 6), (.t 24)]⟩,
    ⟨some 26, none, .q (.un .not (.t 25))⟩,
    ⟨some 27, none, .q (.mv (.t 26))⟩,
    ⟨some 28, some (27, true), .q (.mv (.t 7))⟩,
    ⟨some 29, some (27, true), .q (.bin .lss .prim (.t 28) (.c (.raw (.int .i64 0))))⟩,
    ⟨some 30, none, .q (.pick (.t 27) (.t 29) (.c (.raw (.bool false))))⟩] [4, 6, 7, 8, 17, 18, 19, 30])
  (.cond (.t 30) (.rg [⟨some 31, none, .q (.mv (.t 8))⟩,
    ⟨some 7, none, .q (.mv (.t 31))⟩] [4, 6, 7, 17, 18, 19]) .skip))))
  (.rg [⟨some 32, none, .q (.bin .add .prim (.t 19) (.c (.raw (.int .i64 1))))⟩,
    ⟨some 19, none, .q (.mv (.t 32))⟩] [4, 6, 7, 17, 18, 19]))))
def a10 : AFunc := { n := 35, nparams := 2, res := [.cell 4 (some 2), .tmp 5], body := (.seq (.rg [⟨some 2, none, .box 2 (.t 0)⟩,
    ⟨some 4, none, .alloc 2 (.agg [(.raw (.slice none 0 0)), (.raw (.slice none 0 0))])⟩,
    ⟨some 5, none, .q (.mv (.c (.raw (.int .i64 0))))⟩] [1, 2, 4])
  (.seq (.rgs [[⟨some 10, none, .q (.fa 0 (.t 2))⟩,
    ⟨some 11, none, .q (.load none (.t 10))⟩,
    ⟨some 13, none, .q (.fa 1 (.t 2))⟩,
    ⟨some 12, none, .call 24 [(.t 11)]⟩,
    ⟨some 14, none, .q (.load none (.t 13))⟩,
    ⟨some 15, none, .call 25 [(.t 14)]⟩,
    ⟨some 16, none, .q (.build [(.raw (.slice none 0 0)), (.raw (.slice none 0 0))] [(0, 1, (.t 12)), (1, 1, (.t 15))])⟩,
    ⟨some 6, none, .alloc 2 (.agg [(.raw (.slice none 0 0)), (.raw (.slice none 0 0))])⟩,
    ⟨none, none, .store 2 (.t 6) (.t 16)⟩],
    [⟨some 10, none, .q (.fa 0 (.t 2))⟩,
    ⟨some 11, none, .q (.load none (.t 10))⟩,
    ⟨some 13, none, .q (.fa 1 (.t 2))⟩,
    ⟨some 12, none, .call 24 [(.t 11)]⟩,
    ⟨some 14, none, .q (.load none (.t 13))⟩,
    ⟨some 6, none, .alloc 2 (.agg [(.raw (.slice none 0 0)), (.raw (.slice none 0 0))])⟩,
    ⟨some 15, none, .call 25 [(.t 14)]⟩,
    ⟨some 16, none, .q (.build [(.raw (.slice none 0 0)), (.raw (.slice none 0 0))] [(0, 1, (.t 12)), (1, 1, (.t 15))])⟩,
    ⟨none, none, .store 2 (.t 6) (.t 16)⟩],
    [⟨some 10, none, .q (.fa 0 (.t 2))⟩,
    ⟨some 11, none, .q (.load none (.t 10))⟩,
    ⟨some 13, none, .q (.fa 1 (.t 2))⟩,
    ⟨some 6, none, .alloc 2 (.agg [(.raw (.slice none 0 0)), (.raw (.slice none 0 0))])⟩,
    ⟨some 12, none, .call 24 [(.t 11)]⟩,
    ⟨some 14, none, .q (.load none (.t 13))⟩,
    ⟨some 15, none, .call 25 [(.t 14)]⟩,
    ⟨some 16, none, .q (.build [(.raw (.slice none 0 0)), (.raw (.slice none 0 0))] [(0, 1, (.t 12)), (1, 1, (.t 15))])⟩,
    ⟨none, none, .store 2 (.t 6) (.t 16)⟩],
    [⟨some 10, none, .q (.fa 0 (.t 2))⟩,
    ⟨some 11, none, .q (.load none (.t 10))⟩,
    ⟨some 13, none, .q (.fa 1 (.t 2))⟩,
    ⟨some 14, none, .q (.load none (.t 13))⟩,
    ⟨some 12, none, .call 24 [(.t 11)]⟩,
    ⟨some 15, none, .call 25 [(.t 14)]⟩,
    ⟨some 16, none, .q (.build [(.raw (.slice none 0 0)), (.raw (.slice none 0 0))] [(0, 1, (.t 12)), (1, 1, (.t 15))])⟩,
    ⟨some 6, none, .alloc 2 (.agg [(.raw (.slice none 0 0)), (.raw (.slice none 0 0))])⟩,
    ⟨none, none, .store 2 (.t 6) (.t 16)⟩],
    [⟨some 10, none, .q (.fa 0 (.t 2))⟩,
    ⟨some 11, none, .q (.load none (.t 10))⟩,
    ⟨some 13, none, .q (.fa 1 (.t 2))⟩,
    ⟨some 14, none, .q (.load none (.t 13))⟩,
    ⟨some 12, none, .call 24 [(.t 11)]⟩,
    ⟨some 6, none, .alloc 2 (.agg [(.raw (.slice none 0 0)), (.raw (.slice none 0 0))])⟩,
    ⟨some 15, none, .call 25 [(.t 14)]⟩,
    ⟨some 16, none, .q (.build [(.raw (.slice none 0 0)), (.raw (.slice none 0 0))] [(0, 1, (.t 12)), (1, 1, (.t 15))])⟩,
    ⟨none, none, .store 2 (.t 6) (.t 16)⟩],
    [⟨some 10, none, .q (.fa 0 (.t 2))⟩,
    ⟨some 11, none, .q (.load none (.t 10))⟩,
    ⟨some 13, none, .q (.fa 1 (.t 2))⟩,
    ⟨some 14, none, .q (.load none (.t 13))⟩,
    ⟨some 6, none, .alloc 2 (.agg [(.raw (.slice none 0 0)), (.raw (.slice none 0 0))])⟩,
    ⟨some 12, none, .call 24 [(.t 11)]⟩,
    ⟨some 15, none, .call 25 [(.t 14)]⟩,
    ⟨some 16, none, .q (.build [(.raw (.slice none 0 0)), (.raw (.slice none 0 0))] [(0, 1, (.t 12)), (1, 1, (.t 15))])⟩,
    ⟨none, none, .store 2 (.t 6) (.t 16)⟩]] [1, 4, 6])
  (.seq (.rg [⟨some 7, none, .q (.mv (.c (.raw (.int .i64 (-1)))))⟩] [1, 4, 6, 7])
  (.seq (.seq (.rg [⟨some 17, none, .q (.mv (.t 1))⟩,
    ⟨some 18, none, .q (.len (.t 17))⟩,
    ⟨some 19, none, .q (.mv (.c (.raw (.int .i64 0))))⟩] [4, 6, 7, 17, 18, 19])
  (.block 0 (.loop a10_L0)))
  (.seq (.rg [⟨some 33, none, .q (.load (some 2) (.t 6))⟩,
    ⟨some 34, none, .q (.mv (.t 7))⟩,
    ⟨none, none, .store 2 (.t 4) (.t 33)⟩,
    ⟨some 5, none, .q (.mv (.t 34))⟩] [4, 5])
  .ret))))) }
theorem a10_ok : genFunc Go.Proofs.Try.prog ⟨[(0, [1, 2, 4]), (1, [1, 4, 6]), (2, [1, 4, 6, 7]), (3, [4, 6, 7, 17, 18, 19]), (4, [4, 6, 7, 17, 18, 19, 20]), (5, [4, 6, 7, 8, 9, 17, 18, 19]), (6, [4, 6, 7, 8, 17, 18, 19, 30]), (7, [4, 6, 7, 17, 18, 19]), (8, [4, 6, 7, 17, 18, 19]), (9, [4, 5])], [1], false, [(1, [[0, 1, 3, 2, 4, 5, 6, 7, 8], [0, 1, 3, 2, 4, 7, 5, 6, 8], [0, 1, 3, 7, 2, 4, 5, 6, 8], [0, 1, 3, 4, 2, 5, 6, 7, 8], [0, 1, 3, 4, 2, 7, 5, 6, 8], [0, 1, 3, 4, 7, 2, 5, 6, 8]])], [], [], false⟩ Go.Proofs.Try.f10 = some a10 := by kernel_rfl

def a11 : AFunc := { n := 14, nparams := 1, res := [.tmp 2], body := (.seq (.rg [⟨some 2, none, .q (.mv (.c (.raw (.slice none 0 0))))⟩] [0, 2])
  (.seq (.rg [⟨some 3, none, .alloc 1 (.raw (.slice none 0 0))⟩] [0, 2, 3])
  (.seq (.seq (.rg [⟨some 5, none, .q (.mv (.t 0))⟩,
    ⟨some 6, none, .call 27 [(.t 5)]⟩,
    ⟨some 7, none, .call 28 [(.t 6)]⟩] [2, 3, 7])
  (.block 0 (.rf [3] (.t 7) [8] (.rg [⟨some 4, none, .alloc 7 (.agg [(.raw (.int .i64 0)), (.raw (.int .i64 0)), (.raw (.int .i64 0)), (.raw (.int .i64 0)), (.raw (.int .i64 0)), (.raw (.slice none 0 0)), (.raw (.slice none 0 0))])⟩,
    ⟨none, none, .store 7 (.t 4) (.t 8)⟩] [3, 4])
  (.block 1 (.rg [⟨some 9, none, .q (.load none (.t 3))⟩,
    ⟨some 10, none, .q (.load (some 7) (.t 4))⟩,
    ⟨some 11, none, .bsl 7 1 (.agg [(.raw (.int .i64 0)), (.raw (.int .i64 0)), (.raw (.int .i64 0)), (.raw (.int .i64 0)), (.raw (.int .i64 0)), (.raw (.slice none 0 0)), (.raw (.slice none 0 0))]) [(0, (.t 10))]⟩,
    ⟨some 12, none, .app 7 88 (.t 9) (.t 11)⟩,
    ⟨none, none, .store 1 (.t 3) (.t 12)⟩] [])))))
  (.seq (.rg [⟨some 13, none, .q (.load none (.t 3))⟩,
    ⟨some 2, none, .q (.mv (.t 13))⟩] [2])
  .ret)))) }
theorem a11_ok : genFunc Go.Proofs.Try.prog ⟨[(0, [0, 2]), (1, [0, 2, 3]), (2, [2, 3, 7]), (3, [3, 4]), (4, []), (5, [2])], [], false, [], [], [([8], [3])], false⟩ Go.Proofs.Try.f11 = some a11 := by kernel_rfl

def a12_L0 : ACode := (.seq (.seq (.rg [⟨some 7, none, .q (.mv (.t 3))⟩,
    ⟨some 8, none, .q (.mv (.t 0))⟩,
    ⟨some 9, none, .q (.len (.t 8))⟩,
    ⟨some 10, none, .q (.bin .lss .prim (.t 7) (.t 9))⟩] [0, 3, 10])
  (.cond (.t 10) .skip (.exit 0)))
  (.seq (.block 1 (.seq (.rg [⟨some 13, none, .q (.mv (.t 0))⟩,
    ⟨some 14, none, .q (.mv (.t 3))⟩,
    ⟨some 15, none, .q (.ia 7 (.t 13) (.t 14))⟩,
    ⟨some 16, none, .q (.fa 5 (.t 15))⟩,
    ⟨some 17, none, .q (.load none (.t 16))⟩,
    ⟨some 18, none, .q (.len (.t 17))⟩,
    ⟨some 19, none, .q (.bin .gtr .prim (.t 18) (.c (.raw (.int .i64 60))))⟩,
    ⟨some 20, none, .q (.mv (.t 19))⟩,
    ⟨some 21, some (20, false), .q (.mv (.t 0))⟩,
    ⟨some 22, some (20, false), .q (.mv (.t 3))⟩,
    ⟨some 23, some (20, false), .q (.ia 7 (.t 21) (.t 22))⟩,
    ⟨some 24, some (20, false), .q (.fa 6 (.t 23))⟩,
    ⟨some 25, some (20, false), .q (.load none (.t 24))⟩,
    ⟨some 26, some (20, false), .q (.len (.t 25))⟩,
    ⟨some 27, some (20, false), .q (.bin .gtr .prim (.t 26) (.c (.raw (.int .i64 10))))⟩,
    ⟨some 28, none, .q (.pick (.t 20) (.c (.raw (.bool true))) (.t 27))⟩] [0, 3, 28])
  (.cond (.t 28) (.seq (.rg [⟨some 2, none, .q (.mv (.c (.raw (.bool false))))⟩] [2])
  .ret) .skip)))
  (.rg [⟨some 11, none, .q (.mv (.t 3))⟩,
    ⟨some 12, none, .q (.bin .add .prim (.t 11) (.c (.raw (.int .i64 1))))⟩,
    ⟨some 3, none, .q (.mv (.t 12))⟩] [0, 3])))
def a12 : AFunc := { n := 29, nparams := 1, res := [.tmp 2], body := (.seq (.rg [⟨some 2, none, .q (.mv (.c (.raw (.bool false))))⟩] [0])
  (.seq (.seq (.rg [⟨some 4, none, .q (.mv (.t 0))⟩,
    ⟨some 5, none, .q (.len (.t 4))⟩,
    ⟨some 6, none, .q (.bin .gtr .prim (.t 5) (.c (.raw (.int .i64 40))))⟩] [0, 6])
  (.cond (.t 6) (.seq (.rg [⟨some 2, none, .q (.mv (.c (.raw (.bool false))))⟩] [2])
  .ret) .skip))
  (.seq (.seq (.rg [⟨some 3, none, .q (.mv (.c (.raw (.int .i64 0))))⟩] [0, 3])
  (.block 0 (.loop a12_L0)))
  (.seq (.rg [⟨some 2, none, .q (.mv (.c (.raw (.bool true))))⟩] [2])
  .ret)))) }
theorem a12_ok : genFunc Go.Proofs.Try.prog ⟨[(0, [0]), (1, [0, 6]), (2, [2]), (3, [0, 3]), (4, [0, 3, 10]), (6, [0, 3, 28]), (7, [2]), (5, [0, 3]), (8, [2])], [], false, [], [], [], false⟩ Go.Proofs.Try.f12 = some a12 := by kernel_rfl

def a13_L0 : ACode := (.seq (.seq (.rg [⟨some 6, none, .q (.mv (.t 4))⟩,
    ⟨some 7, none, .q (.mv (.t 0))⟩,
    ⟨some 8, none, .q (.len (.t 7))⟩,
    ⟨some 9, none, .q (.bin .lss .prim (.t 6) (.t 8))⟩] [0, 3, 4, 9])
  (.cond (.t 9) .skip (.exit 0)))
  (.seq (.block 1 (.seq (.rg [⟨some 12, none, .q (.mv (.t 0))⟩,
    ⟨some 13, none, .q (.mv (.t 4))⟩,
    ⟨some 14, none, .q (.ia 7 (.t 12) (.t 13))⟩,
    ⟨some 15, none, .q (.load (some 7) (.t 14))⟩,
    ⟨some 5, none, .alloc 7 (.agg [(.raw (.int .i64 0)), (.raw (.int .i64 0)), (.raw (.int .i64 0)), (.raw (.int .i64 0)), (.raw (.int .i64 0)), (.raw (.slice none 0 0)), (.raw (.slice none 0 0))])⟩,
    ⟨none, none, .store 7 (.t 5) (.t 15)⟩] [0, 3, 4, 5])
  (.rg [⟨some 16, none, .q (.mv (.t 3))⟩,
    ⟨some 17, none, .q (.fa 0 (.t 5))⟩,
    ⟨some 18, none, .q (.load none (.t 17))⟩,
    ⟨some 19, none, .q (.fa 1 (.t 5))⟩,
    ⟨some 20, none, .q (.load none (.t 19))⟩,
    ⟨some 21, none, .q (.fa 2 (.t 5))⟩,
    ⟨some 22, none, .q (.load none (.t 21))⟩,
    ⟨some 23, none, .q (.fa 3 (.t 5))⟩,
    ⟨some 24, none, .q (.load none (.t 23))⟩,
    ⟨some 25, none, .q (.fa 4 (.t 5))⟩,
    ⟨some 26, none, .q (.load none (.t 25))⟩,
    ⟨some 27, none, .q (.fa 5 (.t 5))⟩,
    ⟨some 28, none, .q (.load none (.t 27))⟩,
    ⟨some 29, none, .q (.fa 6 (.t 5))⟩,
    ⟨some 30, none, .q (.load none (.t 29))⟩,
    ⟨some 31, none, .q (.build [(.raw (.int .i64 0)), (.raw (.int .i64 0)), (.raw (.int .i64 0)), (.raw (.int .i64 0)), (.raw (.int .i64 0)), (.raw (.slice none 0 0)), (.raw (.slice none 0 0))] [(0, 1, (.t 18)), (1, 1, (.t 20)), (2, 1, (.t 22)), (3, 1, (.t 24)), (4, 1, (.t 26)), (5, 1, (.t 28)), (6, 1, (.t 30))])⟩,
    ⟨some 32, none, .bsl 7 1 (.agg [(.raw (.int .i64 0)), (.raw (.int .i64 0)), (.raw (.int .i64 0)), (.raw (.int .i64 0)), (.raw (.int .i64 0)), (.raw (.slice none 0 0)), (.raw (.slice none 0 0))]) [(0, (.t 31))]⟩,
    ⟨some 33, none, .app 7 88 (.t 16) (.t 32)⟩,
    ⟨some 3, none, .q (.mv (.t 33))⟩] [0, 3, 4])))
  (.rg [⟨some 10, none, .q (.mv (.t 4))⟩,
    ⟨some 11, none, .q (.bin .add .prim (.t 10) (.c (.raw (.int .i64 1))))⟩,
    ⟨some 4, none, .q (.mv (.t 11))⟩] [0, 3, 4])))
def a13 : AFunc := { n := 35, nparams := 1, res := [.tmp 2], body := (.seq (.rg [⟨some 2, none, .q (.mv (.c (.raw (.slice none 0 0))))⟩] [0])
  (.seq (.rg [⟨some 3, none, .q (.mv (.c (.raw (.slice none 0 0))))⟩] [0, 3])
  (.seq (.seq (.rg [⟨some 4, none, .q (.mv (.c (.raw (.int .i64 0))))⟩] [0, 3, 4])
  (.block 0 (.loop a13_L0)))
  (.seq (.rg [⟨some 34, none, .q (.mv (.t 3))⟩,
    ⟨some 2, none, .q (.mv (.t 34))⟩] [2])
  .ret)))) }
theorem a13_ok : genFunc Go.Proofs.Try.prog ⟨[(0, [0]), (1, [0, 3]), (2, [0, 3, 4]), (3, [0, 3, 4, 9]), (5, [0, 3, 4, 5]), (6, [0, 3, 4]), (4, [0, 3, 4]), (7, [2])], [], false, [], [], [], false⟩ Go.Proofs.Try.f13 = some a13 := by kernel_rfl

def a14 : AFunc := { n := 8, nparams := 1, res := [.cell 2 (some 2)], body := (.seq (.rg [⟨some 1, none, .box 2 (.t 0)⟩,
    ⟨some 2, none, .alloc 2 (.agg [(.raw (.slice none 0 0)), (.raw (.slice none 0 0))])⟩] [1, 2])
  (.seq (.rg [⟨some 3, none, .q (.fa 0 (.t 1))⟩,
    ⟨some 4, none, .q (.load none (.t 3))⟩,
    ⟨some 5, none, .q (.fa 1 (.t 1))⟩,
    ⟨some 6, none, .q (.load none (.t 5))⟩,
    ⟨some 7, none, .q (.build [(.raw (.slice none 0 0)), (.raw (.slice none 0 0))] [(0, 1, (.t 4)), (1, 1, (.t 6))])⟩,
    ⟨none, none, .store 2 (.t 2) (.t 7)⟩] [2])
  .ret)) }
theorem a14_ok : genFunc Go.Proofs.Try.prog ⟨[(0, [1, 2]), (1, [2])], [], false, [], [], [], false⟩ Go.Proofs.Try.f14 = some a14 := by kernel_rfl

def a15 : AFunc := { n := 17, nparams := 2, res := [.tmp 4], body := (.seq (.rg [⟨some 2, none, .box 2 (.t 0)⟩,
    ⟨some 3, none, .box 2 (.t 1)⟩,
    ⟨some 4, none, .q (.mv (.c (.raw (.bool false))))⟩] [2, 3])
  (.seq (.rg [⟨some 5, none, .q (.fa 0 (.t 2))⟩,
    ⟨some 6, none, .q (.load none (.t 5))⟩,
    ⟨some 7, none, .q (.fa 0 (.t 3))⟩,
    ⟨some 8, none, .q (.load none (.t 7))⟩,
    ⟨some 9, none, .call 29 [(.t 6), (.t 8), (.c (.fn 30 []))]⟩,
    ⟨some 10, none, .q (.mv (.t 9))⟩,
    ⟨some 11, some (10, true), .q (.fa 1 (.t 2))⟩,
    ⟨some 12, some (10, true), .q (.load none (.t 11))⟩,
    ⟨some 13, some (10, true), .q (.fa 1 (.t 3))⟩,
    ⟨some 14, some (10, true), .q (.load none (.t 13))⟩,
    ⟨some 15, some (10, true), .call 31 [(.t 12), (.t 14)]⟩,
    ⟨some 16, none, .q (.pick (.t 10) (.t 15) (.c (.raw (.bool false))))⟩,
    ⟨some 4, none, .q (.mv (.t 16))⟩] [4])
  .ret)) }
theorem a15_ok : genFunc Go.Proofs.Try.prog ⟨[(0, [2, 3]), (1, [4])], [], false, [], [], [], false⟩ Go.Proofs.Try.f15 = some a15 := by kernel_rfl

def a16_L0 : ACode := (.seq (.seq (.rg [⟨some 22, none, .q (.mv (.t 9))⟩,
    ⟨some 23, none, .q (.mv (.t 4))⟩,
    ⟨some 24, none, .q (.len (.t 23))⟩,
    ⟨some 25, none, .q (.bin .lss .prim (.t 22) (.t 24))⟩] [0, 3, 4, 5, 6, 7, 8, 9, 25])
  (.cond (.t 25) .skip (.exit 4)))
  (.seq (.block 5 (.rgs [[⟨some 28, none, .q (.mv (.t 8))⟩,
    ⟨some 29, none, .q (.mv (.t 28))⟩,
    ⟨some 30, some (29, false), .q (.mv (.t 4))⟩,
    ⟨some 31, some (29, false), .q (.mv (.t 9))⟩,
    ⟨some 32, some (29, false), .q (.ia 1 (.t 30) (.t 31))⟩,
    ⟨some 33, some (29, false), .q (.load none (.t 32))⟩,
    ⟨some 34, some (29, false), .q (.mv (.t 0))⟩,
    ⟨some 35, some (29, false), .q (.mv (.t 7))⟩,
    ⟨some 36, some (29, false), .q (.ia 7 (.t 34) (.t 35))⟩,
    ⟨some 37, some (29, false), .q (.fa 1 (.t 36))⟩,
    ⟨some 38, some (29, false), .q (.load none (.t 37))⟩,
    ⟨some 39, some (29, false), .q (.bin .eql .prim (.t 33) (.t 38))⟩,
    ⟨some 40, none, .q (.pick (.t 29) (.c (.raw (.bool true))) (.t 39))⟩,
    ⟨some 8, none, .q (.mv (.t 40))⟩]] [0, 3, 4, 5, 6, 7, 8, 9]))
  (.rg [⟨some 26, none, .q (.mv (.t 9))⟩,
    ⟨some 27, none, .q (.bin .add .prim (.t 26) (.c (.raw (.int .i64 1))))⟩,
    ⟨some 9, none, .q (.mv (.t 27))⟩] [0, 3, 4, 5, 6, 7, 8, 9])))
def a16_L1 : ACode := (.seq (.seq (.rg [⟨some 16, none, .q (.mv (.t 7))⟩,
    ⟨some 17, none, .q (.mv (.t 0))⟩,
    ⟨some 18, none, .q (.len (.t 17))⟩,
    ⟨some 19, none, .q (.bin .lss .prim (.t 16) (.t 18))⟩] [0, 3, 4, 5, 6, 7, 19])
  (.cond (.t 19) .skip (.exit 2)))
  (.seq (.block 3 (.seq (.rg [⟨some 8, none, .q (.mv (.c (.raw (.bool false))))⟩] [0, 3, 4, 5, 6, 7, 8])
  (.seq (.seq (.rg [⟨some 9, none, .q (.mv (.c (.raw (.int .i64 0))))⟩] [0, 3, 4, 5, 6, 7, 8, 9])
  (.block 4 (.loop a16_L0)))
  (.seq (.rgs [[⟨some 41, none, .q (.mv (.t 8))⟩,
    ⟨some 42, none, .q (.un .not (.t 41))⟩,
    ⟨some 43, none, .q (.mv (.t 42))⟩,
    ⟨some 44, some (43, true), .q (.mv (.t 6))⟩,
    ⟨some 45, some (43, true), .q (.bin .lss .prim (.t 44) (.c (.raw (.int .i64 0))))⟩,
    ⟨some 46, some (43, true), .q (.mv (.t 45))⟩,
    ⟨some 47, some (46, false), .q (.mv (.t 0))⟩,
    ⟨some 48, some (46, false), .q (.mv (.t 7))⟩,
    ⟨some 49, some (46, false), .q (.ia 7 (.t 47) (.t 48))⟩,
    ⟨some 50, some (46, false), .q (.fa 1 (.t 49))⟩,
    ⟨some 51, some (46, false), .q (.load none (.t 50))⟩,
    ⟨some 52, some (46, false), .q (.mv (.t 0))⟩,
    ⟨some 53, some (46, false), .q (.mv (.t 6))⟩,
    ⟨some 54, some (46, false), .q (.ia 7 (.t 52) (.t 53))⟩,
    ⟨some 55, some (46, false), .q (.fa 1 (.t 54))⟩,
    ⟨some 56, some (46, false), .q (.load none (.t 55))⟩,
    ⟨some 57, some (46, false), .q (.bin .lss .prim (.t 51) (.t 56))⟩,
    ⟨some 58, some (43, true), .q (.pick (.t 46) (.c (.raw (.bool true))) (.t 57))⟩,
    ⟨some 59, none, .q (.pick (.t 43) (.t 58) (.c (.raw (.bool false))))⟩]] [0, 3, 4, 5, 6, 7, 59])
  (.cond (.t 59) (.rg [⟨some 60, none, .q (.mv (.t 7))⟩,
    ⟨some 6, none, .q (.mv (.t 60))⟩] [0, 3, 4, 5, 6, 7]) .skip)))))
  (.rg [⟨some 20, none, .q (.mv (.t 7))⟩,
    ⟨some 21, none, .q (.bin .add .prim (.t 20) (.c (.raw (.int .i64 1))))⟩,
    ⟨some 7, none, .q (.mv (.t 21))⟩] [0, 3, 4, 5, 6, 7])))
def a16_L2 : ACode := (.seq (.seq (.rg [⟨some 10, none, .q (.mv (.t 5))⟩,
    ⟨some 11, none, .q (.mv (.t 0))⟩,
    ⟨some 12, none, .q (.len (.t 11))⟩,
    ⟨some 13, none, .q (.bin .lss .prim (.t 10) (.t 12))⟩] [0, 3, 4, 5, 13])
  (.cond (.t 13) .skip (.exit 0)))
  (.seq (.block 1 (.seq (.rg [⟨some 6, none, .q (.mv (.c (.raw (.int .i64 (-1)))))⟩] [0, 3, 4, 5, 6])
  (.seq (.seq (.rg [⟨some 7, none, .q (.mv (.c (.raw (.int .i64 0))))⟩] [0, 3, 4, 5, 6, 7])
  (.block 2 (.loop a16_L1)))
  (.seq (.seq (.rg [⟨some 61, none, .q (.mv (.t 6))⟩,
    ⟨some 62, none, .q (.bin .lss .prim (.t 61) (.c (.raw (.int .i64 0))))⟩] [0, 3, 4, 5, 6, 62])
  (.cond (.t 62) (.exit 0) .skip))
  (.seq (.rg [⟨some 63, none, .q (.mv (.t 4))⟩,
    ⟨some 64, none, .q (.mv (.t 0))⟩,
    ⟨some 65, none, .q (.mv (.t 6))⟩,
    ⟨some 66, none, .q (.ia 7 (.t 64) (.t 65))⟩,
    ⟨some 67, none, .q (.fa 1 (.t 66))⟩,
    ⟨some 68, none, .q (.load none (.t 67))⟩,
    ⟨some 69, none, .bsl 1 1 (.raw (.int .i64 0)) [(0, (.t 68))]⟩,
    ⟨some 70, none, .app 1 8 (.t 63) (.t 69)⟩,
    ⟨some 4, none, .q (.mv (.t 70))⟩] [0, 3, 4, 5, 6])
  (.rg [⟨some 71, none, .q (.mv (.t 3))⟩,
    ⟨some 72, none, .q (.mv (.t 0))⟩,
    ⟨some 73, none, .q (.mv (.t 0))⟩,
    ⟨some 74, none, .q (.mv (.t 6))⟩,
    ⟨some 75, none, .q (.ia 7 (.t 73) (.t 74))⟩,
    ⟨some 76, none, .q (.fa 1 (.t 75))⟩,
    ⟨some 77, none, .q (.load none (.t 76))⟩,
    ⟨some 78, none, .call 32 [(.t 72), (.t 77), (.c (.raw (.int .i64 (-1))))]⟩,
    ⟨some 79, none, .app 7 88 (.t 71) (.t 78)⟩,
    ⟨some 3, none, .q (.mv (.t 79))⟩] [0, 3, 4, 5]))))))
  (.rg [⟨some 14, none, .q (.mv (.t 5))⟩,
    ⟨some 15, none, .q (.bin .add .prim (.t 14) (.c (.raw (.int .i64 1))))⟩,
    ⟨some 5, none, .q (.mv (.t 15))⟩] [0, 3, 4, 5])))
def a16 : AFunc := { n := 81, nparams := 1, res := [.tmp 2], body := (.seq (.rg [⟨some 2, none, .q (.mv (.c (.raw (.slice none 0 0))))⟩] [0])
  (.seq (.rg [⟨some 3, none, .q (.mv (.c (.raw (.slice none 0 0))))⟩] [0, 3])
  (.seq (.rg [⟨some 4, none, .q (.mv (.c (.raw (.slice none 0 0))))⟩] [0, 3, 4])
  (.seq (.seq (.rg [⟨some 5, none, .q (.mv (.c (.raw (.int .i64 0))))⟩] [0, 3, 4, 5])
  (.block 0 (.loop a16_L2)))
  (.seq (.rg [⟨some 80, none, .q (.mv (.t 3))⟩,
    ⟨some 2, none, .q (.mv (.t 80))⟩] [2])
  .ret))))) }
theorem a16_ok : genFunc Go.Proofs.Try.prog ⟨[(0, [0]), (1, [0, 3]), (2, [0, 3, 4]), (3, [0, 3, 4, 5]), (4, [0, 3, 4, 5, 13]), (6, [0, 3, 4, 5, 6]), (7, [0, 3, 4, 5, 6, 7]), (8, [0, 3, 4, 5, 6, 7, 19]), (10, [0, 3, 4, 5, 6, 7, 8]), (11, [0, 3, 4, 5, 6, 7, 8, 9]), (12, [0, 3, 4, 5, 6, 7, 8, 9, 25]), (14, [0, 3, 4, 5, 6, 7, 8, 9]), (13, [0, 3, 4, 5, 6, 7, 8, 9]), (15, [0, 3, 4, 5, 6, 7, 59]), (16, [0, 3, 4, 5, 6, 7]), (9, [0, 3, 4, 5, 6, 7]), (17, [0, 3, 4, 5, 6, 62]), (18, [0, 3, 4, 5, 6]), (19, [0, 3, 4, 5]), (5, [0, 3, 4, 5]), (20, [2])], [], false, [], [], [], false⟩ Go.Proofs.Try.f16 = some a16 := by kernel_rfl

def a17_L0 : ACode := (.seq (.seq (.rg [⟨some 23, none, .q (.mv (.t 8))⟩,
    ⟨some 24, none, .q (.mv (.t 1))⟩,
    ⟨some 25, none, .q (.len (.t 24))⟩,
    ⟨some 26, none, .q (.bin .lss .prim (.t 23) (.t 25))⟩] [1, 4, 6, 7, 8, 26])
  (.cond (.t 26) .skip (.exit 0)))
  (.seq (.block 1 (.seq (.rg [⟨some 29, none, .q (.mv (.t 1))⟩,
    ⟨some 30, none, .q (.mv (.t 8))⟩,
    ⟨some 31, none, .q (.ia 7 (.t 29) (.t 30))⟩,
    ⟨some 32, none, .q (.load (some 7) (.t 31))⟩,
    ⟨some 9, none, .alloc 7 (.agg [(.raw (.int .i64 0)), (.raw (.int .i64 0)), (.raw (.int .i64 0)), (.raw (.int .i64 0)), (.raw (.int .i64 0)), (.raw (.slice none 0 0)), (.raw (.slice none 0 0))])⟩,
    ⟨none, none, .store 7 (.t 9) (.t 32)⟩] [1, 4, 6, 7, 8, 9])
  (.seq (.rg [⟨some 33, none, .q (.fa 3 (.t 9))⟩,
    ⟨some 34, none, .q (.load none (.t 33))⟩,
    ⟨some 35, none, .q (.bin .geq .prim (.t 34) (.c (.raw (.int .i64 0))))⟩,
    ⟨some 36, none, .q (.mv (.t 35))⟩,
    ⟨some 37, some (36, true), .q (.fa 3 (.t 9))⟩,
    ⟨some 38, some (36, true), .q (.load none (.t 37))⟩,
    ⟨some 39, some (36, true), .q (.fa 0 (.t 6))⟩,
    ⟨some 40, some (36, true), .q (.load none (.t 39))⟩,
    ⟨some 41, some (36, true), .q (.len (.t 40))⟩,
    ⟨some 42, some (36, true), .q (.bin .lss .prim (.t 38) (.t 41))⟩,
    ⟨some 43, none, .q (.pick (.t 36) (.t 42) (.c (.raw (.bool false))))⟩,
    ⟨some 10, none, .q (.mv (.t 43))⟩] [1, 4, 6, 7, 8, 9, 10])
  (.seq (.rg [⟨some 44, none, .q (.fa 3 (.t 9))⟩,
    ⟨some 45, none, .q (.load none (.t 44))⟩,
    ⟨some 46, none, .q (.bin .geq .prim (.t 45) (.c (.raw (.int .i64 0))))⟩,
    ⟨some 47, none, .q (.mv (.t 46))⟩,
    ⟨some 48, some (47, true), .q (.fa 3 (.t 9))⟩,
    ⟨some 49, some (47, true), .q (.load none (.t 48))⟩,
    ⟨some 50, some (47, true), .q (.fa 1 (.t 6))⟩,
    ⟨some 51, some (47, true), .q (.load none (.t 50))⟩,
    ⟨some 52, some (47, true), .q (.len (.t 51))⟩,
    ⟨some 53, some (47, true), .q (.bin .lss .prim (.t 49) (.t 52))⟩,
    ⟨some 54, none, .q (.pick (.t 47) (.t 53) (.c (.raw (.bool false))))⟩,
    ⟨some 11, none, .q (.mv (.t 54))⟩] [1, 4, 6, 7, 8, 9, 10, 11])
  (.seq (.rg [⟨some 12, none, .q (.mv (.c (.raw (.bool true))))⟩] [1, 4, 6, 7, 8, 9, 10, 11, 12])
  (.seq (.seq (.rg [⟨some 55, none, .q (.fa 0 (.t 9))⟩,
    ⟨some 56, none, .q (.load none (.t 55))⟩] [1, 4, 6, 7, 8, 9, 10, 11, 12, 56])
  (.block 2 (.seq (.rg [⟨some 58, none, .q (.bin .eql .prim (.t 56) (.c (.raw (.int .i64 4))))⟩,
    ⟨some 57, none, .q (.mv (.t 58))⟩] [1, 4, 6, 7, 8, 9, 10, 11, 12, 56, 57])
  (.cond (.t 57) (.rgs [[⟨some 59, none, .q (.mv (.t 10))⟩,
    ⟨some 60, none, .q (.mv (.t 59))⟩,
    ⟨some 61, some (60, true), .q (.fa 0 (.t 6))⟩,
    ⟨some 62, some (60, true), .q (.load none (.t 61))⟩,
    ⟨some 63, some (60, true), .q (.fa 3 (.t 9))⟩,
    ⟨some 64, some (60, true), .q (.load none (.t 63))⟩,
    ⟨some 65, some (60, true), .q (.ia 1 (.t 62) (.t 64))⟩,
    ⟨some 66, some (60, true), .q (.load none (.t 65))⟩,
    ⟨some 67, some (60, true), .q (.b2s (.t 66))⟩,
    ⟨some 68, some (60, true), .q (.fa 5 (.t 9))⟩,
    ⟨some 69, some (60, true), .q (.load none (.t 68))⟩,
    ⟨some 70, some (60, true), .q (.b2s (.t 69))⟩,
    ⟨some 71, some (60, true), .q (.bin .eql .prim (.t 67) (.t 70))⟩,
    ⟨some 72, none, .q (.pick (.t 60) (.t 71) (.c (.raw (.bool false))))⟩,
    ⟨some 12, none, .q (.mv (.t 72))⟩]] [1, 4, 6, 7, 8, 12]) (.seq (.rg [⟨some 74, none, .q (.bin .eql .prim (.t 56) (.c (.raw (.int .i64 5))))⟩,
    ⟨some 73, none, .q (.mv (.t 74))⟩] [1, 4, 6, 7, 8, 9, 10, 11, 12, 56, 73])
  (.cond (.t 73) (.seq (.rg [⟨some 75, none, .q (.mv (.t 10))⟩] [1, 4, 6, 7, 8, 9, 12, 75])
  (.cond (.t 75) (.seq (.rg [⟨some 76, none, .bsl 1 0 (.raw (.int .u8 0)) []⟩,
    ⟨some 77, none, .q (.fa 5 (.t 9))⟩,
    ⟨some 78, none, .q (.load none (.t 77))⟩,
    ⟨some 79, none, .app 1 1 (.t 76) (.t 78)⟩,
    ⟨some 13, none, .q (.mv (.t 79))⟩] [1, 4, 6, 7, 8, 9, 12, 13])
  (.seq (.seq (.rg [⟨some 80, none, .q (.mv (.t 13))⟩,
    ⟨some 81, none, .appz 1 1 (.raw (.int .u8 0)) (.t 80) (.c (.raw (.int .i64 32)))⟩,
    ⟨some 13, none, .q (.mv (.t 81))⟩] [1, 4, 6, 7, 8, 9, 12, 13])
  .gh)
  (.rgs [[⟨some 82, none, .q (.fa 0 (.t 6))⟩,
    ⟨some 83, none, .q (.load none (.t 82))⟩,
    ⟨some 84, none, .q (.fa 3 (.t 9))⟩,
    ⟨some 85, none, .q (.load none (.t 84))⟩,
    ⟨some 86, none, .q (.mv (.t 13))⟩,
    ⟨some 87, none, .q (.sub 1 (.t 86) none (some (.c (.raw (.int .i64 32)))) none)⟩,
    ⟨some 88, none, .q (.ia 1 (.t 83) (.t 85))⟩,
    ⟨none, none, .store 1 (.t 88) (.t 87)⟩]] [1, 4, 6, 7, 8, 12]))) .skip)) (.seq (.rg [⟨some 90, none, .q (.bin .eql .prim (.t 56) (.c (.raw (.int .i64 6))))⟩,
    ⟨some 89, none, .q (.mv (.t 90))⟩] [1, 4, 6, 7, 8, 9, 11, 12, 56, 89])
  (.cond (.t 89) (.seq (.rg [⟨some 91, none, .q (.mv (.t 11))⟩] [1, 4, 6, 7, 8, 9, 12, 91])
  (.cond (.t 91) (.rgs [[⟨some 92, none, .q (.fa 1 (.t 6))⟩,
    ⟨some 93, none, .q (.load none (.t 92))⟩,
    ⟨some 94, none, .q (.fa 3 (.t 9))⟩,
    ⟨some 95, none, .q (.load none (.t 94))⟩,
    ⟨some 96, none, .q (.fa 1 (.t 6))⟩,
    ⟨some 97, none, .q (.load none (.t 96))⟩,
    ⟨some 98, none, .q (.fa 3 (.t 9))⟩,
    ⟨some 99, none, .q (.load none (.t 98))⟩,
    ⟨some 100, none, .q (.ia 1 (.t 97) (.t 99))⟩,
    ⟨some 101, none, .q (.load none (.t 100))⟩,
    ⟨some 102, none, .q (.fa 4 (.t 9))⟩,
    ⟨some 103, none, .q (.load none (.t 102))⟩,
    ⟨some 104, none, .q (.bin .add .prim (.t 101) (.t 103))⟩,
    ⟨some 105, none, .q (.ia 1 (.t 93) (.t 95))⟩,
    ⟨none, none, .store 1 (.t 105) (.t 104)⟩]] [1, 4, 6, 7, 8, 12]) .skip)) (.seq (.rg [⟨some 107, none, .q (.bin .eql .prim (.t 56) (.c (.raw (.int .i64 7))))⟩,
    ⟨some 106, none, .q (.mv (.t 107))⟩] [1, 4, 6, 7, 8, 9, 11, 12, 106])
  (.cond (.t 106) (.rgs [[⟨some 108, none, .q (.mv (.t 11))⟩,
    ⟨some 109, none, .q (.mv (.t 108))⟩,
    ⟨some 110, some (109, true), .q (.fa 1 (.t 6))⟩,
    ⟨some 111, some (109, true), .q (.load none (.t 110))⟩,
    ⟨some 112, some (109, true), .q (.fa 3 (.t 9))⟩,
    ⟨some 113, some (109, true), .q (.load none (.t 112))⟩,
    ⟨some 114, some (109, true), .q (.ia 1 (.t 111) (.t 113))⟩,
    ⟨some 115, some (109, true), .q (.load none (.t 114))⟩,
    ⟨some 116, some (109, true), .q (.fa 4 (.t 9))⟩,
    ⟨some 117, some (109, true), .q (.load none (.t 116))⟩,
    ⟨some 118, some (109, true), .q (.bin .eql .prim (.t 115) (.t 117))⟩,
    ⟨some 119, none, .q (.pick (.t 109) (.t 118) (.c (.raw (.bool false))))⟩,
    ⟨some 12, none, .q (.mv (.t 119))⟩]] [1, 4, 6, 7, 8, 12]) .skip))))))))))
  (.seq (.rg [⟨some 120, none, .q (.mv (.t 12))⟩,
    ⟨some 121, none, .q (.un .not (.t 120))⟩,
    ⟨some 122, none, .q (.mv (.t 121))⟩,
    ⟨some 123, some (122, true), .q (.mv (.t 7))⟩,
    ⟨some 124, some (122, true), .q (.bin .lss .prim (.t 123) (.c (.raw (.int .i64 0))))⟩,
    ⟨some 125, none, .q (.pick (.t 122) (.t 124) (.c (.raw (.bool false))))⟩] [1, 4, 6, 7, 8, 125])
  (.cond (.t 125) (.rg [⟨some 126, none, .q (.mv (.t 8))⟩,
    ⟨some 7, none, .q (.mv (.t 126))⟩] [1, 4, 6, 7, 8]) .skip))))))))
  (.rg [⟨some 27, none, .q (.mv (.t 8))⟩,
    ⟨some 28, none, .q (.bin .add .prim (.t 27) (.c (.raw (.int .i64 1))))⟩,
    ⟨some 8, none, .q (.mv (.t 28))⟩] [1, 4, 6, 7, 8])))
def a17 : AFunc := { n := 129, nparams := 2, res := [.cell 4 (some 2), .tmp 5], body := (.seq (.rg [⟨some 2, none, .box 2 (.t 0)⟩,
    ⟨some 4, none, .alloc 2 (.agg [(.raw (.slice none 0 0)), (.raw (.slice none 0 0))])⟩,
    ⟨some 5, none, .q (.mv (.c (.raw (.int .i64 0))))⟩] [1, 2, 4])
  (.seq (.rgs [[⟨some 15, none, .q (.fa 0 (.t 2))⟩,
    ⟨some 16, none, .q (.load none (.t 15))⟩,
    ⟨some 19, none, .q (.fa 1 (.t 2))⟩,
    ⟨some 20, none, .q (.load none (.t 19))⟩,
    ⟨some 14, none, .bsl 1 0 (.raw (.slice none 0 0)) []⟩,
    ⟨some 17, none, .appn 1 24 (.t 14) (.t 16)⟩,
    ⟨some 18, none, .bsl 1 0 (.raw (.int .i64 0)) []⟩,
    ⟨some 21, none, .appn 1 8 (.t 18) (.t 20)⟩,
    ⟨some 22, none, .q (.build [(.raw (.slice none 0 0)), (.raw (.slice none 0 0))] [(0, 1, (.t 17)), (1, 1, (.t 21))])⟩,
    ⟨some 6, none, .alloc 2 (.agg [(.raw (.slice none 0 0)), (.raw (.slice none 0 0))])⟩,
    ⟨none, none, .store 2 (.t 6) (.t 22)⟩]] [1, 4, 6])
  (.seq (.rg [⟨some 7, none, .q (.mv (.c (.raw (.int .i64 (-1)))))⟩] [1, 4, 6, 7])
  (.seq (.seq (.rg [⟨some 8, none, .q (.mv (.c (.raw (.int .i64 0))))⟩] [1, 4, 6, 7, 8])
  (.block 0 (.loop a17_L0)))
  (.seq (.rg [⟨some 127, none, .q (.load (some 2) (.t 6))⟩,
    ⟨some 128, none, .q (.mv (.t 7))⟩,
    ⟨none, none, .store 2 (.t 4) (.t 127)⟩,
    ⟨some 5, none, .q (.mv (.t 128))⟩] [4, 5])
  .ret))))) }
theorem a17_ok : genFunc Go.Proofs.Try.prog ⟨[(0, [1, 2, 4]), (1, [1, 4, 6]), (2, [1, 4, 6, 7]), (3, [1, 4, 6, 7, 8]), (4, [1, 4, 6, 7, 8, 26]), (6, [1, 4, 6, 7, 8, 9]), (7, [1, 4, 6, 7, 8, 9, 10]), (8, [1, 4, 6, 7, 8, 9, 10, 11]), (9, [1, 4, 6, 7, 8, 9, 10, 11, 12]), (10, [1, 4, 6, 7, 8, 9, 10, 11, 12, 56]), (11, [1, 4, 6, 7, 8, 9, 10, 11, 12, 56, 57]), (12, [1, 4, 6, 7, 8, 12]), (13, [1, 4, 6, 7, 8, 9, 10, 11, 12, 56, 73]), (14, [1, 4, 6, 7, 8, 9, 12, 75]), (15, [1, 4, 6, 7, 8, 9, 12, 13]), (16, [1, 4, 6, 7, 8, 9, 12, 13]), (17, [1, 4, 6, 7, 8, 12]), (18, [1, 4, 6, 7, 8, 9, 11, 12, 56, 89]), (19, [1, 4, 6, 7, 8, 9, 12, 91]), (20, [1, 4, 6, 7, 8, 12]), (21, [1, 4, 6, 7, 8, 9, 11, 12, 106]), (22, [1, 4, 6, 7, 8, 12]), (23, [1, 4, 6, 7, 8, 125]), (24, [1, 4, 6, 7, 8]), (5, [1, 4, 6, 7, 8]), (25, [4, 5])], [], false, [(1, [[1, 2, 5, 6, 0, 3, 4, 7, 8, 9, 10]])], [16], [], false⟩ Go.Proofs.Try.f17 = some a17 := by kernel_rfl

def a18 : AFunc := { n := 13, nparams := 3, res := [.tmp 6], body := (.seq (.rg [⟨some 6, none, .q (.mv (.c (.raw (.bool false))))⟩] [0, 1, 2])
  (.seq (.rg [⟨some 7, none, .q (.mv (.t 0))⟩,
    ⟨some 8, none, .call 27 [(.t 7)]⟩,
    ⟨some 9, none, .q (.mv (.t 1))⟩,
    ⟨some 10, none, .q (.mv (.t 2))⟩,
    ⟨some 11, none, .q (.build [(.raw (.int .i64 0)), (.raw (.int .i64 0))] [(0, 1, (.t 9)), (1, 1, (.t 10))])⟩,
    ⟨some 12, none, .call 33 [(.t 8), (.t 11)]⟩,
    ⟨some 6, none, .q (.mv (.t 12))⟩] [6])
  .ret)) }
theorem a18_ok : genFunc Go.Proofs.Try.prog ⟨[(0, [0, 1, 2]), (1, [6])], [], false, [], [], [], false⟩ Go.Proofs.Try.f18 = some a18 := by kernel_rfl

def a19_L0 : ACode := (.seq (.seq (.rg [⟨some 9, none, .q (.mv (.t 7))⟩,
    ⟨some 10, none, .q (.mv (.t 0))⟩,
    ⟨some 11, none, .q (.len (.t 10))⟩,
    ⟨some 12, none, .q (.bin .leq .prim (.t 9) (.t 11))⟩] [0, 1, 2, 7, 12])
  (.cond (.t 12) .skip (.exit 0)))
  (.seq (.block 1 (.seq (.rg [⟨some 15, none, .q (.mv (.t 0))⟩,
    ⟨some 16, none, .q (.mv (.t 1))⟩,
    ⟨some 17, none, .q (.mv (.t 2))⟩,
    ⟨some 18, none, .call 34 [(.t 15), (.t 16), (.t 17)]⟩,
    ⟨some 8, none, .q (.mv (.t 18))⟩] [0, 1, 2, 7, 8])
  (.seq (.seq (.rg [⟨some 19, none, .q (.mv (.t 2))⟩,
    ⟨some 20, none, .q (.bin .lss .prim (.t 19) (.c (.raw (.int .i64 0))))⟩,
    ⟨some 21, none, .q (.mv (.t 20))⟩,
    ⟨some 22, some (21, false), .q (.mv (.t 8))⟩,
    ⟨some 23, some (21, false), .q (.bin .lss .prim (.t 22) (.c (.raw (.int .i64 0))))⟩,
    ⟨some 24, none, .q (.pick (.t 21) (.c (.raw (.bool true))) (.t 23))⟩,
    ⟨some 25, none, .q (.mv (.t 24))⟩,
    ⟨some 26, some (25, false), .q (.mv (.t 0))⟩,
    ⟨some 27, some (25, false), .q (.mv (.t 1))⟩,
    ⟨some 28, some (25, false), .q (.mv (.t 2))⟩,
    ⟨some 29, some (25, false), .call 35 [(.t 26), (.t 27), (.t 28)]⟩,
    ⟨some 30, some (25, false), .q (.bin .lss .prim (.t 29) (.c (.raw (.int .i64 0))))⟩,
    ⟨some 31, none, .q (.pick (.t 25) (.c (.raw (.bool true))) (.t 30))⟩,
    ⟨some 32, none, .q (.mv (.t 31))⟩,
    ⟨some 33, some (32, false), .q (.mv (.t 0))⟩,
    ⟨some 34, some (32, false), .q (.mv (.t 1))⟩,
    ⟨some 35, some (32, false), .q (.mv (.t 2))⟩,
    ⟨some 36, some (32, false), .call 36 [(.t 33), (.t 34), (.t 35)]⟩,
    ⟨some 37, none, .q (.pick (.t 32) (.c (.raw (.bool true))) (.t 36))⟩] [0, 1, 7, 8, 37])
  (.cond (.t 37) (.seq (.rg [⟨some 6, none, .q (.mv (.c (.raw (.bool false))))⟩] [6])
  .ret) .skip))
  (.seq (.seq (.rg [⟨some 38, none, .q (.mv (.t 0))⟩,
    ⟨some 39, none, .q (.mv (.t 8))⟩,
    ⟨some 40, none, .q (.ia 7 (.t 38) (.t 39))⟩,
    ⟨some 41, none, .q (.fa 3 (.t 40))⟩,
    ⟨some 42, none, .q (.load none (.t 41))⟩,
    ⟨some 43, none, .q (.bin .eql .prim (.t 42) (.c (.raw (.int .i64 (-1)))))⟩] [0, 1, 7, 8, 43])
  (.cond (.t 43) (.seq (.rg [⟨some 6, none, .q (.mv (.c (.raw (.bool true))))⟩] [6])
  .ret) .skip))
  (.rg [⟨some 44, none, .q (.mv (.t 0))⟩,
    ⟨some 45, none, .q (.mv (.t 8))⟩,
    ⟨some 46, none, .q (.ia 7 (.t 44) (.t 45))⟩,
    ⟨some 47, none, .q (.fa 3 (.t 46))⟩,
    ⟨some 48, none, .q (.load none (.t 47))⟩,
    ⟨some 2, none, .q (.mv (.t 48))⟩] [0, 1, 2, 7])))))
  (.rg [⟨some 13, none, .q (.mv (.t 7))⟩,
    ⟨some 14, none, .q (.bin .add .prim (.t 13) (.c (.raw (.int .i64 1))))⟩,
    ⟨some 7, none, .q (.mv (.t 14))⟩] [0, 1, 2, 7])))
def a19 : AFunc := { n := 49, nparams := 3, res := [.tmp 6], body := (.seq (.rg [⟨some 6, none, .q (.mv (.c (.raw (.bool false))))⟩] [0, 1, 2])
  (.seq (.seq (.rg [⟨some 7, none, .q (.mv (.c (.raw (.int .i64 0))))⟩] [0, 1, 2, 7])
  (.block 0 (.loop a19_L0)))
  (.seq (.rg [⟨some 6, none, .q (.mv (.c (.raw (.bool false))))⟩] [6])
  .ret))) }
theorem a19_ok : genFunc Go.Proofs.Try.prog ⟨[(0, [0, 1, 2]), (1, [0, 1, 2, 7]), (2, [0, 1, 2, 7, 12]), (4, [0, 1, 2, 7, 8]), (5, [0, 1, 7, 8, 37]), (6, [6]), (7, [0, 1, 7, 8, 43]), (8, [6]), (9, [0, 1, 2, 7]), (3, [0, 1, 2, 7]), (10, [6])], [], false, [], [], [], false⟩ Go.Proofs.Try.f19 = some a19 := by kernel_rfl

def a20_L0 : ACode := (.seq (.seq (.rg [⟨some 13, none, .q (.mv (.t 5))⟩,
    ⟨some 14, none, .q (.mv (.t 0))⟩,
    ⟨some 15, none, .q (.len (.t 14))⟩,
    ⟨some 16, none, .q (.bin .lss .prim (.t 13) (.t 15))⟩] [0, 1, 5, 16])
  (.cond (.t 16) .skip (.exit 0)))
  (.seq (.block 1 (.seq (.rg [⟨some 19, none, .q (.mv (.t 0))⟩,
    ⟨some 20, none, .q (.mv (.t 5))⟩,
    ⟨some 21, none, .q (.ia 7 (.t 19) (.t 20))⟩,
    ⟨some 22, none, .q (.load (some 7) (.t 21))⟩,
    ⟨some 6, none, .alloc 7 (.agg [(.raw (.int .i64 0)), (.raw (.int .i64 0)), (.raw (.int .i64 0)), (.raw (.int .i64 0)), (.raw (.int .i64 0)), (.raw (.slice none 0 0)), (.raw (.slice none 0 0))])⟩,
    ⟨none, none, .store 7 (.t 6) (.t 22)⟩] [0, 1, 5, 6])
  (.seq (.rg [⟨some 23, none, .q (.mv (.t 1))⟩,
    ⟨some 24, none, .q (.mv (.t 5))⟩,
    ⟨some 25, none, .q (.ia 7 (.t 23) (.t 24))⟩,
    ⟨some 26, none, .q (.load (some 7) (.t 25))⟩,
    ⟨some 7, none, .alloc 7 (.agg [(.raw (.int .i64 0)), (.raw (.int .i64 0)), (.raw (.int .i64 0)), (.raw (.int .i64 0)), (.raw (.int .i64 0)), (.raw (.slice none 0 0)), (.raw (.slice none 0 0))])⟩,
    ⟨none, none, .store 7 (.t 7) (.t 26)⟩] [0, 1, 5, 6, 7])
  (.seq (.rg [⟨some 27, none, .q (.fa 0 (.t 6))⟩,
    ⟨some 28, none, .q (.load none (.t 27))⟩,
    ⟨some 29, none, .q (.fa 0 (.t 7))⟩,
    ⟨some 30, none, .q (.load none (.t 29))⟩,
    ⟨some 31, none, .q (.bin .neq .prim (.t 28) (.t 30))⟩,
    ⟨some 32, none, .q (.mv (.t 31))⟩,
    ⟨some 33, some (32, false), .q (.fa 1 (.t 6))⟩,
    ⟨some 34, some (32, false), .q (.load none (.t 33))⟩,
    ⟨some 35, some (32, false), .q (.fa 1 (.t 7))⟩,
    ⟨some 36, some (32, false), .q (.load none (.t 35))⟩,
    ⟨some 37, some (32, false), .q (.bin .neq .prim (.t 34) (.t 36))⟩,
    ⟨some 38, none, .q (.pick (.t 32) (.c (.raw (.bool true))) (.t 37))⟩,
    ⟨some 39, none, .q (.mv (.t 38))⟩,
    ⟨some 40, some (39, false), .q (.fa 2 (.t 6))⟩,
    ⟨some 41, some (39, false), .q (.load none (.t 40))⟩,
    ⟨some 42, some (39, false), .q (.fa 2 (.t 7))⟩,
    ⟨some 43, some (39, false), .q (.load none (.t 42))⟩,
    ⟨some 44, some (39, false), .q (.bin .neq .prim (.t 41) (.t 43))⟩,
    ⟨some 45, none, .q (.pick (.t 39) (.c (.raw (.bool true))) (.t 44))⟩,
    ⟨some 46, none, .q (.mv (.t 45))⟩,
    ⟨some 47, some (46, false), .q (.fa 3 (.t 6))⟩,
    ⟨some 48, some (46, false), .q (.load none (.t 47))⟩,
    ⟨some 49, some (46, false), .q (.fa 3 (.t 7))⟩,
    ⟨some 50, some (46, false), .q (.load none (.t 49))⟩,
    ⟨some 51, some (46, false), .q (.bin .neq .prim (.t 48) (.t 50))⟩,
    ⟨some 52, none, .q (.pick (.t 46) (.c (.raw (.bool true))) (.t 51))⟩,
    ⟨some 53, none, .q (.mv (.t 52))⟩,
    ⟨some 54, some (53, false), .q (.fa 4 (.t 6))⟩,
    ⟨some 55, some (53, false), .q (.load none (.t 54))⟩,
    ⟨some 56, some (53, false), .q (.fa 4 (.t 7))⟩,
    ⟨some 57, some (53, false), .q (.load none (.t 56))⟩,
    ⟨some 58, some (53, false), .q (.bin .neq .prim (.t 55) (.t 57))⟩,
    ⟨some 59, none, .q (.pick (.t 53) (.c (.raw (.bool true))) (.t 58))⟩,
    ⟨some 60, none, .q (.mv (.t 59))⟩,
    ⟨some 61, some (60, false), .q (.fa 5 (.t 6))⟩,
    ⟨some 62, some (60, false), .q (.load none (.t 61))⟩,
    ⟨some 63, some (60, false), .q (.b2s (.t 62))⟩,
    ⟨some 64, some (60, false), .q (.fa 5 (.t 7))⟩,
    ⟨some 65, some (60, false), .q (.load none (.t 64))⟩,
    ⟨some 66, some (60, false), .q (.b2s (.t 65))⟩,
    ⟨some 67, some (60, false), .q (.bin .neq .prim (.t 63) (.t 66))⟩,
    ⟨some 68, none, .q (.pick (.t 60) (.c (.raw (.bool true))) (.t 67))⟩,
    ⟨some 69, none, .q (.mv (.t 68))⟩,
    ⟨some 70, some (69, false), .q (.fa 6 (.t 6))⟩,
    ⟨some 71, some (69, false), .q (.load none (.t 70))⟩,
    ⟨some 72, some (69, false), .q (.fa 6 (.t 7))⟩,
    ⟨some 73, some (69, false), .q (.load none (.t 72))⟩,
    ⟨some 74, some (69, false), .call 37 [(.t 71), (.t 73)]⟩,
    ⟨some 75, some (69, false), .q (.un .not (.t 74))⟩,
    ⟨some 76, none, .q (.pick (.t 69) (.c (.raw (.bool true))) (.t 75))⟩] [0, 1, 5, 76])
  (.cond (.t 76) (.seq (.rg [⟨some 4, none, .q (.mv (.c (.raw (.bool false))))⟩] [4])
  .ret) .skip)))))
  (.rg [⟨some 17, none, .q (.mv (.t 5))⟩,
    ⟨some 18, none, .q (.bin .add .prim (.t 17) (.c (.raw (.int .i64 1))))⟩,
    ⟨some 5, none, .q (.mv (.t 18))⟩] [0, 1, 5])))
def a20 : AFunc := { n := 77, nparams := 2, res := [.tmp 4], body := (.seq (.rg [⟨some 4, none, .q (.mv (.c (.raw (.bool false))))⟩] [0, 1])
  (.seq (.seq (.rg [⟨some 8, none, .q (.mv (.t 0))⟩,
    ⟨some 9, none, .q (.len (.t 8))⟩,
    ⟨some 10, none, .q (.mv (.t 1))⟩,
    ⟨some 11, none, .q (.len (.t 10))⟩,
    ⟨some 12, none, .q (.bin .neq .prim (.t 9) (.t 11))⟩] [0, 1, 12])
  (.cond (.t 12) (.seq (.rg [⟨some 4, none, .q (.mv (.c (.raw (.bool false))))⟩] [4])
  .ret) .skip))
  (.seq (.seq (.rg [⟨some 5, none, .q (.mv (.c (.raw (.int .i64 0))))⟩] [0, 1, 5])
  (.block 0 (.loop a20_L0)))
  (.seq (.rg [⟨some 4, none, .q (.mv (.c (.raw (.bool true))))⟩] [4])
  .ret)))) }
theorem a20_ok : genFunc Go.Proofs.Try.prog ⟨[(0, [0, 1]), (1, [0, 1, 12]), (2, [4]), (3, [0, 1, 5]), (4, [0, 1, 5, 16]), (6, [0, 1, 5, 6]), (7, [0, 1, 5, 6, 7]), (8, [0, 1, 5, 76]), (9, [4]), (5, [0, 1, 5]), (10, [4])], [], false, [], [], [], false⟩ Go.Proofs.Try.f20 = some a20 := by kernel_rfl

def a21_L0 : ACode := (.seq (.seq (.rg [⟨some 6, none, .q (.mv (.t 4))⟩,
    ⟨some 7, none, .q (.mv (.t 0))⟩,
    ⟨some 8, none, .q (.len (.t 7))⟩,
    ⟨some 9, none, .q (.bin .lss .prim (.t 6) (.t 8))⟩] [0, 3, 4, 9])
  (.cond (.t 9) .skip (.exit 0)))
  (.seq (.block 1 (.seq (.rg [⟨some 12, none, .q (.mv (.t 0))⟩,
    ⟨some 13, none, .q (.mv (.t 4))⟩,
    ⟨some 14, none, .q (.ia 7 (.t 12) (.t 13))⟩,
    ⟨some 15, none, .q (.load (some 7) (.t 14))⟩,
    ⟨some 5, none, .alloc 7 (.agg [(.raw (.int .i64 0)), (.raw (.int .i64 0)), (.raw (.int .i64 0)), (.raw (.int .i64 0)), (.raw (.int .i64 0)), (.raw (.slice none 0 0)), (.raw (.slice none 0 0))])⟩,
    ⟨none, none, .store 7 (.t 5) (.t 15)⟩] [0, 3, 4, 5])
  (.rg [⟨some 16, none, .q (.mv (.t 3))⟩,
    ⟨some 17, none, .q (.fa 0 (.t 5))⟩,
    ⟨some 18, none, .q (.load none (.t 17))⟩,
    ⟨some 19, none, .q (.fa 1 (.t 5))⟩,
    ⟨some 20, none, .q (.load none (.t 19))⟩,
    ⟨some 21, none, .q (.fa 2 (.t 5))⟩,
    ⟨some 22, none, .q (.load none (.t 21))⟩,
    ⟨some 23, none, .q (.fa 3 (.t 5))⟩,
    ⟨some 24, none, .q (.load none (.t 23))⟩,
    ⟨some 25, none, .q (.fa 4 (.t 5))⟩,
    ⟨some 26, none, .q (.load none (.t 25))⟩,
    ⟨some 27, none, .q (.fa 5 (.t 5))⟩,
    ⟨some 28, none, .q (.load none (.t 27))⟩,
    ⟨some 29, none, .q (.fa 6 (.t 5))⟩,
    ⟨some 30, none, .q (.load none (.t 29))⟩,
    ⟨some 31, none, .q (.build [(.raw (.int .i64 0)), (.raw (.int .i64 0)), (.raw (.int .i64 0)), (.raw (.int .i64 0)), (.raw (.int .i64 0)), (.raw (.slice none 0 0)), (.raw (.slice none 0 0))] [(0, 1, (.t 18)), (1, 1, (.t 20)), (2, 1, (.t 22)), (3, 1, (.t 24)), (4, 1, (.t 26)), (5, 1, (.t 28)), (6, 1, (.t 30))])⟩,
    ⟨some 32, none, .bsl 7 1 (.agg [(.raw (.int .i64 0)), (.raw (.int .i64 0)), (.raw (.int .i64 0)), (.raw (.int .i64 0)), (.raw (.int .i64 0)), (.raw (.slice none 0 0)), (.raw (.slice none 0 0))]) [(0, (.t 31))]⟩,
    ⟨some 33, none, .app 7 88 (.t 16) (.t 32)⟩,
    ⟨some 3, none, .q (.mv (.t 33))⟩] [0, 3, 4])))
  (.rg [⟨some 10, none, .q (.mv (.t 4))⟩,
    ⟨some 11, none, .q (.bin .add .prim (.t 10) (.c (.raw (.int .i64 1))))⟩,
    ⟨some 4, none, .q (.mv (.t 11))⟩] [0, 3, 4])))
def a21 : AFunc := { n := 35, nparams := 1, res := [.tmp 2], body := (.seq (.rg [⟨some 2, none, .q (.mv (.c (.raw (.slice none 0 0))))⟩] [0])
  (.seq (.rg [⟨some 3, none, .q (.mv (.c (.raw (.slice none 0 0))))⟩] [0, 3])
  (.seq (.seq (.rg [⟨some 4, none, .q (.mv (.c (.raw (.int .i64 0))))⟩] [0, 3, 4])
  (.block 0 (.loop a21_L0)))
  (.seq (.rg [⟨some 34, none, .q (.mv (.t 3))⟩,
    ⟨some 2, none, .q (.mv (.t 34))⟩] [2])
  .ret)))) }
theorem a21_ok : genFunc Go.Proofs.Try.prog ⟨[(0, [0]), (1, [0, 3]), (2, [0, 3, 4]), (3, [0, 3, 4, 9]), (5, [0, 3, 4, 5]), (6, [0, 3, 4]), (4, [0, 3, 4]), (7, [2])], [], false, [], [], [], false⟩ Go.Proofs.Try.f21 = some a21 := by kernel_rfl

def a22_L0 : ACode := (.seq (.seq (.rg [⟨some 23, none, .q (.mv (.t 5))⟩,
    ⟨some 24, none, .q (.fa 0 (.t 2))⟩,
    ⟨some 25, none, .q (.load none (.t 24))⟩,
    ⟨some 26, none, .q (.len (.t 25))⟩,
    ⟨some 27, none, .q (.bin .lss .prim (.t 23) (.t 26))⟩] [2, 3, 5, 27])
  (.cond (.t 27) .skip (.exit 0)))
  (.seq (.block 1 (.seq (.rgs [[⟨some 30, none, .q (.fa 0 (.t 2))⟩,
    ⟨some 31, none, .q (.load none (.t 30))⟩,
    ⟨some 32, none, .q (.mv (.t 5))⟩,
    ⟨some 33, none, .q (.ia 1 (.t 31) (.t 32))⟩,
    ⟨some 34, none, .q (.load none (.t 33))⟩,
    ⟨some 35, none, .q (.b2s (.t 34))⟩,
    ⟨some 36, none, .q (.fa 0 (.t 3))⟩,
    ⟨some 37, none, .q (.load none (.t 36))⟩,
    ⟨some 38, none, .q (.mv (.t 5))⟩,
    ⟨some 39, none, .q (.ia 1 (.t 37) (.t 38))⟩,
    ⟨some 40, none, .q (.load none (.t 39))⟩,
    ⟨some 41, none, .q (.b2s (.t 40))⟩,
    ⟨some 42, none, .q (.bin .neq .prim (.t 35) (.t 41))⟩]] [2, 3, 5, 42])
  (.cond (.t 42) (.seq (.rg [⟨some 4, none, .q (.mv (.c (.raw (.bool false))))⟩] [4])
  .ret) .skip)))
  (.rg [⟨some 28, none, .q (.mv (.t 5))⟩,
    ⟨some 29, none, .q (.bin .add .prim (.t 28) (.c (.raw (.int .i64 1))))⟩,
    ⟨some 5, none, .q (.mv (.t 29))⟩] [2, 3, 5])))
def a22_L1 : ACode := (.seq (.seq (.rg [⟨some 43, none, .q (.mv (.t 6))⟩,
    ⟨some 44, none, .q (.fa 1 (.t 2))⟩,
    ⟨some 45, none, .q (.load none (.t 44))⟩,
    ⟨some 46, none, .q (.len (.t 45))⟩,
    ⟨some 47, none, .q (.bin .lss .prim (.t 43) (.t 46))⟩] [2, 3, 6, 47])
  (.cond (.t 47) .skip (.exit 2)))
  (.seq (.block 3 (.seq (.rgs [[⟨some 50, none, .q (.fa 1 (.t 2))⟩,
    ⟨some 51, none, .q (.load none (.t 50))⟩,
    ⟨some 52, none, .q (.mv (.t 6))⟩,
    ⟨some 53, none, .q (.ia 1 (.t 51) (.t 52))⟩,
    ⟨some 54, none, .q (.load none (.t 53))⟩,
    ⟨some 55, none, .q (.fa 1 (.t 3))⟩,
    ⟨some 56, none, .q (.load none (.t 55))⟩,
    ⟨some 57, none, .q (.mv (.t 6))⟩,
    ⟨some 58, none, .q (.ia 1 (.t 56) (.t 57))⟩,
    ⟨some 59, none, .q (.load none (.t 58))⟩,
    ⟨some 60, none, .q (.bin .neq .prim (.t 54) (.t 59))⟩]] [2, 3, 6, 60])
  (.cond (.t 60) (.seq (.rg [⟨some 4, none, .q (.mv (.c (.raw (.bool false))))⟩] [4])
  .ret) .skip)))
  (.rg [⟨some 48, none, .q (.mv (.t 6))⟩,
    ⟨some 49, none, .q (.bin .add .prim (.t 48) (.c (.raw (.int .i64 1))))⟩,
    ⟨some 6, none, .q (.mv (.t 49))⟩] [2, 3, 6])))
def a22 : AFunc := { n := 61, nparams := 2, res := [.tmp 4], body := (.seq (.rg [⟨some 2, none, .box 2 (.t 0)⟩,
    ⟨some 3, none, .box 2 (.t 1)⟩,
    ⟨some 4, none, .q (.mv (.c (.raw (.bool false))))⟩] [2, 3])
  (.seq (.seq (.rg [⟨some 7, none, .q (.fa 0 (.t 2))⟩,
    ⟨some 8, none, .q (.load none (.t 7))⟩,
    ⟨some 9, none, .q (.len (.t 8))⟩,
    ⟨some 10, none, .q (.fa 0 (.t 3))⟩,
    ⟨some 11, none, .q (.load none (.t 10))⟩,
    ⟨some 12, none, .q (.len (.t 11))⟩,
    ⟨some 13, none, .q (.bin .neq .prim (.t 9) (.t 12))⟩,
    ⟨some 14, none, .q (.mv (.t 13))⟩,
    ⟨some 15, some (14, false), .q (.fa 1 (.t 2))⟩,
    ⟨some 16, some (14, false), .q (.load none (.t 15))⟩,
    ⟨some 17, some (14, false), .q (.len (.t 16))⟩,
    ⟨some 18, some (14, false), .q (.fa 1 (.t 3))⟩,
    ⟨some 19, some (14, false), .q (.load none (.t 18))⟩,
    ⟨some 20, some (14, false), .q (.len (.t 19))⟩,
    ⟨some 21, some (14, false), .q (.bin .neq .prim (.t 17) (.t 20))⟩,
    ⟨some 22, none, .q (.pick (.t 14) (.c (.raw (.bool true))) (.t 21))⟩] [2, 3, 22])
  (.cond (.t 22) (.seq (.rg [⟨some 4, none, .q (.mv (.c (.raw (.bool false))))⟩] [4])
  .ret) .skip))
  (.seq (.seq (.rg [⟨some 5, none, .q (.mv (.c (.raw (.int .i64 0))))⟩] [2, 3, 5])
  (.block 0 (.loop a22_L0)))
  (.seq (.seq (.rg [⟨some 6, none, .q (.mv (.c (.raw (.int .i64 0))))⟩] [2, 3, 6])
  (.block 2 (.loop a22_L1)))
  (.seq (.rg [⟨some 4, none, .q (.mv (.c (.raw (.bool true))))⟩] [4])
  .ret))))) }
theorem a22_ok : genFunc Go.Proofs.Try.prog ⟨[(0, [2, 3]), (1, [2, 3, 22]), (2, [4]), (3, [2, 3, 5]), (4, [2, 3, 5, 27]), (6, [2, 3, 5, 42]), (7, [4]), (5, [2, 3, 5]), (8, [2, 3, 6]), (9, [2, 3, 6, 47]), (11, [2, 3, 6, 60]), (12, [4]), (10, [2, 3, 6]), (13, [4])], [], false, [], [], [], false⟩ Go.Proofs.Try.f22 = some a22 := by kernel_rfl

def a23 : AFunc := { n := 8, nparams := 1, res := [.cell 2 (some 2)], body := (.seq (.rg [⟨some 1, none, .box 2 (.t 0)⟩,
    ⟨some 2, none, .alloc 2 (.agg [(.raw (.slice none 0 0)), (.raw (.slice none 0 0))])⟩] [1, 2])
  (.seq (.rg [⟨some 3, none, .q (.fa 0 (.t 1))⟩,
    ⟨some 4, none, .q (.load none (.t 3))⟩,
    ⟨some 5, none, .q (.fa 1 (.t 1))⟩,
    ⟨some 6, none, .q (.load none (.t 5))⟩,
    ⟨some 7, none, .q (.build [(.raw (.slice none 0 0)), (.raw (.slice none 0 0))] [(0, 1, (.t 4)), (1, 1, (.t 6))])⟩,
    ⟨none, none, .store 2 (.t 2) (.t 7)⟩] [2])
  .ret)) }
theorem a23_ok : genFunc Go.Proofs.Try.prog ⟨[(0, [1, 2]), (1, [2])], [], false, [], [], [], false⟩ Go.Proofs.Try.f23 = some a23 := by kernel_rfl

def a24 : AFunc := { n := 8, nparams := 1, res := [.tmp 2], body := (.seq (.rg [⟨some 2, none, .q (.mv (.c (.raw (.slice none 0 0))))⟩] [0])
  (.seq (.seq (.rg [⟨some 3, none, .q (.mv (.t 0))⟩,
    ⟨some 4, none, .eqn false (.t 3)⟩] [0, 4])
  (.cond (.t 4) (.seq (.rg [⟨some 2, none, .q (.mv (.c (.raw (.slice none 0 0))))⟩] [2])
  .ret) .skip))
  (.seq (.rg [⟨some 5, none, .bsl 1 0 (.raw (.slice none 0 0)) []⟩,
    ⟨some 6, none, .q (.mv (.t 0))⟩,
    ⟨some 7, none, .app 1 24 (.t 5) (.t 6)⟩,
    ⟨some 2, none, .q (.mv (.t 7))⟩] [2])
  .ret))) }
theorem a24_ok : genFunc Go.Proofs.Try.prog ⟨[(0, [0]), (1, [0, 4]), (2, [2]), (3, [2])], [], false, [], [], [], false⟩ Go.Proofs.Try.f24 = some a24 := by kernel_rfl

def a25 : AFunc := { n := 8, nparams := 1, res := [.tmp 2], body := (.seq (.rg [⟨some 2, none, .q (.mv (.c (.raw (.slice none 0 0))))⟩] [0])
  (.seq (.seq (.rg [⟨some 3, none, .q (.mv (.t 0))⟩,
    ⟨some 4, none, .eqn false (.t 3)⟩] [0, 4])
  (.cond (.t 4) (.seq (.rg [⟨some 2, none, .q (.mv (.c (.raw (.slice none 0 0))))⟩] [2])
  .ret) .skip))
  (.seq (.rg [⟨some 5, none, .bsl 1 0 (.raw (.int .i64 0)) []⟩,
    ⟨some 6, none, .q (.mv (.t 0))⟩,
    ⟨some 7, none, .app 1 8 (.t 5) (.t 6)⟩,
    ⟨some 2, none, .q (.mv (.t 7))⟩] [2])
  .ret))) }
theorem a25_ok : genFunc Go.Proofs.Try.prog ⟨[(0, [0]), (1, [0, 4]), (2, [2]), (3, [2])], [], false, [], [], [], false⟩ Go.Proofs.Try.f25 = some a25 := by kernel_rfl

def a26 : AFunc := { n := 99, nparams := 2, res := [.tmp 4], body := (.seq (.rg [⟨some 3, none, .box 7 (.t 1)⟩,
    ⟨some 4, none, .q (.mv (.c (.raw (.bool false))))⟩] [0, 3])
  (.seq (.rgs [[⟨some 8, none, .q (.fa 3 (.t 3))⟩,
    ⟨some 9, none, .q (.load none (.t 8))⟩,
    ⟨some 10, none, .q (.bin .geq .prim (.t 9) (.c (.raw (.int .i64 0))))⟩,
    ⟨some 11, none, .q (.mv (.t 10))⟩,
    ⟨some 12, some (11, true), .q (.fa 3 (.t 3))⟩,
    ⟨some 13, some (11, true), .q (.load none (.t 12))⟩,
    ⟨some 14, some (11, true), .q (.mv (.t 0))⟩,
    ⟨some 15, some (11, true), .q (.nilc (.t 14))⟩,
    ⟨some 16, some (11, true), .q (.fa 0 (.t 15))⟩,
    ⟨some 17, some (11, true), .q (.load none (.t 16))⟩,
    ⟨some 18, some (11, true), .q (.len (.t 17))⟩,
    ⟨some 19, some (11, true), .q (.bin .lss .prim (.t 13) (.t 18))⟩,
    ⟨some 20, none, .q (.pick (.t 11) (.t 19) (.c (.raw (.bool false))))⟩,
    ⟨some 5, none, .q (.mv (.t 20))⟩]] [0, 3, 5])
  (.seq (.rgs [[⟨some 21, none, .q (.fa 3 (.t 3))⟩,
    ⟨some 22, none, .q (.load none (.t 21))⟩,
    ⟨some 23, none, .q (.bin .geq .prim (.t 22) (.c (.raw (.int .i64 0))))⟩,
    ⟨some 24, none, .q (.mv (.t 23))⟩,
    ⟨some 25, some (24, true), .q (.fa 3 (.t 3))⟩,
    ⟨some 26, some (24, true), .q (.load none (.t 25))⟩,
    ⟨some 27, some (24, true), .q (.mv (.t 0))⟩,
    ⟨some 28, some (24, true), .q (.nilc (.t 27))⟩,
    ⟨some 29, some (24, true), .q (.fa 1 (.t 28))⟩,
    ⟨some 30, some (24, true), .q (.load none (.t 29))⟩,
    ⟨some 31, some (24, true), .q (.len (.t 30))⟩,
    ⟨some 32, some (24, true), .q (.bin .lss .prim (.t 26) (.t 31))⟩,
    ⟨some 33, none, .q (.pick (.t 24) (.t 32) (.c (.raw (.bool false))))⟩,
    ⟨some 6, none, .q (.mv (.t 33))⟩]] [0, 3, 5, 6])
  (.seq (.seq (.rg [⟨some 34, none, .q (.fa 0 (.t 3))⟩,
    ⟨some 35, none, .q (.load none (.t 34))⟩] [0, 3, 5, 6, 35])
  (.block 0 (.seq (.rg [⟨some 37, none, .q (.bin .eql .prim (.t 35) (.c (.raw (.int .i64 4))))⟩,
    ⟨some 36, none, .q (.mv (.t 37))⟩] [0, 3, 5, 6, 35, 36])
  (.cond (.t 36) (.seq (.rgs [[⟨some 38, none, .q (.mv (.t 5))⟩,
    ⟨some 39, none, .q (.mv (.t 38))⟩,
    ⟨some 40, some (39, true), .q (.mv (.t 0))⟩,
    ⟨some 41, some (39, true), .q (.nilc (.t 40))⟩,
    ⟨some 42, some (39, true), .q (.fa 0 (.t 41))⟩,
    ⟨some 43, some (39, true), .q (.load none (.t 42))⟩,
    ⟨some 44, some (39, true), .q (.fa 3 (.t 3))⟩,
    ⟨some 45, some (39, true), .q (.load none (.t 44))⟩,
    ⟨some 46, some (39, true), .q (.ia 1 (.t 43) (.t 45))⟩,
    ⟨some 47, some (39, true), .q (.load none (.t 46))⟩,
    ⟨some 48, some (39, true), .q (.fa 5 (.t 3))⟩,
    ⟨some 49, some (39, true), .q (.load none (.t 48))⟩,
    ⟨some 50, some (39, true), .qcall 30 [(.t 47), (.t 49)]⟩,
    ⟨some 51, none, .q (.pick (.t 39) (.t 50) (.c (.raw (.bool false))))⟩,
    ⟨some 4, none, .q (.mv (.t 51))⟩]] [4])
  .ret) (.seq (.rg [⟨some 53, none, .q (.bin .eql .prim (.t 35) (.c (.raw (.int .i64 5))))⟩,
    ⟨some 52, none, .q (.mv (.t 53))⟩] [0, 3, 5, 6, 35, 52])
  (.cond (.t 52) (.seq (.rg [⟨some 54, none, .q (.mv (.t 5))⟩] [0, 3, 54])
  (.cond (.t 54) (.seq (.rg [⟨some 55, none, .mks 1 1 (.raw (.int .u8 0)) (.c (.raw (.int .i64 32))) (.c (.raw (.int .i64 32)))⟩,
    ⟨some 7, none, .q (.mv (.t 55))⟩] [0, 3, 7])
  (.seq (.seq (.rg [⟨some 56, none, .q (.mv (.t 7))⟩,
    ⟨some 57, none, .q (.fa 5 (.t 3))⟩,
    ⟨some 58, none, .q (.load none (.t 57))⟩,
    ⟨some 59, none, .cpy 1 (.t 56) (.t 58)⟩] [0, 3, 7])
  .gh)
  (.rgs [[⟨some 60, none, .q (.mv (.t 0))⟩,
    ⟨some 61, none, .q (.nilc (.t 60))⟩,
    ⟨some 62, none, .q (.fa 0 (.t 61))⟩,
    ⟨some 63, none, .q (.load none (.t 62))⟩,
    ⟨some 64, none, .q (.fa 3 (.t 3))⟩,
    ⟨some 65, none, .q (.load none (.t 64))⟩,
    ⟨some 66, none, .q (.mv (.t 7))⟩,
    ⟨some 67, none, .q (.ia 1 (.t 63) (.t 65))⟩,
    ⟨none, none, .store 1 (.t 67) (.t 66)⟩]] []))) .skip)) (.seq (.rg [⟨some 69, none, .q (.bin .eql .prim (.t 35) (.c (.raw (.int .i64 6))))⟩,
    ⟨some 68, none, .q (.mv (.t 69))⟩] [0, 3, 6, 35, 68])
  (.cond (.t 68) (.seq (.rg [⟨some 70, none, .q (.mv (.t 6))⟩] [0, 3, 70])
  (.cond (.t 70) (.rgs [[⟨some 71, none, .q (.mv (.t 0))⟩,
    ⟨some 72, none, .q (.nilc (.t 71))⟩,
    ⟨some 73, none, .q (.fa 1 (.t 72))⟩,
    ⟨some 74, none, .q (.load none (.t 73))⟩,
    ⟨some 75, none, .q (.fa 3 (.t 3))⟩,
    ⟨some 76, none, .q (.load none (.t 75))⟩,
    ⟨some 77, none, .q (.ia 1 (.t 74) (.t 76))⟩,
    ⟨some 78, none, .q (.load none (.t 77))⟩,
    ⟨some 79, none, .q (.fa 4 (.t 3))⟩,
    ⟨some 80, none, .q (.load none (.t 79))⟩,
    ⟨some 81, none, .q (.bin .add .prim (.t 78) (.t 80))⟩,
    ⟨some 82, none, .q (.ia 1 (.t 74) (.t 76))⟩,
    ⟨none, none, .store 1 (.t 82) (.t 81)⟩]] []) .skip)) (.seq (.rg [⟨some 84, none, .q (.bin .eql .prim (.t 35) (.c (.raw (.int .i64 7))))⟩,
    ⟨some 83, none, .q (.mv (.t 84))⟩] [0, 3, 6, 83])
  (.cond (.t 83) (.seq (.rgs [[⟨some 85, none, .q (.mv (.t 6))⟩,
    ⟨some 86, none, .q (.mv (.t 85))⟩,
    ⟨some 87, some (86, true), .q (.mv (.t 0))⟩,
    ⟨some 88, some (86, true), .q (.nilc (.t 87))⟩,
    ⟨some 89, some (86, true), .q (.fa 1 (.t 88))⟩,
    ⟨some 90, some (86, true), .q (.load none (.t 89))⟩,
    ⟨some 91, some (86, true), .q (.fa 3 (.t 3))⟩,
    ⟨some 92, some (86, true), .q (.load none (.t 91))⟩,
    ⟨some 93, some (86, true), .q (.ia 1 (.t 90) (.t 92))⟩,
    ⟨some 94, some (86, true), .q (.load none (.t 93))⟩,
    ⟨some 95, some (86, true), .q (.fa 4 (.t 3))⟩,
    ⟨some 96, some (86, true), .q (.load none (.t 95))⟩,
    ⟨some 97, some (86, true), .q (.bin .eql .prim (.t 94) (.t 96))⟩,
    ⟨some 98, none, .q (.pick (.t 86) (.t 97) (.c (.raw (.bool false))))⟩,
    ⟨some 4, none, .q (.mv (.t 98))⟩]] [4])
  .ret) .skip))))))))))
  (.seq (.rg [⟨some 4, none, .q (.mv (.c (.raw (.bool true))))⟩] [4])
  .ret))))) }
theorem a26_ok : genFunc Go.Proofs.Try.prog ⟨[(0, [0, 3]), (1, [0, 3, 5]), (2, [0, 3, 5, 6]), (3, [0, 3, 5, 6, 35]), (4, [0, 3, 5, 6, 35, 36]), (5, [4]), (6, [0, 3, 5, 6, 35, 52]), (7, [0, 3, 54]), (8, [0, 3, 7]), (9, [0, 3, 7]), (10, []), (11, [0, 3, 6, 35, 68]), (12, [0, 3, 70]), (13, []), (14, [0, 3, 6, 83]), (15, [4]), (16, [4])], [], false, [], [9], [], false⟩ Go.Proofs.Try.f26 = some a26 := by kernel_rfl

def a27_L0 : ACode := (.seq (.rg [⟨some 69, none, .q (.bin .lss .prim (.t 68) (.t 67))⟩] [3, 5, 16, 17, 18, 66, 67, 68, 69])
  (.seq (.cond (.t 69) .skip (.exit 3))
  (.seq (.block 4 (.seq (.rg [⟨some 70, none, .q (.ia 1 (.t 66) (.t 68))⟩,
    ⟨some 71, none, .q (.load none (.t 70))⟩,
    ⟨some 9, none, .q (.mv (.t 71))⟩] [3, 5, 9, 16, 17, 18, 66, 67, 68])
  (.seq (.rg [⟨some 72, none, .q (.fa 1 (.t 5))⟩,
    ⟨some 73, none, .q (.load none (.t 72))⟩,
    ⟨some 74, none, .q (.mv (.t 9))⟩,
    ⟨some 75, none, .q (.build [(.raw (.int .i64 0)), (.raw (.int .i64 0))] [(0, 1, (.t 73)), (1, 1, (.t 74))])⟩,
    ⟨some 10, none, .alloc 2 (.agg [(.raw (.int .i64 0)), (.raw (.int .i64 0))])⟩,
    ⟨none, none, .store 2 (.t 10) (.t 75)⟩] [3, 5, 10, 16, 17, 18, 66, 67, 68])
  (.seq (.rgs [[⟨some 76, none, .q (.mv (.t 3))⟩,
    ⟨some 77, none, .q (.nilc (.t 76))⟩,
    ⟨some 78, none, .q (.fa 1 (.t 77))⟩,
    ⟨some 79, none, .q (.load none (.t 78))⟩,
    ⟨some 80, none, .q (.load (some 2) (.t 10))⟩,
    ⟨some 81, none, .q (.lk (.ints 2) (.agg [(.raw (.bool false)), (.raw (.bool false)), (.raw (.int .i64 0)), (.raw (.int .i64 0)), (.raw (.bool false))]) (.t 79) (.t 80) false)⟩,
    ⟨some 11, none, .alloc 5 (.agg [(.raw (.bool false)), (.raw (.bool false)), (.raw (.int .i64 0)), (.raw (.int .i64 0)), (.raw (.bool false))])⟩,
    ⟨none, none, .store 5 (.t 11) (.t 81)⟩]] [3, 5, 10, 11, 16, 17, 18, 66, 67, 68])
  (.seq (.rg [⟨some 82, none, .q (.fa 4 (.t 11))⟩,
    ⟨none, none, .store 1 (.t 82) (.c (.raw (.bool true)))⟩] [3, 5, 10, 11, 16, 17, 18, 66, 67, 68])
  (.rgs [[⟨some 83, none, .q (.mv (.t 3))⟩,
    ⟨some 84, none, .q (.nilc (.t 83))⟩,
    ⟨some 85, none, .q (.fa 1 (.t 84))⟩,
    ⟨some 86, none, .q (.load none (.t 85))⟩,
    ⟨some 87, none, .q (.load (some 2) (.t 10))⟩,
    ⟨some 88, none, .q (.load (some 5) (.t 11))⟩,
    ⟨none, none, .mup (.ints 2) (.t 86) (.t 87) (.t 88)⟩]] [3, 5, 16, 17, 18, 66, 67, 68]))))))
  (.rg [⟨some 89, none, .q (.bin .add .prim (.t 68) (.c (.raw (.int .i64 1))))⟩,
    ⟨some 68, none, .q (.mv (.t 89))⟩] [3, 5, 16, 17, 18, 66, 67, 68]))))
def a27_L1 : ACode := (.seq (.rg [⟨some 19, none, .q (.bin .lss .prim (.t 18) (.t 17))⟩] [3, 16, 17, 18, 19])
  (.seq (.cond (.t 19) .skip (.exit 0))
  (.seq (.block 1 (.seq (.rg [⟨some 20, none, .q (.mv (.t 18))⟩,
    ⟨some 21, none, .q (.ia 7 (.t 16) (.t 18))⟩,
    ⟨some 22, none, .q (.load (some 7) (.t 21))⟩,
    ⟨some 5, none, .alloc 7 (.agg [(.raw (.int .i64 0)), (.raw (.int .i64 0)), (.raw (.int .i64 0)), (.raw (.int .i64 0)), (.raw (.int .i64 0)), (.raw (.slice none 0 0)), (.raw (.slice none 0 0))])⟩,
    ⟨some 4, none, .q (.mv (.t 20))⟩,
    ⟨none, none, .store 7 (.t 5) (.t 22)⟩] [3, 4, 5, 16, 17, 18])
  (.seq (.rg [⟨some 23, none, .q (.fa 1 (.t 5))⟩,
    ⟨some 24, none, .q (.load none (.t 23))⟩,
    ⟨some 25, none, .q (.fa 2 (.t 5))⟩,
    ⟨some 26, none, .q (.load none (.t 25))⟩,
    ⟨some 27, none, .q (.build [(.raw (.int .i64 0)), (.raw (.int .i64 0))] [(0, 1, (.t 24)), (1, 1, (.t 26))])⟩,
    ⟨some 6, none, .alloc 2 (.agg [(.raw (.int .i64 0)), (.raw (.int .i64 0))])⟩,
    ⟨none, none, .store 2 (.t 6) (.t 27)⟩] [3, 4, 5, 6, 16, 17, 18])
  (.seq (.rgs [[⟨some 28, none, .q (.mv (.t 3))⟩,
    ⟨some 29, none, .q (.nilc (.t 28))⟩,
    ⟨some 30, none, .q (.fa 1 (.t 29))⟩,
    ⟨some 31, none, .q (.load none (.t 30))⟩,
    ⟨some 32, none, .q (.load (some 2) (.t 6))⟩,
    ⟨some 33, none, .q (.lk (.ints 2) (.agg [(.raw (.bool false)), (.raw (.bool false)), (.raw (.int .i64 0)), (.raw (.int .i64 0)), (.raw (.bool false))]) (.t 31) (.t 32) false)⟩,
    ⟨some 7, none, .alloc 5 (.agg [(.raw (.bool false)), (.raw (.bool false)), (.raw (.int .i64 0)), (.raw (.int .i64 0)), (.raw (.bool false))])⟩,
    ⟨none, none, .store 5 (.t 7) (.t 33)⟩]] [3, 4, 5, 6, 7, 16, 17, 18])
  (.seq (.block 2 (.seq (.rg [⟨some 35, none, .q (.fa 0 (.t 5))⟩,
    ⟨some 36, none, .q (.load none (.t 35))⟩,
    ⟨some 37, none, .q (.bin .eql .prim (.t 36) (.c (.raw (.int .i64 1))))⟩,
    ⟨some 38, none, .q (.mv (.t 37))⟩,
    ⟨some 39, some (38, true), .q (.fa 0 (.t 7))⟩,
    ⟨some 40, some (38, true), .q (.load none (.t 39))⟩,
    ⟨some 41, some (38, true), .q (.un .not (.t 40))⟩,
    ⟨some 42, none, .q (.pick (.t 38) (.t 41) (.c (.raw (.bool false))))⟩,
    ⟨some 34, none, .q (.mv (.t 42))⟩] [3, 4, 5, 6, 7, 16, 17, 18, 34])
  (.cond (.t 34) (.rgs [[⟨some 43, none, .q (.fa 3 (.t 5))⟩,
    ⟨some 44, none, .q (.load none (.t 43))⟩,
    ⟨some 45, none, .q (.fa 0 (.t 7))⟩,
    ⟨none, none, .store 1 (.t 45) (.c (.raw (.bool true)))⟩,
    ⟨some 46, none, .q (.fa 2 (.t 7))⟩,
    ⟨none, none, .store 1 (.t 46) (.t 44)⟩],
    [⟨some 43, none, .q (.fa 3 (.t 5))⟩,
    ⟨some 45, none, .q (.fa 0 (.t 7))⟩,
    ⟨none, none, .store 1 (.t 45) (.c (.raw (.bool true)))⟩,
    ⟨some 44, none, .q (.load none (.t 43))⟩,
    ⟨some 46, none, .q (.fa 2 (.t 7))⟩,
    ⟨none, none, .store 1 (.t 46) (.t 44)⟩]] [3, 5, 6, 7, 16, 17, 18]) (.seq (.rg [⟨some 48, none, .q (.fa 0 (.t 5))⟩,
    ⟨some 49, none, .q (.load none (.t 48))⟩,
    ⟨some 50, none, .q (.bin .eql .prim (.t 49) (.c (.raw (.int .i64 2))))⟩,
    ⟨some 51, none, .q (.mv (.t 50))⟩,
    ⟨some 52, some (51, true), .q (.fa 1 (.t 7))⟩,
    ⟨some 53, some (51, true), .q (.load none (.t 52))⟩,
    ⟨some 54, some (51, true), .q (.un .not (.t 53))⟩,
    ⟨some 55, none, .q (.pick (.t 51) (.t 54) (.c (.raw (.bool false))))⟩,
    ⟨some 47, none, .q (.mv (.t 55))⟩] [3, 4, 5, 6, 7, 16, 17, 18, 47])
  (.cond (.t 47) (.rg [⟨some 56, none, .q (.mv (.t 4))⟩,
    ⟨some 57, none, .q (.fa 1 (.t 7))⟩,
    ⟨none, none, .store 1 (.t 57) (.c (.raw (.bool true)))⟩,
    ⟨some 58, none, .q (.fa 3 (.t 7))⟩,
    ⟨none, none, .store 1 (.t 58) (.t 56)⟩] [3, 5, 6, 7, 16, 17, 18]) .skip)))))
  (.seq (.rgs [[⟨some 59, none, .q (.mv (.t 3))⟩,
    ⟨some 60, none, .q (.nilc (.t 59))⟩,
    ⟨some 61, none, .q (.fa 1 (.t 60))⟩,
    ⟨some 62, none, .q (.load none (.t 61))⟩,
    ⟨some 63, none, .q (.load (some 2) (.t 6))⟩,
    ⟨some 64, none, .q (.load (some 5) (.t 7))⟩,
    ⟨none, none, .mup (.ints 2) (.t 62) (.t 63) (.t 64)⟩]] [3, 5, 16, 17, 18])
  (.seq (.rg [⟨some 65, none, .q (.fa 6 (.t 5))⟩,
    ⟨some 66, none, .q (.load none (.t 65))⟩,
    ⟨some 67, none, .q (.len (.t 66))⟩,
    ⟨some 68, none, .q (.mv (.c (.raw (.int .i64 0))))⟩] [3, 5, 16, 17, 18, 66, 67, 68])
  (.block 3 (.loop a27_L0)))))))))
  (.rg [⟨some 90, none, .q (.bin .add .prim (.t 18) (.c (.raw (.int .i64 1))))⟩,
    ⟨some 18, none, .q (.mv (.t 90))⟩] [3, 16, 17, 18]))))
def a27 : AFunc := { n := 92, nparams := 1, res := [.tmp 2], body := (.seq (.rg [⟨some 2, none, .q (.mv (.c (.raw (.pointer none))))⟩] [0])
  (.seq (.rg [⟨some 12, none, .q (.mv (.t 0))⟩,
    ⟨some 13, none, .mkm (.ints 2)⟩,
    ⟨some 14, none, .q (.build [(.raw (.slice none 0 0)), (.raw (.map none))] [(0, 1, (.t 12)), (1, 1, (.t 13))])⟩,
    ⟨some 15, none, .box 2 (.t 14)⟩,
    ⟨some 3, none, .q (.mv (.t 15))⟩] [0, 3])
  (.seq (.seq (.rg [⟨some 16, none, .q (.mv (.t 0))⟩,
    ⟨some 17, none, .q (.len (.t 16))⟩,
    ⟨some 18, none, .q (.mv (.c (.raw (.int .i64 0))))⟩] [3, 16, 17, 18])
  (.block 0 (.loop a27_L1)))
  (.seq (.rg [⟨some 91, none, .q (.mv (.t 3))⟩,
    ⟨some 2, none, .q (.mv (.t 91))⟩] [2])
  .ret)))) }
theorem a27_ok : genFunc Go.Proofs.Try.prog ⟨[(0, [0]), (1, [0, 3]), (2, [3, 16, 17, 18]), (3, [3, 16, 17, 18, 19]), (4, [3, 4, 5, 16, 17, 18]), (5, [3, 4, 5, 6, 16, 17, 18]), (6, [3, 4, 5, 6, 7, 16, 17, 18]), (7, [3, 4, 5, 6, 7, 16, 17, 18, 34]), (8, [3, 5, 6, 7, 16, 17, 18]), (9, [3, 4, 5, 6, 7, 16, 17, 18, 47]), (10, [3, 5, 6, 7, 16, 17, 18]), (11, [3, 5, 16, 17, 18]), (12, [3, 5, 16, 17, 18, 66, 67, 68]), (13, [3, 5, 16, 17, 18, 66, 67, 68, 69]), (14, [3, 5, 9, 16, 17, 18, 66, 67, 68]), (15, [3, 5, 10, 16, 17, 18, 66, 67, 68]), (16, [3, 5, 10, 11, 16, 17, 18, 66, 67, 68]), (17, [3, 5, 10, 11, 16, 17, 18, 66, 67, 68]), (18, [3, 5, 16, 17, 18, 66, 67, 68]), (19, [3, 5, 16, 17, 18, 66, 67, 68]), (20, [3, 16, 17, 18]), (21, [2])], [], false, [(8, [[0, 1, 2, 3, 4, 5], [0, 2, 3, 1, 4, 5]])], [], [], false⟩ Go.Proofs.Try.f27 = some a27 := by kernel_rfl

def a28 : AFunc := { n := 4, nparams := 1, res := [.tmp 2], body := (.seq (.rg [⟨some 1, none, .box 1 (.t 0)⟩,
    ⟨some 2, none, .q (.mv (.c (.raw .nilFunc)))⟩] [1])
  (.seq (.rg [⟨some 3, none, .q (.mkf 38 [(.t 1)])⟩,
    ⟨some 2, none, .q (.mv (.t 3))⟩] [2])
  .ret)) }
theorem a28_ok : genFunc Go.Proofs.Try.prog ⟨[(0, [1]), (1, [2])], [], false, [], [], [], false⟩ Go.Proofs.Try.f28 = some a28 := by kernel_rfl

def a29_L0 : ACode := (.seq (.rg [⟨some 18, none, .q (.bin .lss .prim (.t 17) (.t 16))⟩] [1, 2, 15, 16, 17, 18])
  (.seq (.cond (.t 18) .skip (.exit 0))
  (.seq (.block 1 (.seq (.rg [⟨some 19, none, .q (.mv (.t 17))⟩,
    ⟨some 20, none, .q (.ia 1 (.t 15) (.t 17))⟩,
    ⟨some 21, none, .q (.load none (.t 20))⟩,
    ⟨some 7, none, .q (.mv (.t 19))⟩,
    ⟨some 8, none, .q (.mv (.t 21))⟩] [1, 2, 7, 8, 15, 16, 17])
  (.seq (.rg [⟨some 22, none, .q (.mv (.t 1))⟩,
    ⟨some 23, none, .q (.mv (.t 7))⟩,
    ⟨some 24, none, .q (.ia 1 (.t 22) (.t 23))⟩,
    ⟨some 25, none, .q (.load none (.t 24))⟩,
    ⟨some 9, none, .q (.mv (.t 25))⟩] [1, 2, 8, 9, 15, 16, 17])
  (.seq (.rg [⟨some 26, none, .q (.mv (.t 2))⟩,
    ⟨some 27, none, .q (.mv (.t 8))⟩,
    ⟨some 28, none, .q (.mv (.t 9))⟩,
    ⟨some 29, none, .calv (.t 26) [(.t 27), (.t 28)]⟩,
    ⟨some 30, none, .q (.un .not (.t 29))⟩] [1, 2, 15, 16, 17, 30])
  (.cond (.t 30) (.seq (.rg [⟨some 6, none, .q (.mv (.c (.raw (.bool false))))⟩] [6])
  .ret) .skip)))))
  (.rg [⟨some 31, none, .q (.bin .add .prim (.t 17) (.c (.raw (.int .i64 1))))⟩,
    ⟨some 17, none, .q (.mv (.t 31))⟩] [1, 2, 15, 16, 17]))))
def a29 : AFunc := { n := 32, nparams := 3, res := [.tmp 6], body := (.seq (.rg [⟨some 6, none, .q (.mv (.c (.raw (.bool false))))⟩] [0, 1, 2])
  (.seq (.seq (.rg [⟨some 10, none, .q (.mv (.t 0))⟩,
    ⟨some 11, none, .q (.len (.t 10))⟩,
    ⟨some 12, none, .q (.mv (.t 1))⟩,
    ⟨some 13, none, .q (.len (.t 12))⟩,
    ⟨some 14, none, .q (.bin .neq .prim (.t 11) (.t 13))⟩] [0, 1, 2, 14])
  (.cond (.t 14) (.seq (.rg [⟨some 6, none, .q (.mv (.c (.raw (.bool false))))⟩] [6])
  .ret) .skip))
  (.seq (.seq (.rg [⟨some 15, none, .q (.mv (.t 0))⟩,
    ⟨some 16, none, .q (.len (.t 15))⟩,
    ⟨some 17, none, .q (.mv (.c (.raw (.int .i64 0))))⟩] [1, 2, 15, 16, 17])
  (.block 0 (.loop a29_L0)))
  (.seq (.rg [⟨some 6, none, .q (.mv (.c (.raw (.bool true))))⟩] [6])
  .ret)))) }
theorem a29_ok : genFunc Go.Proofs.Try.prog ⟨[(0, [0, 1, 2]), (1, [0, 1, 2, 14]), (2, [6]), (3, [1, 2, 15, 16, 17]), (4, [1, 2, 15, 16, 17, 18]), (5, [1, 2, 7, 8, 15, 16, 17]), (6, [1, 2, 8, 9, 15, 16, 17]), (7, [1, 2, 15, 16, 17, 30]), (8, [6]), (9, [1, 2, 15, 16, 17]), (10, [6])], [], false, [], [], [], false⟩ Go.Proofs.Try.f29 = some a29 := by kernel_rfl

def a30 : AFunc := { n := 10, nparams := 2, res := [.tmp 4], body := (.seq (.rg [⟨some 4, none, .q (.mv (.c (.raw (.bool false))))⟩] [0, 1])
  (.seq (.rg [⟨some 5, none, .q (.mv (.t 0))⟩,
    ⟨some 6, none, .q (.b2s (.t 5))⟩,
    ⟨some 7, none, .q (.mv (.t 1))⟩,
    ⟨some 8, none, .q (.b2s (.t 7))⟩,
    ⟨some 9, none, .q (.bin .eql .prim (.t 6) (.t 8))⟩,
    ⟨some 4, none, .q (.mv (.t 9))⟩] [4])
  .ret)) }
theorem a30_ok : genFunc Go.Proofs.Try.prog ⟨[(0, [0, 1]), (1, [4])], [], false, [], [], [], false⟩ Go.Proofs.Try.f30 = some a30 := by kernel_rfl

def a31_L0 : ACode := (.seq (.rg [⟨some 14, none, .q (.bin .lss .prim (.t 13) (.t 12))⟩] [0, 1, 12, 13, 14])
  (.seq (.cond (.t 14) .skip (.exit 0))
  (.seq (.block 1 (.seq (.rg [⟨some 15, none, .q (.mv (.t 13))⟩,
    ⟨some 5, none, .q (.mv (.t 15))⟩] [0, 1, 5, 12, 13])
  (.seq (.rgs [[⟨some 16, none, .q (.mv (.t 0))⟩,
    ⟨some 17, none, .q (.mv (.t 5))⟩,
    ⟨some 18, none, .q (.ia 1 (.t 16) (.t 17))⟩,
    ⟨some 19, none, .q (.load none (.t 18))⟩,
    ⟨some 20, none, .q (.mv (.t 1))⟩,
    ⟨some 21, none, .q (.mv (.t 5))⟩,
    ⟨some 22, none, .q (.ia 1 (.t 20) (.t 21))⟩,
    ⟨some 23, none, .q (.load none (.t 22))⟩,
    ⟨some 24, none, .q (.bin .neq .prim (.t 19) (.t 23))⟩]] [0, 1, 12, 13, 24])
  (.cond (.t 24) (.seq (.rg [⟨some 4, none, .q (.mv (.c (.raw (.bool false))))⟩] [4])
  .ret) .skip))))
  (.rg [⟨some 25, none, .q (.bin .add .prim (.t 13) (.c (.raw (.int .i64 1))))⟩,
    ⟨some 13, none, .q (.mv (.t 25))⟩] [0, 1, 12, 13]))))
def a31 : AFunc := { n := 26, nparams := 2, res := [.tmp 4], body := (.seq (.rg [⟨some 4, none, .q (.mv (.c (.raw (.bool false))))⟩] [0, 1])
  (.seq (.seq (.rg [⟨some 6, none, .q (.mv (.t 0))⟩,
    ⟨some 7, none, .q (.len (.t 6))⟩,
    ⟨some 8, none, .q (.mv (.t 1))⟩,
    ⟨some 9, none, .q (.len (.t 8))⟩,
    ⟨some 10, none, .q (.bin .neq .prim (.t 7) (.t 9))⟩] [0, 1, 10])
  (.cond (.t 10) (.seq (.rg [⟨some 4, none, .q (.mv (.c (.raw (.bool false))))⟩] [4])
  .ret) .skip))
  (.seq (.seq (.rg [⟨some 11, none, .q (.mv (.t 0))⟩,
    ⟨some 12, none, .q (.len (.t 11))⟩,
    ⟨some 13, none, .q (.mv (.c (.raw (.int .i64 0))))⟩] [0, 1, 12, 13])
  (.block 0 (.loop a31_L0)))
  (.seq (.rg [⟨some 4, none, .q (.mv (.c (.raw (.bool true))))⟩] [4])
  .ret)))) }
theorem a31_ok : genFunc Go.Proofs.Try.prog ⟨[(0, [0, 1]), (1, [0, 1, 10]), (2, [4]), (3, [0, 1, 12, 13]), (4, [0, 1, 12, 13, 14]), (5, [0, 1, 5, 12, 13]), (6, [0, 1, 12, 13, 24]), (7, [4]), (8, [0, 1, 12, 13]), (9, [4])], [], false, [], [], [], false⟩ Go.Proofs.Try.f31 = some a31 := by kernel_rfl

def a32_L0 : ACode := (.seq (.seq (.rg [⟨some 10, none, .q (.mv (.t 8))⟩,
    ⟨some 11, none, .q (.mv (.t 0))⟩,
    ⟨some 12, none, .q (.len (.t 11))⟩,
    ⟨some 13, none, .q (.bin .lss .prim (.t 10) (.t 12))⟩] [0, 1, 2, 7, 8, 13])
  (.cond (.t 13) .skip (.exit 0)))
  (.seq (.block 1 (.seq (.rg [⟨some 16, none, .q (.mv (.t 0))⟩,
    ⟨some 17, none, .q (.mv (.t 8))⟩,
    ⟨some 18, none, .q (.ia 7 (.t 16) (.t 17))⟩,
    ⟨some 19, none, .q (.load (some 7) (.t 18))⟩,
    ⟨some 9, none, .alloc 7 (.agg [(.raw (.int .i64 0)), (.raw (.int .i64 0)), (.raw (.int .i64 0)), (.raw (.int .i64 0)), (.raw (.int .i64 0)), (.raw (.slice none 0 0)), (.raw (.slice none 0 0))])⟩,
    ⟨none, none, .store 7 (.t 9) (.t 19)⟩] [0, 1, 2, 7, 8, 9])
  (.seq (.seq (.rg [⟨some 20, none, .q (.fa 1 (.t 9))⟩,
    ⟨some 21, none, .q (.load none (.t 20))⟩,
    ⟨some 22, none, .q (.mv (.t 1))⟩,
    ⟨some 23, none, .q (.bin .neq .prim (.t 21) (.t 22))⟩] [0, 1, 2, 7, 8, 9, 23])
  (.cond (.t 23) (.exit 1) .skip))
  (.seq (.seq (.rg [⟨some 24, none, .q (.fa 0 (.t 9))⟩,
    ⟨some 25, none, .q (.load none (.t 24))⟩,
    ⟨some 26, none, .q (.bin .geq .prim (.t 25) (.c (.raw (.int .i64 4))))⟩,
    ⟨some 27, none, .q (.mv (.t 26))⟩,
    ⟨some 28, some (27, true), .q (.fa 0 (.t 9))⟩,
    ⟨some 29, some (27, true), .q (.load none (.t 28))⟩,
    ⟨some 30, some (27, true), .q (.bin .leq .prim (.t 29) (.c (.raw (.int .i64 7))))⟩,
    ⟨some 31, none, .q (.pick (.t 27) (.t 30) (.c (.raw (.bool false))))⟩,
    ⟨some 32, none, .q (.mv (.t 31))⟩,
    ⟨some 33, some (32, true), .q (.fa 2 (.t 9))⟩,
    ⟨some 34, some (32, true), .q (.load none (.t 33))⟩,
    ⟨some 35, some (32, true), .q (.mv (.t 2))⟩,
    ⟨some 36, some (32, true), .q (.bin .eql .prim (.t 34) (.t 35))⟩,
    ⟨some 37, none, .q (.pick (.t 32) (.t 36) (.c (.raw (.bool false))))⟩,
    ⟨some 38, none, .q (.mv (.t 37))⟩,
    ⟨some 39, some (38, true), .q (.mv (.t 2))⟩,
    ⟨some 40, some (38, true), .q (.bin .neq .prim (.t 39) (.c (.raw (.int .i64 (-1)))))⟩,
    ⟨some 41, none, .q (.pick (.t 38) (.t 40) (.c (.raw (.bool false))))⟩] [0, 1, 2, 7, 8, 9, 41])
  (.cond (.t 41) (.rg [⟨some 42, none, .q (.mv (.t 7))⟩,
    ⟨some 43, none, .q (.load (some 7) (.t 9))⟩,
    ⟨some 44, none, .bsl 7 1 (.agg [(.raw (.int .i64 0)), (.raw (.int .i64 0)), (.raw (.int .i64 0)), (.raw (.int .i64 0)), (.raw (.int .i64 0)), (.raw (.slice none 0 0)), (.raw (.slice none 0 0))]) [(0, (.t 43))]⟩,
    ⟨some 45, none, .app 7 88 (.t 42) (.t 44)⟩,
    ⟨some 7, none, .q (.mv (.t 45))⟩] [0, 1, 2, 7, 8, 9]) .skip))
  (.seq (.rg [⟨some 46, none, .q (.mv (.t 0))⟩,
    ⟨some 47, none, .q (.mv (.t 8))⟩,
    ⟨some 48, none, .q (.mv (.t 2))⟩,
    ⟨some 49, none, .call 41 [(.t 46), (.t 47), (.t 48)]⟩] [0, 1, 2, 7, 8, 9, 49])
  (.cond (.t 49) (.rg [⟨some 50, none, .q (.mv (.t 7))⟩,
    ⟨some 51, none, .q (.mv (.t 0))⟩,
    ⟨some 52, none, .q (.mv (.t 1))⟩,
    ⟨some 53, none, .q (.fa 2 (.t 9))⟩,
    ⟨some 54, none, .q (.load none (.t 53))⟩,
    ⟨some 55, none, .call 32 [(.t 51), (.t 52), (.t 54)]⟩,
    ⟨some 56, none, .app 7 88 (.t 50) (.t 55)⟩,
    ⟨some 7, none, .q (.mv (.t 56))⟩] [0, 1, 2, 7, 8]) .skip))))))
  (.rg [⟨some 14, none, .q (.mv (.t 8))⟩,
    ⟨some 15, none, .q (.bin .add .prim (.t 14) (.c (.raw (.int .i64 1))))⟩,
    ⟨some 8, none, .q (.mv (.t 15))⟩] [0, 1, 2, 7, 8])))
def a32 : AFunc := { n := 58, nparams := 3, res := [.tmp 6], body := (.seq (.rg [⟨some 6, none, .q (.mv (.c (.raw (.slice none 0 0))))⟩] [0, 1, 2])
  (.seq (.rg [⟨some 7, none, .q (.mv (.c (.raw (.slice none 0 0))))⟩] [0, 1, 2, 7])
  (.seq (.seq (.rg [⟨some 8, none, .q (.mv (.c (.raw (.int .i64 0))))⟩] [0, 1, 2, 7, 8])
  (.block 0 (.loop a32_L0)))
  (.seq (.rg [⟨some 57, none, .q (.mv (.t 7))⟩,
    ⟨some 6, none, .q (.mv (.t 57))⟩] [6])
  .ret)))) }
theorem a32_ok : genFunc Go.Proofs.Try.prog ⟨[(0, [0, 1, 2]), (1, [0, 1, 2, 7]), (2, [0, 1, 2, 7, 8]), (3, [0, 1, 2, 7, 8, 13]), (5, [0, 1, 2, 7, 8, 9]), (6, [0, 1, 2, 7, 8, 9, 23]), (7, [0, 1, 2, 7, 8, 9, 41]), (8, [0, 1, 2, 7, 8, 9]), (9, [0, 1, 2, 7, 8, 9, 49]), (10, [0, 1, 2, 7, 8]), (4, [0, 1, 2, 7, 8]), (11, [6])], [], false, [], [], [], false⟩ Go.Proofs.Try.f32 = some a32 := by kernel_rfl

def a33_L0 : ACode := (.seq (.rg [⟨some 13, none, .q (.bin .lss .prim (.t 12) (.t 11))⟩] [0, 3, 11, 12, 13])
  (.seq (.cond (.t 13) .skip (.exit 0))
  (.seq (.block 1 (.seq (.rgs [[⟨some 14, none, .q (.mv (.t 0))⟩,
    ⟨some 15, none, .q (.nilc (.t 14))⟩,
    ⟨some 16, none, .q (.fa 1 (.t 15))⟩,
    ⟨some 17, none, .q (.load none (.t 16))⟩,
    ⟨some 18, none, .q (.load (some 2) (.t 3))⟩,
    ⟨some 19, none, .q (.lk (.ints 2) (.agg [(.raw (.bool false)), (.raw (.bool false)), (.raw (.int .i64 0)), (.raw (.int .i64 0)), (.raw (.bool false))]) (.t 17) (.t 18) false)⟩,
    ⟨some 5, none, .alloc 5 (.agg [(.raw (.bool false)), (.raw (.bool false)), (.raw (.int .i64 0)), (.raw (.int .i64 0)), (.raw (.bool false))])⟩,
    ⟨none, none, .store 5 (.t 5) (.t 19)⟩]] [0, 3, 5, 11, 12])
  (.seq (.block 2 (.seq (.rg [⟨some 21, none, .q (.fa 1 (.t 3))⟩,
    ⟨some 22, none, .q (.load none (.t 21))⟩,
    ⟨some 23, none, .q (.bin .lss .prim (.t 22) (.c (.raw (.int .i64 0))))⟩,
    ⟨some 24, none, .q (.mv (.t 23))⟩,
    ⟨some 25, some (24, false), .q (.fa 0 (.t 5))⟩,
    ⟨some 26, some (24, false), .q (.load none (.t 25))⟩,
    ⟨some 27, some (24, false), .q (.un .not (.t 26))⟩,
    ⟨some 28, none, .q (.pick (.t 24) (.c (.raw (.bool true))) (.t 27))⟩,
    ⟨some 29, none, .q (.mv (.t 28))⟩,
    ⟨some 30, some (29, false), .q (.fa 1 (.t 5))⟩,
    ⟨some 31, some (29, false), .q (.load none (.t 30))⟩,
    ⟨some 32, some (29, false), .q (.un .not (.t 31))⟩,
    ⟨some 33, none, .q (.pick (.t 29) (.c (.raw (.bool true))) (.t 32))⟩,
    ⟨some 34, none, .q (.mv (.t 33))⟩,
    ⟨some 35, some (34, false), .q (.fa 4 (.t 5))⟩,
    ⟨some 36, some (34, false), .q (.load none (.t 35))⟩,
    ⟨some 37, none, .q (.pick (.t 34) (.c (.raw (.bool true))) (.t 36))⟩,
    ⟨some 20, none, .q (.mv (.t 37))⟩] [0, 3, 5, 11, 12, 20])
  (.cond (.t 20) (.seq (.rg [⟨some 4, none, .q (.mv (.c (.raw (.bool false))))⟩] [4])
  .ret) (.seq (.rg [⟨some 39, none, .q (.fa 2 (.t 5))⟩,
    ⟨some 40, none, .q (.load none (.t 39))⟩,
    ⟨some 41, none, .q (.bin .eql .prim (.t 40) (.c (.raw (.int .i64 (-1)))))⟩,
    ⟨some 38, none, .q (.mv (.t 41))⟩] [0, 3, 5, 11, 12, 38])
  (.cond (.t 38) (.seq (.rg [⟨some 4, none, .q (.mv (.c (.raw (.bool true))))⟩] [4])
  .ret) .skip)))))
  (.rg [⟨some 42, none, .q (.fa 2 (.t 5))⟩,
    ⟨some 43, none, .q (.load none (.t 42))⟩,
    ⟨some 44, none, .q (.fa 1 (.t 3))⟩,
    ⟨none, none, .store 1 (.t 44) (.t 43)⟩] [0, 3, 11, 12]))))
  (.rg [⟨some 45, none, .q (.bin .add .prim (.t 12) (.c (.raw (.int .i64 1))))⟩,
    ⟨some 12, none, .q (.mv (.t 45))⟩] [0, 3, 11, 12]))))
def a33 : AFunc := { n := 46, nparams := 2, res := [.tmp 4], body := (.seq (.rg [⟨some 3, none, .box 2 (.t 1)⟩,
    ⟨some 4, none, .q (.mv (.c (.raw (.bool false))))⟩] [0, 3])
  (.seq (.seq (.rg [⟨some 6, none, .q (.mv (.t 0))⟩,
    ⟨some 7, none, .q (.nilc (.t 6))⟩,
    ⟨some 8, none, .q (.fa 0 (.t 7))⟩,
    ⟨some 9, none, .q (.load none (.t 8))⟩,
    ⟨some 10, none, .q (.len (.t 9))⟩,
    ⟨some 11, none, .q (.bin .add .prim (.t 10) (.c (.raw (.int .i64 1))))⟩,
    ⟨some 12, none, .q (.mv (.c (.raw (.int .i64 0))))⟩] [0, 3, 11, 12])
  (.block 0 (.loop a33_L0)))
  (.seq (.rg [⟨some 4, none, .q (.mv (.c (.raw (.bool false))))⟩] [4])
  .ret))) }
theorem a33_ok : genFunc Go.Proofs.Try.prog ⟨[(0, [0, 3]), (1, [0, 3, 11, 12]), (2, [0, 3, 11, 12, 13]), (3, [0, 3, 5, 11, 12]), (4, [0, 3, 5, 11, 12, 20]), (5, [4]), (6, [0, 3, 5, 11, 12, 38]), (7, [4]), (8, [0, 3, 11, 12]), (9, [0, 3, 11, 12]), (10, [4])], [], false, [], [], [], false⟩ Go.Proofs.Try.f33 = some a33 := by kernel_rfl

def a34_L0 : ACode := (.seq (.seq (.rg [⟨some 8, none, .q (.mv (.t 7))⟩,
    ⟨some 9, none, .q (.mv (.t 0))⟩,
    ⟨some 10, none, .q (.len (.t 9))⟩,
    ⟨some 11, none, .q (.bin .lss .prim (.t 8) (.t 10))⟩] [0, 1, 2, 7, 11])
  (.cond (.t 11) .skip (.exit 0)))
  (.seq (.block 1 (.seq (.rg [⟨some 14, none, .q (.mv (.t 0))⟩,
    ⟨some 15, none, .q (.mv (.t 7))⟩,
    ⟨some 16, none, .q (.ia 7 (.t 14) (.t 15))⟩,
    ⟨some 17, none, .q (.fa 1 (.t 16))⟩,
    ⟨some 18, none, .q (.load none (.t 17))⟩,
    ⟨some 19, none, .q (.mv (.t 1))⟩,
    ⟨some 20, none, .q (.bin .eql .prim (.t 18) (.t 19))⟩,
    ⟨some 21, none, .q (.mv (.t 20))⟩,
    ⟨some 22, some (21, true), .q (.mv (.t 0))⟩,
    ⟨some 23, some (21, true), .q (.mv (.t 7))⟩,
    ⟨some 24, some (21, true), .q (.ia 7 (.t 22) (.t 23))⟩,
    ⟨some 25, some (21, true), .q (.fa 0 (.t 24))⟩,
    ⟨some 26, some (21, true), .q (.load none (.t 25))⟩,
    ⟨some 27, some (21, true), .q (.bin .eql .prim (.t 26) (.c (.raw (.int .i64 1))))⟩,
    ⟨some 28, none, .q (.pick (.t 21) (.t 27) (.c (.raw (.bool false))))⟩,
    ⟨some 29, none, .q (.mv (.t 28))⟩,
    ⟨some 30, some (29, true), .q (.mv (.t 0))⟩,
    ⟨some 31, some (29, true), .q (.mv (.t 7))⟩,
    ⟨some 32, some (29, true), .q (.ia 7 (.t 30) (.t 31))⟩,
    ⟨some 33, some (29, true), .q (.fa 2 (.t 32))⟩,
    ⟨some 34, some (29, true), .q (.load none (.t 33))⟩,
    ⟨some 35, some (29, true), .q (.mv (.t 2))⟩,
    ⟨some 36, some (29, true), .q (.bin .eql .prim (.t 34) (.t 35))⟩,
    ⟨some 37, none, .q (.pick (.t 29) (.t 36) (.c (.raw (.bool false))))⟩] [0, 1, 2, 7, 37])
  (.cond (.t 37) (.seq (.rg [⟨some 38, none, .q (.mv (.t 7))⟩,
    ⟨some 6, none, .q (.mv (.t 38))⟩] [6])
  .ret) .skip)))
  (.rg [⟨some 12, none, .q (.mv (.t 7))⟩,
    ⟨some 13, none, .q (.bin .add .prim (.t 12) (.c (.raw (.int .i64 1))))⟩,
    ⟨some 7, none, .q (.mv (.t 13))⟩] [0, 1, 2, 7])))
def a34 : AFunc := { n := 39, nparams := 3, res := [.tmp 6], body := (.seq (.rg [⟨some 6, none, .q (.mv (.c (.raw (.int .i64 0))))⟩] [0, 1, 2])
  (.seq (.seq (.rg [⟨some 7, none, .q (.mv (.c (.raw (.int .i64 0))))⟩] [0, 1, 2, 7])
  (.block 0 (.loop a34_L0)))
  (.seq (.rg [⟨some 6, none, .q (.mv (.c (.raw (.int .i64 (-1)))))⟩] [6])
  .ret))) }
theorem a34_ok : genFunc Go.Proofs.Try.prog ⟨[(0, [0, 1, 2]), (1, [0, 1, 2, 7]), (2, [0, 1, 2, 7, 11]), (4, [0, 1, 2, 7, 37]), (5, [6]), (3, [0, 1, 2, 7]), (6, [6])], [], false, [], [], [], false⟩ Go.Proofs.Try.f34 = some a34 := by kernel_rfl

def a35_L0 : ACode := (.seq (.seq (.rg [⟨some 8, none, .q (.mv (.t 7))⟩,
    ⟨some 9, none, .q (.mv (.t 0))⟩,
    ⟨some 10, none, .q (.len (.t 9))⟩,
    ⟨some 11, none, .q (.bin .lss .prim (.t 8) (.t 10))⟩] [0, 1, 2, 7, 11])
  (.cond (.t 11) .skip (.exit 0)))
  (.seq (.block 1 (.seq (.rg [⟨some 14, none, .q (.mv (.t 0))⟩,
    ⟨some 15, none, .q (.mv (.t 7))⟩,
    ⟨some 16, none, .q (.ia 7 (.t 14) (.t 15))⟩,
    ⟨some 17, none, .q (.fa 1 (.t 16))⟩,
    ⟨some 18, none, .q (.load none (.t 17))⟩,
    ⟨some 19, none, .q (.mv (.t 1))⟩,
    ⟨some 20, none, .q (.bin .eql .prim (.t 18) (.t 19))⟩,
    ⟨some 21, none, .q (.mv (.t 20))⟩,
    ⟨some 22, some (21, true), .q (.mv (.t 0))⟩,
    ⟨some 23, some (21, true), .q (.mv (.t 7))⟩,
    ⟨some 24, some (21, true), .q (.ia 7 (.t 22) (.t 23))⟩,
    ⟨some 25, some (21, true), .q (.fa 0 (.t 24))⟩,
    ⟨some 26, some (21, true), .q (.load none (.t 25))⟩,
    ⟨some 27, some (21, true), .q (.bin .eql .prim (.t 26) (.c (.raw (.int .i64 2))))⟩,
    ⟨some 28, none, .q (.pick (.t 21) (.t 27) (.c (.raw (.bool false))))⟩,
    ⟨some 29, none, .q (.mv (.t 28))⟩,
    ⟨some 30, some (29, true), .q (.mv (.t 0))⟩,
    ⟨some 31, some (29, true), .q (.mv (.t 7))⟩,
    ⟨some 32, some (29, true), .q (.ia 7 (.t 30) (.t 31))⟩,
    ⟨some 33, some (29, true), .q (.fa 2 (.t 32))⟩,
    ⟨some 34, some (29, true), .q (.load none (.t 33))⟩,
    ⟨some 35, some (29, true), .q (.mv (.t 2))⟩,
    ⟨some 36, some (29, true), .q (.bin .eql .prim (.t 34) (.t 35))⟩,
    ⟨some 37, none, .q (.pick (.t 29) (.t 36) (.c (.raw (.bool false))))⟩] [0, 1, 2, 7, 37])
  (.cond (.t 37) (.seq (.rg [⟨some 38, none, .q (.mv (.t 7))⟩,
    ⟨some 6, none, .q (.mv (.t 38))⟩] [6])
  .ret) .skip)))
  (.rg [⟨some 12, none, .q (.mv (.t 7))⟩,
    ⟨some 13, none, .q (.bin .add .prim (.t 12) (.c (.raw (.int .i64 1))))⟩,
    ⟨some 7, none, .q (.mv (.t 13))⟩] [0, 1, 2, 7])))
def a35 : AFunc := { n := 39, nparams := 3, res := [.tmp 6], body := (.seq (.rg [⟨some 6, none, .q (.mv (.c (.raw (.int .i64 0))))⟩] [0, 1, 2])
  (.seq (.seq (.rg [⟨some 7, none, .q (.mv (.c (.raw (.int .i64 0))))⟩] [0, 1, 2, 7])
  (.block 0 (.loop a35_L0)))
  (.seq (.rg [⟨some 6, none, .q (.mv (.c (.raw (.int .i64 (-1)))))⟩] [6])
  .ret))) }
theorem a35_ok : genFunc Go.Proofs.Try.prog ⟨[(0, [0, 1, 2]), (1, [0, 1, 2, 7]), (2, [0, 1, 2, 7, 11]), (4, [0, 1, 2, 7, 37]), (5, [6]), (3, [0, 1, 2, 7]), (6, [6])], [], false, [], [], [], false⟩ Go.Proofs.Try.f35 = some a35 := by kernel_rfl

def a36_L0 : ACode := (.seq (.seq (.rg [⟨some 15, none, .q (.mv (.t 8))⟩,
    ⟨some 16, none, .q (.mv (.t 0))⟩,
    ⟨some 17, none, .q (.mv (.t 7))⟩,
    ⟨some 18, none, .q (.ia 7 (.t 16) (.t 17))⟩,
    ⟨some 19, none, .q (.fa 6 (.t 18))⟩,
    ⟨some 20, none, .q (.load none (.t 19))⟩,
    ⟨some 21, none, .q (.len (.t 20))⟩,
    ⟨some 22, none, .q (.bin .lss .prim (.t 15) (.t 21))⟩] [0, 1, 2, 7, 8, 22])
  (.cond (.t 22) .skip (.exit 2)))
  (.seq (.block 3 (.seq (.rg [⟨some 25, none, .q (.mv (.t 0))⟩,
    ⟨some 26, none, .q (.mv (.t 7))⟩,
    ⟨some 27, none, .q (.ia 7 (.t 25) (.t 26))⟩,
    ⟨some 28, none, .q (.fa 1 (.t 27))⟩,
    ⟨some 29, none, .q (.load none (.t 28))⟩,
    ⟨some 30, none, .q (.mv (.t 1))⟩,
    ⟨some 31, none, .q (.bin .eql .prim (.t 29) (.t 30))⟩,
    ⟨some 32, none, .q (.mv (.t 31))⟩,
    ⟨some 33, some (32, true), .q (.mv (.t 0))⟩,
    ⟨some 34, some (32, true), .q (.mv (.t 7))⟩,
    ⟨some 35, some (32, true), .q (.ia 7 (.t 33) (.t 34))⟩,
    ⟨some 36, some (32, true), .q (.fa 6 (.t 35))⟩,
    ⟨some 37, some (32, true), .q (.load none (.t 36))⟩,
    ⟨some 38, some (32, true), .q (.mv (.t 8))⟩,
    ⟨some 39, some (32, true), .q (.ia 1 (.t 37) (.t 38))⟩,
    ⟨some 40, some (32, true), .q (.load none (.t 39))⟩,
    ⟨some 41, some (32, true), .q (.mv (.t 2))⟩,
    ⟨some 42, some (32, true), .q (.bin .eql .prim (.t 40) (.t 41))⟩,
    ⟨some 43, none, .q (.pick (.t 32) (.t 42) (.c (.raw (.bool false))))⟩] [0, 1, 2, 7, 8, 43])
  (.cond (.t 43) (.seq (.rg [⟨some 6, none, .q (.mv (.c (.raw (.bool true))))⟩] [6])
  .ret) .skip)))
  (.rg [⟨some 23, none, .q (.mv (.t 8))⟩,
    ⟨some 24, none, .q (.bin .add .prim (.t 23) (.c (.raw (.int .i64 1))))⟩,
    ⟨some 8, none, .q (.mv (.t 24))⟩] [0, 1, 2, 7, 8])))
def a36_L1 : ACode := (.seq (.seq (.rg [⟨some 9, none, .q (.mv (.t 7))⟩,
    ⟨some 10, none, .q (.mv (.t 0))⟩,
    ⟨some 11, none, .q (.len (.t 10))⟩,
    ⟨some 12, none, .q (.bin .lss .prim (.t 9) (.t 11))⟩] [0, 1, 2, 7, 12])
  (.cond (.t 12) .skip (.exit 0)))
  (.seq (.block 1 (.seq (.rg [⟨some 8, none, .q (.mv (.c (.raw (.int .i64 0))))⟩] [0, 1, 2, 7, 8])
  (.block 2 (.loop a36_L0))))
  (.rg [⟨some 13, none, .q (.mv (.t 7))⟩,
    ⟨some 14, none, .q (.bin .add .prim (.t 13) (.c (.raw (.int .i64 1))))⟩,
    ⟨some 7, none, .q (.mv (.t 14))⟩] [0, 1, 2, 7])))
def a36 : AFunc := { n := 44, nparams := 3, res := [.tmp 6], body := (.seq (.rg [⟨some 6, none, .q (.mv (.c (.raw (.bool false))))⟩] [0, 1, 2])
  (.seq (.seq (.rg [⟨some 7, none, .q (.mv (.c (.raw (.int .i64 0))))⟩] [0, 1, 2, 7])
  (.block 0 (.loop a36_L1)))
  (.seq (.rg [⟨some 6, none, .q (.mv (.c (.raw (.bool false))))⟩] [6])
  .ret))) }
theorem a36_ok : genFunc Go.Proofs.Try.prog ⟨[(0, [0, 1, 2]), (1, [0, 1, 2, 7]), (2, [0, 1, 2, 7, 12]), (4, [0, 1, 2, 7, 8]), (5, [0, 1, 2, 7, 8, 22]), (7, [0, 1, 2, 7, 8, 43]), (8, [6]), (6, [0, 1, 2, 7, 8]), (3, [0, 1, 2, 7]), (9, [6])], [], false, [], [], [], false⟩ Go.Proofs.Try.f36 = some a36 := by kernel_rfl

def a37_L0 : ACode := (.seq (.seq (.rg [⟨some 11, none, .q (.mv (.t 5))⟩,
    ⟨some 12, none, .q (.mv (.t 0))⟩,
    ⟨some 13, none, .q (.len (.t 12))⟩,
    ⟨some 14, none, .q (.bin .lss .prim (.t 11) (.t 13))⟩] [0, 1, 5, 14])
  (.cond (.t 14) .skip (.exit 0)))
  (.seq (.block 1 (.seq (.rgs [[⟨some 17, none, .q (.mv (.t 0))⟩,
    ⟨some 18, none, .q (.mv (.t 5))⟩,
    ⟨some 19, none, .q (.ia 1 (.t 17) (.t 18))⟩,
    ⟨some 20, none, .q (.load none (.t 19))⟩,
    ⟨some 21, none, .q (.mv (.t 1))⟩,
    ⟨some 22, none, .q (.mv (.t 5))⟩,
    ⟨some 23, none, .q (.ia 1 (.t 21) (.t 22))⟩,
    ⟨some 24, none, .q (.load none (.t 23))⟩,
    ⟨some 25, none, .q (.bin .neq .prim (.t 20) (.t 24))⟩]] [0, 1, 5, 25])
  (.cond (.t 25) (.seq (.rg [⟨some 4, none, .q (.mv (.c (.raw (.bool false))))⟩] [4])
  .ret) .skip)))
  (.rg [⟨some 15, none, .q (.mv (.t 5))⟩,
    ⟨some 16, none, .q (.bin .add .prim (.t 15) (.c (.raw (.int .i64 1))))⟩,
    ⟨some 5, none, .q (.mv (.t 16))⟩] [0, 1, 5])))
def a37 : AFunc := { n := 26, nparams := 2, res := [.tmp 4], body := (.seq (.rg [⟨some 4, none, .q (.mv (.c (.raw (.bool false))))⟩] [0, 1])
  (.seq (.seq (.rg [⟨some 6, none, .q (.mv (.t 0))⟩,
    ⟨some 7, none, .q (.len (.t 6))⟩,
    ⟨some 8, none, .q (.mv (.t 1))⟩,
    ⟨some 9, none, .q (.len (.t 8))⟩,
    ⟨some 10, none, .q (.bin .neq .prim (.t 7) (.t 9))⟩] [0, 1, 10])
  (.cond (.t 10) (.seq (.rg [⟨some 4, none, .q (.mv (.c (.raw (.bool false))))⟩] [4])
  .ret) .skip))
  (.seq (.seq (.rg [⟨some 5, none, .q (.mv (.c (.raw (.int .i64 0))))⟩] [0, 1, 5])
  (.block 0 (.loop a37_L0)))
  (.seq (.rg [⟨some 4, none, .q (.mv (.c (.raw (.bool true))))⟩] [4])
  .ret)))) }
theorem a37_ok : genFunc Go.Proofs.Try.prog ⟨[(0, [0, 1]), (1, [0, 1, 10]), (2, [4]), (3, [0, 1, 5]), (4, [0, 1, 5, 14]), (6, [0, 1, 5, 25]), (7, [4]), (5, [0, 1, 5]), (8, [4])], [], false, [], [], [], false⟩ Go.Proofs.Try.f37 = some a37 := by kernel_rfl

def a38_L0 : ACode := (.seq (.rg [⟨some 9, none, .q (.bin .lss .prim (.t 8) (.t 7))⟩] [0, 1, 6, 7, 8, 9])
  (.seq (.cond (.t 9) .skip (.exit 0))
  (.seq (.block 1 (.seq (.rg [⟨some 10, none, .q (.ia 1 (.t 6) (.t 8))⟩,
    ⟨some 11, none, .q (.load none (.t 10))⟩,
    ⟨some 4, none, .q (.mv (.t 11))⟩] [0, 1, 4, 6, 7, 8])
  (.seq (.rg [⟨some 12, none, .q (.load none (.t 1))⟩,
    ⟨some 13, none, .q (.mv (.t 4))⟩,
    ⟨some 14, none, .q (.build [(.raw (.int .i64 0)), (.raw (.int .i64 0))] [(0, 1, (.t 13)), (1, 1, (.c (.raw (.int .i64 (-1)))))])⟩,
    ⟨some 15, none, .q (.mv (.t 0))⟩,
    ⟨some 16, none, .call 40 [(.t 12), (.t 14), (.t 15)]⟩,
    ⟨some 17, none, .q (.un .not (.t 16))⟩] [0, 1, 6, 7, 8, 17])
  (.cond (.t 17) .ret .skip))))
  (.rg [⟨some 18, none, .q (.bin .add .prim (.t 8) (.c (.raw (.int .i64 1))))⟩,
    ⟨some 8, none, .q (.mv (.t 18))⟩] [0, 1, 6, 7, 8]))))
def a38 : AFunc := { n := 19, nparams := 2, res := [], body := (.seq (.rg [⟨some 5, none, .q (.load none (.t 1))⟩,
    ⟨some 6, none, .call 39 [(.t 5)]⟩,
    ⟨some 7, none, .q (.len (.t 6))⟩,
    ⟨some 8, none, .q (.mv (.c (.raw (.int .i64 0))))⟩] [0, 1, 6, 7, 8])
  (.block 0 (.loop a38_L0))) }
theorem a38_ok : genFunc Go.Proofs.Try.prog ⟨[(0, [0, 1, 6, 7, 8]), (1, [0, 1, 6, 7, 8, 9]), (2, [0, 1, 4, 6, 7, 8]), (3, [0, 1, 6, 7, 8, 17]), (4, [0, 1, 6, 7, 8])], [], false, [], [], [], false⟩ Go.Proofs.Try.f38 = some a38 := by kernel_rfl

def a39_L0 : ACode := (.seq (.rg [⟨some 12, none, .q (.bin .lss .prim (.t 11) (.t 10))⟩] [3, 9, 10, 11, 12])
  (.seq (.cond (.t 12) .skip (.exit 0))
  (.seq (.block 1 (.seq (.rg [⟨some 13, none, .q (.ia 7 (.t 9) (.t 11))⟩,
    ⟨some 14, none, .q (.load (some 7) (.t 13))⟩,
    ⟨some 5, none, .alloc 7 (.agg [(.raw (.int .i64 0)), (.raw (.int .i64 0)), (.raw (.int .i64 0)), (.raw (.int .i64 0)), (.raw (.int .i64 0)), (.raw (.slice none 0 0)), (.raw (.slice none 0 0))])⟩,
    ⟨none, none, .store 7 (.t 5) (.t 14)⟩] [3, 5, 9, 10, 11])
  (.rg [⟨some 15, none, .q (.mv (.t 3))⟩,
    ⟨some 16, none, .q (.fa 1 (.t 5))⟩,
    ⟨some 17, none, .q (.load none (.t 16))⟩,
    ⟨some 18, none, .bsl 1 1 (.raw (.int .i64 0)) [(0, (.t 17))]⟩,
    ⟨some 19, none, .app 1 8 (.t 15) (.t 18)⟩,
    ⟨some 3, none, .q (.mv (.t 19))⟩] [3, 9, 10, 11])))
  (.rg [⟨some 20, none, .q (.bin .add .prim (.t 11) (.c (.raw (.int .i64 1))))⟩,
    ⟨some 11, none, .q (.mv (.t 20))⟩] [3, 9, 10, 11]))))
def a39 : AFunc := { n := 25, nparams := 1, res := [.tmp 2], body := (.seq (.rg [⟨some 2, none, .q (.mv (.c (.raw (.slice none 0 0))))⟩] [0])
  (.seq (.rg [⟨some 3, none, .q (.mv (.c (.raw (.slice none 0 0))))⟩] [0, 3])
  (.seq (.seq (.rg [⟨some 6, none, .q (.mv (.t 0))⟩,
    ⟨some 7, none, .q (.nilc (.t 6))⟩,
    ⟨some 8, none, .q (.fa 0 (.t 7))⟩,
    ⟨some 9, none, .q (.load none (.t 8))⟩,
    ⟨some 10, none, .q (.len (.t 9))⟩,
    ⟨some 11, none, .q (.mv (.c (.raw (.int .i64 0))))⟩] [3, 9, 10, 11])
  (.block 0 (.loop a39_L0)))
  (.seq (.rg [⟨some 21, none, .q (.mv (.t 3))⟩,
    ⟨some 22, none, .call 42 [(.t 21)]⟩] [3])
  (.seq (.rg [⟨some 23, none, .q (.mv (.t 3))⟩,
    ⟨some 24, none, .call 43 [(.t 23)]⟩,
    ⟨some 2, none, .q (.mv (.t 24))⟩] [2])
  .ret))))) }
theorem a39_ok : genFunc Go.Proofs.Try.prog ⟨[(0, [0]), (1, [0, 3]), (2, [3, 9, 10, 11]), (3, [3, 9, 10, 11, 12]), (4, [3, 5, 9, 10, 11]), (5, [3, 9, 10, 11]), (6, [3, 9, 10, 11]), (7, [3]), (8, [2])], [], false, [], [], [], false⟩ Go.Proofs.Try.f39 = some a39 := by kernel_rfl

def a40_L0 : ACode := (.seq (.rg [⟨some 17, none, .q (.bin .lss .prim (.t 16) (.t 15))⟩] [0, 2, 4, 14, 15, 16, 17])
  (.seq (.cond (.t 17) .skip (.exit 0))
  (.seq (.block 1 (.seq (.rg [⟨some 18, none, .q (.mv (.t 16))⟩,
    ⟨some 19, none, .q (.ia 7 (.t 14) (.t 16))⟩,
    ⟨some 20, none, .q (.load (some 7) (.t 19))⟩,
    ⟨some 8, none, .alloc 7 (.agg [(.raw (.int .i64 0)), (.raw (.int .i64 0)), (.raw (.int .i64 0)), (.raw (.int .i64 0)), (.raw (.int .i64 0)), (.raw (.slice none 0 0)), (.raw (.slice none 0 0))])⟩,
    ⟨some 7, none, .q (.mv (.t 18))⟩,
    ⟨none, none, .store 7 (.t 8) (.t 20)⟩] [0, 2, 4, 7, 8, 14, 15, 16])
  (.seq (.seq (.rg [⟨some 21, none, .q (.fa 1 (.t 8))⟩,
    ⟨some 22, none, .q (.load none (.t 21))⟩,
    ⟨some 23, none, .q (.fa 0 (.t 4))⟩,
    ⟨some 24, none, .q (.load none (.t 23))⟩,
    ⟨some 25, none, .q (.bin .neq .prim (.t 22) (.t 24))⟩] [0, 2, 4, 7, 8, 14, 15, 16, 25])
  (.cond (.t 25) (.exit 1) .skip))
  (.seq (.seq (.rg [⟨some 26, none, .q (.load (some 7) (.t 8))⟩,
    ⟨some 27, none, .call 44 [(.t 26)]⟩,
    ⟨some 28, none, .q (.mv (.t 27))⟩,
    ⟨some 29, some (28, true), .q (.fa 2 (.t 8))⟩,
    ⟨some 30, some (28, true), .q (.load none (.t 29))⟩,
    ⟨some 31, some (28, true), .q (.fa 1 (.t 4))⟩,
    ⟨some 32, some (28, true), .q (.load none (.t 31))⟩,
    ⟨some 33, some (28, true), .q (.bin .eql .prim (.t 30) (.t 32))⟩,
    ⟨some 34, none, .q (.pick (.t 28) (.t 33) (.c (.raw (.bool false))))⟩,
    ⟨some 35, none, .q (.mv (.t 34))⟩,
    ⟨some 36, some (35, true), .q (.fa 1 (.t 4))⟩,
    ⟨some 37, some (35, true), .q (.load none (.t 36))⟩,
    ⟨some 38, some (35, true), .q (.bin .neq .prim (.t 37) (.c (.raw (.int .i64 (-1)))))⟩,
    ⟨some 39, none, .q (.pick (.t 35) (.t 38) (.c (.raw (.bool false))))⟩,
    ⟨some 40, none, .q (.mv (.t 39))⟩,
    ⟨some 41, some (40, true), .q (.mv (.t 2))⟩,
    ⟨some 42, some (40, true), .q (.load (some 7) (.t 8))⟩,
    ⟨some 43, some (40, true), .calv (.t 41) [(.t 42)]⟩,
    ⟨some 44, some (40, true), .q (.un .not (.t 43))⟩,
    ⟨some 45, none, .q (.pick (.t 40) (.t 44) (.c (.raw (.bool false))))⟩] [0, 2, 4, 7, 8, 14, 15, 16, 45])
  (.cond (.t 45) (.seq (.rg [⟨some 6, none, .q (.mv (.c (.raw (.bool false))))⟩] [6])
  .ret) .skip))
  (.seq (.rg [⟨some 46, none, .q (.fa 1 (.t 8))⟩,
    ⟨some 47, none, .q (.load none (.t 46))⟩,
    ⟨some 48, none, .q (.fa 2 (.t 8))⟩,
    ⟨some 49, none, .q (.load none (.t 48))⟩,
    ⟨some 50, none, .q (.build [(.raw (.int .i64 0)), (.raw (.int .i64 0))] [(0, 1, (.t 47)), (1, 1, (.t 49))])⟩,
    ⟨some 9, none, .alloc 2 (.agg [(.raw (.int .i64 0)), (.raw (.int .i64 0))])⟩,
    ⟨none, none, .store 2 (.t 9) (.t 50)⟩] [0, 2, 4, 7, 8, 9, 14, 15, 16])
  (.seq (.rgs [[⟨some 51, none, .q (.mv (.t 0))⟩,
    ⟨some 52, none, .q (.nilc (.t 51))⟩,
    ⟨some 53, none, .q (.fa 1 (.t 52))⟩,
    ⟨some 54, none, .q (.load none (.t 53))⟩,
    ⟨some 55, none, .q (.load (some 2) (.t 9))⟩,
    ⟨some 56, none, .q (.lk (.ints 2) (.agg [(.raw (.bool false)), (.raw (.bool false)), (.raw (.int .i64 0)), (.raw (.int .i64 0)), (.raw (.bool false))]) (.t 54) (.t 55) false)⟩,
    ⟨some 10, none, .alloc 5 (.agg [(.raw (.bool false)), (.raw (.bool false)), (.raw (.int .i64 0)), (.raw (.int .i64 0)), (.raw (.bool false))])⟩,
    ⟨none, none, .store 5 (.t 10) (.t 56)⟩]] [0, 2, 4, 7, 8, 9, 10, 14, 15, 16])
  (.seq (.rg [⟨some 57, none, .q (.fa 0 (.t 8))⟩,
    ⟨some 58, none, .q (.load none (.t 57))⟩,
    ⟨some 59, none, .q (.bin .eql .prim (.t 58) (.c (.raw (.int .i64 2))))⟩,
    ⟨some 60, none, .q (.mv (.t 59))⟩,
    ⟨some 61, some (60, true), .q (.fa 3 (.t 10))⟩,
    ⟨some 62, some (60, true), .q (.load none (.t 61))⟩,
    ⟨some 63, some (60, true), .q (.mv (.t 7))⟩,
    ⟨some 64, some (60, true), .q (.bin .eql .prim (.t 62) (.t 63))⟩,
    ⟨some 65, none, .q (.pick (.t 60) (.t 64) (.c (.raw (.bool false))))⟩,
    ⟨some 66, none, .q (.mv (.t 65))⟩,
    ⟨some 67, some (66, true), .q (.fa 2 (.t 10))⟩,
    ⟨some 68, some (66, true), .q (.load none (.t 67))⟩,
    ⟨some 69, some (66, true), .q (.fa 1 (.t 4))⟩,
    ⟨some 70, some (66, true), .q (.load none (.t 69))⟩,
    ⟨some 71, some (66, true), .q (.bin .eql .prim (.t 68) (.t 70))⟩,
    ⟨some 72, none, .q (.pick (.t 66) (.t 71) (.c (.raw (.bool false))))⟩,
    ⟨some 73, none, .q (.mv (.t 72))⟩,
    ⟨some 74, some (73, true), .q (.mv (.t 0))⟩,
    ⟨some 75, some (73, true), .q (.load (some 2) (.t 9))⟩,
    ⟨some 76, some (73, true), .call 33 [(.t 74), (.t 75)]⟩,
    ⟨some 77, none, .q (.pick (.t 73) (.t 76) (.c (.raw (.bool false))))⟩,
    ⟨some 78, none, .q (.mv (.t 77))⟩,
    ⟨some 79, some (78, true), .q (.mv (.t 0))⟩,
    ⟨some 80, some (78, true), .q (.load (some 2) (.t 9))⟩,
    ⟨some 81, some (78, true), .q (.mv (.t 2))⟩,
    ⟨some 82, some (78, true), .call 40 [(.t 79), (.t 80), (.t 81)]⟩,
    ⟨some 83, some (78, true), .q (.un .not (.t 82))⟩,
    ⟨some 84, none, .q (.pick (.t 78) (.t 83) (.c (.raw (.bool false))))⟩] [0, 2, 4, 14, 15, 16, 84])
  (.cond (.t 84) (.seq (.rg [⟨some 6, none, .q (.mv (.c (.raw (.bool false))))⟩] [6])
  .ret) .skip))))))))
  (.rg [⟨some 85, none, .q (.bin .add .prim (.t 16) (.c (.raw (.int .i64 1))))⟩,
    ⟨some 16, none, .q (.mv (.t 85))⟩] [0, 2, 4, 14, 15, 16]))))
def a40 : AFunc := { n := 86, nparams := 3, res := [.tmp 6], body := (.seq (.rg [⟨some 4, none, .box 2 (.t 1)⟩,
    ⟨some 6, none, .q (.mv (.c (.raw (.bool false))))⟩] [0, 2, 4])
  (.seq (.seq (.rg [⟨some 11, none, .q (.mv (.t 0))⟩,
    ⟨some 12, none, .q (.nilc (.t 11))⟩,
    ⟨some 13, none, .q (.fa 0 (.t 12))⟩,
    ⟨some 14, none, .q (.load none (.t 13))⟩,
    ⟨some 15, none, .q (.len (.t 14))⟩,
    ⟨some 16, none, .q (.mv (.c (.raw (.int .i64 0))))⟩] [0, 2, 4, 14, 15, 16])
  (.block 0 (.loop a40_L0)))
  (.seq (.rg [⟨some 6, none, .q (.mv (.c (.raw (.bool true))))⟩] [6])
  .ret))) }
theorem a40_ok : genFunc Go.Proofs.Try.prog ⟨[(0, [0, 2, 4]), (1, [0, 2, 4, 14, 15, 16]), (2, [0, 2, 4, 14, 15, 16, 17]), (3, [0, 2, 4, 7, 8, 14, 15, 16]), (4, [0, 2, 4, 7, 8, 14, 15, 16, 25]), (5, [0, 2, 4, 7, 8, 14, 15, 16, 45]), (6, [6]), (7, [0, 2, 4, 7, 8, 9, 14, 15, 16]), (8, [0, 2, 4, 7, 8, 9, 10, 14, 15, 16]), (9, [0, 2, 4, 14, 15, 16, 84]), (10, [6]), (11, [0, 2, 4, 14, 15, 16]), (12, [6])], [], false, [], [], [], false⟩ Go.Proofs.Try.f40 = some a40 := by kernel_rfl

def a41 : AFunc := { n := 46, nparams := 3, res := [.tmp 6], body := (.seq (.rg [⟨some 6, none, .q (.mv (.c (.raw (.bool false))))⟩] [0, 1, 2])
  (.seq (.rg [⟨some 8, none, .q (.mv (.t 0))⟩,
    ⟨some 9, none, .q (.mv (.t 1))⟩,
    ⟨some 10, none, .q (.ia 7 (.t 8) (.t 9))⟩,
    ⟨some 11, none, .q (.load (some 7) (.t 10))⟩,
    ⟨some 7, none, .alloc 7 (.agg [(.raw (.int .i64 0)), (.raw (.int .i64 0)), (.raw (.int .i64 0)), (.raw (.int .i64 0)), (.raw (.int .i64 0)), (.raw (.slice none 0 0)), (.raw (.slice none 0 0))])⟩,
    ⟨none, none, .store 7 (.t 7) (.t 11)⟩] [0, 1, 2, 7])
  (.seq (.seq (.rg [⟨some 12, none, .q (.fa 0 (.t 7))⟩,
    ⟨some 13, none, .q (.load none (.t 12))⟩,
    ⟨some 14, none, .q (.bin .neq .prim (.t 13) (.c (.raw (.int .i64 2))))⟩,
    ⟨some 15, none, .q (.mv (.t 14))⟩,
    ⟨some 16, some (15, false), .q (.mv (.t 0))⟩,
    ⟨some 17, some (15, false), .q (.fa 1 (.t 7))⟩,
    ⟨some 18, some (15, false), .q (.load none (.t 17))⟩,
    ⟨some 19, some (15, false), .q (.fa 2 (.t 7))⟩,
    ⟨some 20, some (15, false), .q (.load none (.t 19))⟩,
    ⟨some 21, some (15, false), .call 35 [(.t 16), (.t 18), (.t 20)]⟩,
    ⟨some 22, some (15, false), .q (.mv (.t 1))⟩,
    ⟨some 23, some (15, false), .q (.bin .neq .prim (.t 21) (.t 22))⟩,
    ⟨some 24, none, .q (.pick (.t 15) (.c (.raw (.bool true))) (.t 23))⟩,
    ⟨some 25, none, .q (.mv (.t 24))⟩,
    ⟨some 26, some (25, false), .q (.mv (.t 0))⟩,
    ⟨some 27, some (25, false), .q (.fa 1 (.t 7))⟩,
    ⟨some 28, some (25, false), .q (.load none (.t 27))⟩,
    ⟨some 29, some (25, false), .q (.fa 2 (.t 7))⟩,
    ⟨some 30, some (25, false), .q (.load none (.t 29))⟩,
    ⟨some 31, some (25, false), .call 19 [(.t 26), (.t 28), (.t 30)]⟩,
    ⟨some 32, some (25, false), .q (.un .not (.t 31))⟩,
    ⟨some 33, none, .q (.pick (.t 25) (.c (.raw (.bool true))) (.t 32))⟩] [0, 2, 7, 33])
  (.cond (.t 33) (.seq (.rg [⟨some 6, none, .q (.mv (.c (.raw (.bool false))))⟩] [6])
  .ret) .skip))
  (.seq (.rg [⟨some 34, none, .q (.mv (.t 0))⟩,
    ⟨some 35, none, .q (.mv (.t 0))⟩,
    ⟨some 36, none, .q (.fa 1 (.t 7))⟩,
    ⟨some 37, none, .q (.load none (.t 36))⟩,
    ⟨some 38, none, .q (.fa 2 (.t 7))⟩,
    ⟨some 39, none, .q (.load none (.t 38))⟩,
    ⟨some 40, none, .call 34 [(.t 35), (.t 37), (.t 39)]⟩,
    ⟨some 41, none, .q (.ia 7 (.t 34) (.t 40))⟩,
    ⟨some 42, none, .q (.fa 3 (.t 41))⟩,
    ⟨some 43, none, .q (.load none (.t 42))⟩,
    ⟨some 44, none, .q (.mv (.t 2))⟩,
    ⟨some 45, none, .q (.bin .eql .prim (.t 43) (.t 44))⟩,
    ⟨some 6, none, .q (.mv (.t 45))⟩] [6])
  .ret)))) }
theorem a41_ok : genFunc Go.Proofs.Try.prog ⟨[(0, [0, 1, 2]), (1, [0, 1, 2, 7]), (2, [0, 2, 7, 33]), (3, [6]), (4, [6])], [], false, [], [], [], false⟩ Go.Proofs.Try.f41 = some a41 := by kernel_rfl

def a43_L0 : ACode := (.seq (.seq (.rg [⟨some 29, none, .q (.mv (.t 5))⟩,
    ⟨some 30, none, .q (.mv (.t 4))⟩,
    ⟨some 31, none, .q (.len (.t 30))⟩,
    ⟨some 32, none, .q (.bin .lss .prim (.t 29) (.t 31))⟩] [0, 3, 4, 5, 32])
  (.cond (.t 32) .skip (.exit 2)))
  (.seq (.block 3 (.seq (.rgs [[⟨some 35, none, .q (.mv (.t 4))⟩,
    ⟨some 36, none, .q (.mv (.t 5))⟩,
    ⟨some 37, none, .q (.ia 1 (.t 35) (.t 36))⟩,
    ⟨some 38, none, .q (.load none (.t 37))⟩,
    ⟨some 39, none, .q (.mv (.t 4))⟩,
    ⟨some 40, none, .q (.mv (.t 5))⟩,
    ⟨some 41, none, .q (.bin .sub .prim (.t 40) (.c (.raw (.int .i64 1))))⟩,
    ⟨some 42, none, .q (.ia 1 (.t 39) (.t 41))⟩,
    ⟨some 43, none, .q (.load none (.t 42))⟩,
    ⟨some 44, none, .q (.bin .neq .prim (.t 38) (.t 43))⟩]] [0, 3, 4, 5, 44])
  (.cond (.t 44) (.seq (.rg [⟨some 45, none, .q (.mv (.t 0))⟩,
    ⟨some 46, none, .q (.mv (.t 3))⟩,
    ⟨some 47, none, .q (.mv (.t 4))⟩,
    ⟨some 48, none, .q (.mv (.t 5))⟩,
    ⟨some 49, none, .q (.ia 1 (.t 47) (.t 48))⟩,
    ⟨some 50, none, .q (.load none (.t 49))⟩,
    ⟨some 51, none, .q (.ia 1 (.t 45) (.t 46))⟩,
    ⟨none, none, .store 1 (.t 51) (.t 50)⟩] [0, 3, 4, 5])
  (.rg [⟨some 52, none, .q (.mv (.t 3))⟩,
    ⟨some 53, none, .q (.bin .add .prim (.t 52) (.c (.raw (.int .i64 1))))⟩,
    ⟨some 3, none, .q (.mv (.t 53))⟩] [0, 3, 4, 5])) .skip)))
  (.rg [⟨some 33, none, .q (.mv (.t 5))⟩,
    ⟨some 34, none, .q (.bin .add .prim (.t 33) (.c (.raw (.int .i64 1))))⟩,
    ⟨some 5, none, .q (.mv (.t 34))⟩] [0, 3, 4, 5])))
def a43_L1 : ACode := (.seq (.seq (.rg [⟨some 10, none, .q (.mv (.t 3))⟩,
    ⟨some 11, none, .q (.mv (.t 0))⟩,
    ⟨some 12, none, .q (.len (.t 11))⟩,
    ⟨some 13, none, .q (.bin .lss .prim (.t 10) (.t 12))⟩] [0, 3, 13])
  (.cond (.t 13) .skip (.exit 0)))
  (.seq (.block 1 (.seq (.rgs [[⟨some 16, none, .q (.mv (.t 0))⟩,
    ⟨some 17, none, .q (.mv (.t 3))⟩,
    ⟨some 18, none, .q (.ia 1 (.t 16) (.t 17))⟩,
    ⟨some 19, none, .q (.load none (.t 18))⟩,
    ⟨some 20, none, .q (.mv (.t 0))⟩,
    ⟨some 21, none, .q (.mv (.t 3))⟩,
    ⟨some 22, none, .q (.bin .sub .prim (.t 21) (.c (.raw (.int .i64 1))))⟩,
    ⟨some 23, none, .q (.ia 1 (.t 20) (.t 22))⟩,
    ⟨some 24, none, .q (.load none (.t 23))⟩,
    ⟨some 25, none, .q (.bin .eql .prim (.t 19) (.t 24))⟩]] [0, 3, 25])
  (.cond (.t 25) (.seq (.rg [⟨some 26, none, .q (.mv (.t 0))⟩,
    ⟨some 27, none, .q (.mv (.t 3))⟩,
    ⟨some 28, none, .q (.sub 1 (.t 26) (some (.t 27)) none none)⟩,
    ⟨some 4, none, .q (.mv (.t 28))⟩] [0, 3, 4])
  (.seq (.seq (.rg [⟨some 5, none, .q (.mv (.c (.raw (.int .i64 1))))⟩] [0, 3, 4, 5])
  (.block 2 (.loop a43_L0)))
  (.seq (.rg [⟨some 54, none, .q (.mv (.t 0))⟩,
    ⟨some 55, none, .q (.mv (.t 3))⟩,
    ⟨some 56, none, .q (.sub 1 (.t 54) (some (.t 55)) none none)⟩,
    ⟨none, none, .clrs 1 (.raw (.int .i64 0)) (.t 56)⟩] [0, 3])
  (.seq (.rg [⟨some 57, none, .q (.mv (.t 0))⟩,
    ⟨some 58, none, .q (.mv (.t 3))⟩,
    ⟨some 59, none, .q (.sub 1 (.t 57) none (some (.t 58)) none)⟩,
    ⟨some 2, none, .q (.mv (.t 59))⟩] [2])
  .ret)))) .skip)))
  (.rg [⟨some 14, none, .q (.mv (.t 3))⟩,
    ⟨some 15, none, .q (.bin .add .prim (.t 14) (.c (.raw (.int .i64 1))))⟩,
    ⟨some 3, none, .q (.mv (.t 15))⟩] [0, 3])))
def a43 : AFunc := { n := 61, nparams := 1, res := [.tmp 2], body := (.seq (.rg [⟨some 2, none, .q (.mv (.c (.raw (.slice none 0 0))))⟩] [0])
  (.seq (.seq (.rg [⟨some 6, none, .q (.mv (.t 0))⟩,
    ⟨some 7, none, .q (.len (.t 6))⟩,
    ⟨some 8, none, .q (.bin .lss .prim (.t 7) (.c (.raw (.int .i64 2))))⟩] [0, 8])
  (.cond (.t 8) (.seq (.rg [⟨some 9, none, .q (.mv (.t 0))⟩,
    ⟨some 2, none, .q (.mv (.t 9))⟩] [2])
  .ret) .skip))
  (.seq (.seq (.rg [⟨some 3, none, .q (.mv (.c (.raw (.int .i64 1))))⟩] [0, 3])
  (.block 0 (.loop a43_L1)))
  (.seq (.rg [⟨some 60, none, .q (.mv (.t 0))⟩,
    ⟨some 2, none, .q (.mv (.t 60))⟩] [2])
  .ret)))) }
theorem a43_ok : genFunc Go.Proofs.Try.prog ⟨[(0, [0]), (1, [0, 8]), (2, [2]), (3, [0, 3]), (4, [0, 3, 13]), (6, [0, 3, 25]), (7, [0, 3, 4]), (8, [0, 3, 4, 5]), (9, [0, 3, 4, 5, 32]), (11, [0, 3, 4, 5, 44]), (12, [0, 3, 4, 5]), (13, [0, 3, 4, 5]), (10, [0, 3, 4, 5]), (14, [0, 3]), (15, [2]), (5, [0, 3]), (16, [2])], [], false, [], [], [], false⟩ Go.Proofs.Try.f43 = some a43 := by kernel_rfl

def a44 : AFunc := { n := 11, nparams := 1, res := [.tmp 2], body := (.seq (.rg [⟨some 1, none, .box 7 (.t 0)⟩,
    ⟨some 2, none, .q (.mv (.c (.raw (.bool false))))⟩] [1])
  (.seq (.rg [⟨some 3, none, .q (.fa 0 (.t 1))⟩,
    ⟨some 4, none, .q (.load none (.t 3))⟩,
    ⟨some 5, none, .q (.bin .geq .prim (.t 4) (.c (.raw (.int .i64 4))))⟩,
    ⟨some 6, none, .q (.mv (.t 5))⟩,
    ⟨some 7, some (6, true), .q (.fa 0 (.t 1))⟩,
    ⟨some 8, some (6, true), .q (.load none (.t 7))⟩,
    ⟨some 9, some (6, true), .q (.bin .leq .prim (.t 8) (.c (.raw (.int .i64 7))))⟩,
    ⟨some 10, none, .q (.pick (.t 6) (.t 9) (.c (.raw (.bool false))))⟩,
    ⟨some 2, none, .q (.mv (.t 10))⟩] [2])
  .ret)) }
theorem a44_ok : genFunc Go.Proofs.Try.prog ⟨[(0, [1]), (1, [2])], [], false, [], [], [], false⟩ Go.Proofs.Try.f44 = some a44 := by kernel_rfl

end Go.Proofs.Ytaeanhonfoakeaa
end
