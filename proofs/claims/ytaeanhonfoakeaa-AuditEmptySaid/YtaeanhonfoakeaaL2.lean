/- Pieces of the digest of told. Pieces of the digest of AuditTells. -/
import Derived.Test.YtaeanhonfoakeaaL0
import Derived.Test.YtaeanhonfoakeaaL1
section
namespace Go.Proofs.Ytaeanhonfoakeaa
open Go Heron
def a40_A : ACode := (.seq (.rg [⟨some 26, none, .q (.load (some 7) (.t 8))⟩,
    ⟨some 27, none, .call 44 [(.t 26)]⟩,
    ⟨some 28, none, .q (.mv (.t 27))⟩,
    ⟨some 29, some (28, true), .q (.fa 2 (.t 8))⟩,
    ⟨some 30, some (28, true), .q (.load none (.t 29))⟩,
    ⟨some 31, some (28, true), .q (.fa 1 (.t 4))⟩,
    ⟨some 32, some (28, true), .q (.load none (.t 31))⟩,
    ⟨some 33, some (28, true), .q (.bin .eql .prim (.t 30) (.t 32))⟩,
    ⟨some 34, none, .q (.pick (.t 28) (.t 33) (.c (.raw (.bool false))))⟩,
    ⟨some 35, none, .q (.mv (.t 34))⟩,
    ⟨some 36, some (35, true), .q (.fa 1 (.t 4))⟩,
    ⟨some 37, some (35, true), .q (.load none (.t 36))⟩,
    ⟨some 38, some (35, true), .q (.bin .neq .prim (.t 37) (.c (.raw (.int .i64 (-1)))))⟩,
    ⟨some 39, none, .q (.pick (.t 35) (.t 38) (.c (.raw (.bool false))))⟩,
    ⟨some 40, none, .q (.mv (.t 39))⟩,
    ⟨some 41, some (40, true), .q (.mv (.t 2))⟩,
    ⟨some 42, some (40, true), .q (.load (some 7) (.t 8))⟩,
    ⟨some 43, some (40, true), .calv (.t 41) [(.t 42)]⟩,
    ⟨some 44, some (40, true), .q (.un .not (.t 43))⟩,
    ⟨some 45, none, .q (.pick (.t 40) (.t 44) (.c (.raw (.bool false))))⟩] [0, 2, 4, 7, 8, 14, 15, 16, 45])
  (.cond (.t 45) (.seq (.rg [⟨some 6, none, .q (.mv (.c (.raw (.bool false))))⟩] [6])
  .ret) .skip))
def a40_T : ACode := (.seq (.rg [⟨some 46, none, .q (.fa 1 (.t 8))⟩,
    ⟨some 47, none, .q (.load none (.t 46))⟩,
    ⟨some 48, none, .q (.fa 2 (.t 8))⟩,
    ⟨some 49, none, .q (.load none (.t 48))⟩,
    ⟨some 50, none, .q (.build [(.raw (.int .i64 0)), (.raw (.int .i64 0))] [(0, 1, (.t 47)), (1, 1, (.t 49))])⟩,
    ⟨some 9, none, .alloc 2 (.agg [(.raw (.int .i64 0)), (.raw (.int .i64 0))])⟩,
    ⟨none, none, .store 2 (.t 9) (.t 50)⟩] [0, 2, 4, 7, 8, 9, 14, 15, 16])
  (.seq (.rgs [[⟨some 51, none, .q (.mv (.t 0))⟩,
    ⟨some 52, none, .q (.nilc (.t 51))⟩,
    ⟨some 53, none, .q (.fa 1 (.t 52))⟩,
    ⟨some 54, none, .q (.load none (.t 53))⟩,
    ⟨some 55, none, .q (.load (some 2) (.t 9))⟩,
    ⟨some 56, none, .q (.lk (.ints 2) (.agg [(.raw (.bool false)), (.raw (.bool false)), (.raw (.int .i64 0)), (.raw (.int .i64 0)), (.raw (.bool false))]) (.t 54) (.t 55) false)⟩,
    ⟨some 10, none, .alloc 5 (.agg [(.raw (.bool false)), (.raw (.bool false)), (.raw (.int .i64 0)), (.raw (.int .i64 0)), (.raw (.bool false))])⟩,
    ⟨none, none, .store 5 (.t 10) (.t 56)⟩]] [0, 2, 4, 7, 8, 9, 10, 14, 15, 16])
  (.seq (.rg [⟨some 57, none, .q (.fa 0 (.t 8))⟩,
    ⟨some 58, none, .q (.load none (.t 57))⟩,
    ⟨some 59, none, .q (.bin .eql .prim (.t 58) (.c (.raw (.int .i64 2))))⟩,
    ⟨some 60, none, .q (.mv (.t 59))⟩,
    ⟨some 61, some (60, true), .q (.fa 3 (.t 10))⟩,
    ⟨some 62, some (60, true), .q (.load none (.t 61))⟩,
    ⟨some 63, some (60, true), .q (.mv (.t 7))⟩,
    ⟨some 64, some (60, true), .q (.bin .eql .prim (.t 62) (.t 63))⟩,
    ⟨some 65, none, .q (.pick (.t 60) (.t 64) (.c (.raw (.bool false))))⟩,
    ⟨some 66, none, .q (.mv (.t 65))⟩,
    ⟨some 67, some (66, true), .q (.fa 2 (.t 10))⟩,
    ⟨some 68, some (66, true), .q (.load none (.t 67))⟩,
    ⟨some 69, some (66, true), .q (.fa 1 (.t 4))⟩,
    ⟨some 70, some (66, true), .q (.load none (.t 69))⟩,
    ⟨some 71, some (66, true), .q (.bin .eql .prim (.t 68) (.t 70))⟩,
    ⟨some 72, none, .q (.pick (.t 66) (.t 71) (.c (.raw (.bool false))))⟩,
    ⟨some 73, none, .q (.mv (.t 72))⟩,
    ⟨some 74, some (73, true), .q (.mv (.t 0))⟩,
    ⟨some 75, some (73, true), .q (.load (some 2) (.t 9))⟩,
    ⟨some 76, some (73, true), .call 33 [(.t 74), (.t 75)]⟩,
    ⟨some 77, none, .q (.pick (.t 73) (.t 76) (.c (.raw (.bool false))))⟩,
    ⟨some 78, none, .q (.mv (.t 77))⟩,
    ⟨some 79, some (78, true), .q (.mv (.t 0))⟩,
    ⟨some 80, some (78, true), .q (.load (some 2) (.t 9))⟩,
    ⟨some 81, some (78, true), .q (.mv (.t 2))⟩,
    ⟨some 82, some (78, true), .call 40 [(.t 79), (.t 80), (.t 81)]⟩,
    ⟨some 83, some (78, true), .q (.un .not (.t 82))⟩,
    ⟨some 84, none, .q (.pick (.t 78) (.t 83) (.c (.raw (.bool false))))⟩] [0, 2, 4, 14, 15, 16, 84])
  (.cond (.t 84) (.seq (.rg [⟨some 6, none, .q (.mv (.c (.raw (.bool false))))⟩] [6])
  .ret) .skip))))
theorem a40_L0_cut : a40_L0 = (.seq (.rg [⟨some 17, none, .q (.bin .lss .prim (.t 16) (.t 15))⟩] [0, 2, 4, 14, 15, 16, 17])
  (.seq (.cond (.t 17) .skip (.exit 0))
  (.seq (.block 1 (.seq (.rg [⟨some 18, none, .q (.mv (.t 16))⟩,
    ⟨some 19, none, .q (.ia 7 (.t 14) (.t 16))⟩,
    ⟨some 20, none, .q (.load (some 7) (.t 19))⟩,
    ⟨some 8, none, .alloc 7 (.agg [(.raw (.int .i64 0)), (.raw (.int .i64 0)), (.raw (.int .i64 0)), (.raw (.int .i64 0)), (.raw (.int .i64 0)), (.raw (.slice none 0 0)), (.raw (.slice none 0 0))])⟩,
    ⟨some 7, none, .q (.mv (.t 18))⟩,
    ⟨none, none, .store 7 (.t 8) (.t 20)⟩] [0, 2, 4, 7, 8, 14, 15, 16])
  (.seq (.seq (.rg [⟨some 21, none, .q (.fa 1 (.t 8))⟩,
    ⟨some 22, none, .q (.load none (.t 21))⟩,
    ⟨some 23, none, .q (.fa 0 (.t 4))⟩,
    ⟨some 24, none, .q (.load none (.t 23))⟩,
    ⟨some 25, none, .q (.bin .neq .prim (.t 22) (.t 24))⟩] [0, 2, 4, 7, 8, 14, 15, 16, 25])
  (.cond (.t 25) (.exit 1) .skip))
  (.seq a40_A
  a40_T))))
  (.rg [⟨some 85, none, .q (.bin .add .prim (.t 16) (.c (.raw (.int .i64 1))))⟩,
    ⟨some 16, none, .q (.mv (.t 85))⟩] [0, 2, 4, 14, 15, 16])))) := rfl
end Go.Proofs.Ytaeanhonfoakeaa
end

section
namespace Go.Proofs.Ytaeanhonfoakeaa
open Go Heron
def a3g_T : ACode := (.seq (.rg [⟨some 45, none, .call 9 [(.c (.raw (.int .i64 4))), (.c (.raw (.int .i64 0)))]⟩,
    ⟨some 46, none, .q (.mv (.t 11))⟩,
    ⟨some 47, none, .call 8 [(.t 45), (.t 46)]⟩,
    ⟨some 12, none, .q (.mv (.t 47))⟩] [2, 7, 8, 9, 11, 12])
  (.seq (.seq (.rg [⟨some 48, none, .q (.mv (.t 11))⟩,
    ⟨some 49, none, .q (.build [(.raw (.int .i64 0)), (.raw (.int .i64 0)), (.raw (.int .i64 0)), (.raw (.int .i64 0)), (.raw (.int .i64 0)), (.raw (.slice none 0 0)), (.raw (.slice none 0 0))] [(0, 1, (.c (.raw (.int .i64 2))))])⟩,
    ⟨some 50, none, .bsl 7 1 (.agg [(.raw (.int .i64 0)), (.raw (.int .i64 0)), (.raw (.int .i64 0)), (.raw (.int .i64 0)), (.raw (.int .i64 0)), (.raw (.slice none 0 0)), (.raw (.slice none 0 0))]) [(0, (.t 49))]⟩,
    ⟨some 51, none, .app 7 88 (.t 48) (.t 50)⟩,
    ⟨some 11, none, .q (.mv (.t 51))⟩] [2, 7, 8, 9, 11, 12])
  .gh)
  (.seq (.rg [⟨some 53, none, .call 9 [(.c (.raw (.int .i64 4))), (.c (.raw (.int .i64 0)))]⟩,
    ⟨some 54, none, .q (.mv (.t 11))⟩,
    ⟨some 55, none, .call 11 [(.t 54)]⟩,
    ⟨some 56, none, .call 10 [(.t 53), (.t 55)]⟩,
    ⟨some 52, none, .q (.mv (.t 56))⟩,
    ⟨some 57, none, .q (.ext (.t 52) 0)⟩,
    ⟨some 58, none, .q (.ext (.t 52) 1)⟩,
    ⟨some 13, none, .alloc 2 (.agg [(.raw (.slice none 0 0)), (.raw (.slice none 0 0))])⟩,
    ⟨none, none, .store 2 (.t 13) (.t 57)⟩,
    ⟨some 14, none, .q (.mv (.t 58))⟩] [2, 7, 8, 9, 11, 12, 13, 14])
  (.seq (.rgs [[⟨some 59, none, .q (.mv (.t 7))⟩,
    ⟨some 60, none, .q (.mv (.t 59))⟩,
    ⟨some 61, some (60, true), .q (.mv (.t 12))⟩,
    ⟨some 62, none, .q (.pick (.t 60) (.t 61) (.c (.raw (.bool false))))⟩,
    ⟨some 63, none, .q (.mv (.t 62))⟩,
    ⟨some 64, some (63, true), .qcall 9 [(.c (.raw (.int .i64 4))), (.c (.raw (.int .i64 0)))]⟩,
    ⟨some 65, some (63, true), .q (.mv (.t 11))⟩,
    ⟨some 66, some (63, true), .qcall 8 [(.t 64), (.t 65)]⟩,
    ⟨some 67, some (63, true), .q (.mv (.t 2))⟩,
    ⟨some 68, some (63, true), .q (.bin .and .prim (.t 67) (.c (.raw (.int .i64 1))))⟩,
    ⟨some 69, some (63, true), .q (.bin .eql .prim (.t 68) (.c (.raw (.int .i64 0))))⟩,
    ⟨some 70, some (63, true), .q (.bin .eql .bool (.t 66) (.t 69))⟩,
    ⟨some 71, none, .q (.pick (.t 63) (.t 70) (.c (.raw (.bool false))))⟩,
    ⟨some 72, none, .q (.mv (.t 71))⟩,
    ⟨some 73, some (72, true), .q (.mv (.t 2))⟩,
    ⟨some 74, some (72, true), .q (.bin .and .prim (.t 73) (.c (.raw (.int .i64 1))))⟩,
    ⟨some 75, some (72, true), .q (.bin .eql .prim (.t 74) (.c (.raw (.int .i64 0))))⟩,
    ⟨some 76, some (72, true), .q (.mv (.t 14))⟩,
    ⟨some 77, some (72, true), .q (.bin .eql .prim (.t 76) (.c (.raw (.int .i64 (-1)))))⟩,
    ⟨some 78, some (72, true), .q (.bin .eql .bool (.t 75) (.t 77))⟩,
    ⟨some 79, none, .q (.pick (.t 72) (.t 78) (.c (.raw (.bool false))))⟩,
    ⟨some 80, none, .q (.mv (.t 79))⟩,
    ⟨some 81, some (80, true), .q (.fa 0 (.t 13))⟩,
    ⟨some 82, some (80, true), .q (.load none (.t 81))⟩,
    ⟨some 83, some (80, true), .q (.len (.t 82))⟩,
    ⟨some 84, some (80, true), .q (.bin .eql .prim (.t 83) (.c (.raw (.int .i64 4))))⟩,
    ⟨some 85, none, .q (.pick (.t 80) (.t 84) (.c (.raw (.bool false))))⟩,
    ⟨some 86, none, .q (.mv (.t 85))⟩,
    ⟨some 87, some (86, true), .q (.fa 0 (.t 13))⟩,
    ⟨some 88, some (86, true), .q (.load none (.t 87))⟩,
    ⟨some 89, some (86, true), .q (.mv (.t 8))⟩,
    ⟨some 90, some (86, true), .q (.ia 1 (.t 88) (.t 89))⟩,
    ⟨some 91, some (86, true), .q (.load none (.t 90))⟩,
    ⟨some 92, some (86, true), .q (.b2s (.t 91))⟩,
    ⟨some 93, some (86, true), .q (.mv (.t 9))⟩,
    ⟨some 94, some (86, true), .q (.b2s (.t 93))⟩,
    ⟨some 95, some (86, true), .q (.bin .eql .prim (.t 92) (.t 94))⟩,
    ⟨some 96, none, .q (.pick (.t 86) (.t 95) (.c (.raw (.bool false))))⟩,
    ⟨some 6, none, .q (.mv (.t 96))⟩]] [6])
  .ret))))
theorem a3g_cut : a3g.body = (.seq (.rg [⟨some 6, none, .q (.mv (.c (.raw (.bool false))))⟩] [0, 1, 2])
  (.seq (.rg [⟨some 15, none, .call 7 []⟩,
    ⟨some 7, none, .q (.mv (.t 15))⟩] [0, 1, 2, 7])
  (.seq (.rg [⟨some 16, none, .q (.mv (.t 0))⟩,
    ⟨some 17, none, .q (.bin .and .prim (.t 16) (.c (.raw (.int .i64 3))))⟩,
    ⟨some 8, none, .q (.mv (.t 17))⟩] [1, 2, 7, 8])
  (.seq (.rg [⟨some 18, none, .mks 1 1 (.raw (.int .u8 0)) (.c (.raw (.int .i64 32))) (.c (.raw (.int .i64 32)))⟩,
    ⟨some 9, none, .q (.mv (.t 18))⟩] [1, 2, 7, 8, 9])
  (.seq (.seq (.rg [⟨some 19, none, .q (.mv (.t 9))⟩,
    ⟨some 20, none, .q (.mv (.t 1))⟩,
    ⟨some 21, none, .q (.ia 1 (.t 19) (.c (.raw (.int .i64 0))))⟩,
    ⟨none, none, .store 1 (.t 21) (.t 20)⟩] [1, 2, 7, 8, 9])
  .gh)
  (.seq (.rg [⟨some 22, none, .mks 1 1 (.raw (.int .u8 0)) (.c (.raw (.int .i64 32))) (.c (.raw (.int .i64 32)))⟩,
    ⟨some 10, none, .q (.mv (.t 22))⟩] [1, 2, 7, 8, 9, 10])
  (.seq (.seq (.rg [⟨some 23, none, .q (.mv (.t 10))⟩,
    ⟨some 24, none, .q (.mv (.t 1))⟩,
    ⟨some 25, none, .q (.bin .add .prim (.t 24) (.c (.raw (.int .u8 1))))⟩,
    ⟨some 26, none, .q (.ia 1 (.t 23) (.c (.raw (.int .i64 0))))⟩,
    ⟨none, none, .store 1 (.t 26) (.t 25)⟩] [1, 2, 7, 8, 9, 10])
  .gh)
  (.seq (.seq (.rg [⟨some 27, none, .q (.build [(.raw (.int .i64 0)), (.raw (.int .i64 0)), (.raw (.int .i64 0)), (.raw (.int .i64 0)), (.raw (.int .i64 0)), (.raw (.slice none 0 0)), (.raw (.slice none 0 0))] [(0, 1, (.c (.raw (.int .i64 1)))), (3, 1, (.c (.raw (.int .i64 (-1)))))])⟩,
    ⟨some 28, none, .q (.mv (.t 8))⟩,
    ⟨some 29, none, .q (.mv (.t 1))⟩,
    ⟨some 30, none, .bsl 1 1 (.raw (.int .u8 0)) [(0, (.t 29))]⟩,
    ⟨some 31, none, .q (.build [(.raw (.int .i64 0)), (.raw (.int .i64 0)), (.raw (.int .i64 0)), (.raw (.int .i64 0)), (.raw (.int .i64 0)), (.raw (.slice none 0 0)), (.raw (.slice none 0 0))] [(0, 1, (.c (.raw (.int .i64 5)))), (3, 1, (.t 28)), (5, 1, (.t 30))])⟩,
    ⟨some 32, none, .q (.mv (.t 8))⟩,
    ⟨some 33, none, .q (.mv (.t 9))⟩,
    ⟨some 34, none, .q (.build [(.raw (.int .i64 0)), (.raw (.int .i64 0)), (.raw (.int .i64 0)), (.raw (.int .i64 0)), (.raw (.int .i64 0)), (.raw (.slice none 0 0)), (.raw (.slice none 0 0))] [(0, 1, (.c (.raw (.int .i64 4)))), (3, 1, (.t 32)), (5, 1, (.t 33))])⟩,
    ⟨some 35, none, .bsl 7 3 (.agg [(.raw (.int .i64 0)), (.raw (.int .i64 0)), (.raw (.int .i64 0)), (.raw (.int .i64 0)), (.raw (.int .i64 0)), (.raw (.slice none 0 0)), (.raw (.slice none 0 0))]) [(0, (.t 27)), (1, (.t 31)), (2, (.t 34))]⟩,
    ⟨some 11, none, .q (.mv (.t 35))⟩] [2, 7, 8, 9, 10, 11])
  .gh)
  (.seq (.seq (.rg [⟨some 36, none, .q (.mv (.t 2))⟩,
    ⟨some 37, none, .q (.bin .and .prim (.t 36) (.c (.raw (.int .i64 1))))⟩,
    ⟨some 38, none, .q (.bin .eql .prim (.t 37) (.c (.raw (.int .i64 1))))⟩] [2, 7, 8, 9, 10, 11, 38])
  (.cond (.t 38) (.rg [⟨some 39, none, .q (.mv (.t 11))⟩,
    ⟨some 40, none, .q (.mv (.t 8))⟩,
    ⟨some 41, none, .q (.mv (.t 10))⟩,
    ⟨some 42, none, .q (.build [(.raw (.int .i64 0)), (.raw (.int .i64 0)), (.raw (.int .i64 0)), (.raw (.int .i64 0)), (.raw (.int .i64 0)), (.raw (.slice none 0 0)), (.raw (.slice none 0 0))] [(0, 1, (.c (.raw (.int .i64 4)))), (3, 1, (.t 40)), (5, 1, (.t 41))])⟩,
    ⟨some 43, none, .bsl 7 1 (.agg [(.raw (.int .i64 0)), (.raw (.int .i64 0)), (.raw (.int .i64 0)), (.raw (.int .i64 0)), (.raw (.int .i64 0)), (.raw (.slice none 0 0)), (.raw (.slice none 0 0))]) [(0, (.t 42))]⟩,
    ⟨some 44, none, .app 7 88 (.t 39) (.t 43)⟩,
    ⟨some 11, none, .q (.mv (.t 44))⟩] [2, 7, 8, 9, 11]) .skip))
  a3g_T))))))))) := rfl
end Go.Proofs.Ytaeanhonfoakeaa
end
