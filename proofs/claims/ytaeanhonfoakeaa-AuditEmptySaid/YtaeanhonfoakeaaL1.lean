/- Digests: the library's sort, as far as nothing is sorted. Digests with ghost steps. The sort's laying at this dump, in plain words (printed by the kit's lay-plain tool). -/
import Derived.Test.YtaeanhonfoakeaaK1
import Derived.Test.YtaeanhonfoakeaaProg
import Derived.KernelRfl
import Derived.Shelf.Sort.Plain
section
namespace Go.Proofs.Ytaeanhonfoakeaa
open Go Heron
def a42 : AFunc := { n := 11, nparams := 1, res := [], body := (.seq (.rg [⟨some 3, none, .q (.mv (.t 0))⟩,
    ⟨some 4, none, .q (.len (.t 3))⟩,
    ⟨some 2, none, .q (.mv (.t 4))⟩] [0, 2])
  (.rg [⟨some 5, none, .q (.mv (.t 0))⟩,
    ⟨some 6, none, .q (.mv (.t 2))⟩,
    ⟨some 7, none, .q (.mv (.t 2))⟩,
    ⟨some 8, none, .q (.conv .u64 (.t 7))⟩,
    ⟨some 9, none, .call 46 [(.t 8)]⟩,
    ⟨some 10, none, .call 45 [(.t 5), (.c (.raw (.int .i64 0))), (.t 6), (.t 9)]⟩] [])) }
theorem a42_ok : genFunc Go.Proofs.Try.prog ⟨[(0, [0, 2]), (1, [])], [], false, [], [], [], false⟩ Go.Proofs.Try.f42 = some a42 := by kernel_rfl

def a45_L0 : ACode := (.block 1 (.seq (.rg [⟨some 19, none, .q (.mv (.t 2))⟩,
    ⟨some 20, none, .q (.mv (.t 1))⟩,
    ⟨some 21, none, .q (.bin .sub .prim (.t 19) (.t 20))⟩,
    ⟨some 10, none, .q (.mv (.t 21))⟩] [0, 1, 2, 3, 8, 9, 10])
  (.seq (.seq (.rg [⟨some 22, none, .q (.mv (.t 10))⟩,
    ⟨some 23, none, .q (.bin .leq .prim (.t 22) (.c (.raw (.int .i64 12))))⟩] [0, 1, 2, 3, 8, 9, 10, 23])
  (.cond (.t 23) (.seq (.rg [⟨some 24, none, .q (.mv (.t 0))⟩,
    ⟨some 25, none, .q (.mv (.t 1))⟩,
    ⟨some 26, none, .q (.mv (.t 2))⟩,
    ⟨some 27, none, .call 47 [(.t 24), (.t 25), (.t 26)]⟩] [])
  .ret) .skip))
  (.seq (.seq (.rg [⟨some 28, none, .q (.mv (.t 3))⟩,
    ⟨some 29, none, .q (.bin .eql .prim (.t 28) (.c (.raw (.int .i64 0))))⟩] [0, 1, 2, 3, 8, 9, 10, 29])
  (.cond (.t 29) (.seq (.rg [⟨some 30, none, .q (.mv (.t 0))⟩,
    ⟨some 31, none, .q (.mv (.t 1))⟩,
    ⟨some 32, none, .q (.mv (.t 2))⟩,
    ⟨some 33, none, .call 48 [(.t 30), (.t 31), (.t 32)]⟩] [])
  .ret) .skip))
  (.seq (.seq (.rg [⟨some 34, none, .q (.mv (.t 8))⟩,
    ⟨some 35, none, .q (.un .not (.t 34))⟩] [0, 1, 2, 3, 8, 9, 10, 35])
  (.cond (.t 35) (.seq (.rg [⟨some 36, none, .q (.mv (.t 0))⟩,
    ⟨some 37, none, .q (.mv (.t 1))⟩,
    ⟨some 38, none, .q (.mv (.t 2))⟩,
    ⟨some 39, none, .call 49 [(.t 36), (.t 37), (.t 38)]⟩] [0, 1, 2, 3, 8, 9, 10])
  (.rg [⟨some 40, none, .q (.mv (.t 3))⟩,
    ⟨some 41, none, .q (.bin .sub .prim (.t 40) (.c (.raw (.int .i64 1))))⟩,
    ⟨some 3, none, .q (.mv (.t 41))⟩] [0, 1, 2, 3, 8, 9, 10])) .skip))
  (.seq (.rg [⟨some 43, none, .q (.mv (.t 0))⟩,
    ⟨some 44, none, .q (.mv (.t 1))⟩,
    ⟨some 45, none, .q (.mv (.t 2))⟩,
    ⟨some 46, none, .call 50 [(.t 43), (.t 44), (.t 45)]⟩,
    ⟨some 42, none, .q (.mv (.t 46))⟩,
    ⟨some 47, none, .q (.ext (.t 42) 0)⟩,
    ⟨some 48, none, .q (.ext (.t 42) 1)⟩,
    ⟨some 11, none, .q (.mv (.t 47))⟩,
    ⟨some 12, none, .q (.mv (.t 48))⟩] [0, 1, 2, 3, 8, 9, 10, 11, 12])
  (.seq (.seq (.rg [⟨some 49, none, .q (.mv (.t 12))⟩,
    ⟨some 50, none, .q (.bin .eql .prim (.t 49) (.c (.raw (.int .i64 2))))⟩] [0, 1, 2, 3, 8, 9, 10, 11, 12, 50])
  (.cond (.t 50) (.seq (.rg [⟨some 51, none, .q (.mv (.t 0))⟩,
    ⟨some 52, none, .q (.mv (.t 1))⟩,
    ⟨some 53, none, .q (.mv (.t 2))⟩,
    ⟨some 54, none, .call 51 [(.t 51), (.t 52), (.t 53)]⟩] [0, 1, 2, 3, 8, 9, 10, 11])
  (.seq (.rg [⟨some 55, none, .q (.mv (.t 2))⟩,
    ⟨some 56, none, .q (.bin .sub .prim (.t 55) (.c (.raw (.int .i64 1))))⟩,
    ⟨some 57, none, .q (.mv (.t 11))⟩,
    ⟨some 58, none, .q (.mv (.t 1))⟩,
    ⟨some 59, none, .q (.bin .sub .prim (.t 57) (.t 58))⟩,
    ⟨some 60, none, .q (.bin .sub .prim (.t 56) (.t 59))⟩,
    ⟨some 11, none, .q (.mv (.t 60))⟩] [0, 1, 2, 3, 8, 9, 10, 11])
  (.rg [⟨some 12, none, .q (.mv (.c (.raw (.int .i64 1))))⟩] [0, 1, 2, 3, 8, 9, 10, 11, 12]))) .skip))
  (.seq (.seq (.rg [⟨some 61, none, .q (.mv (.t 8))⟩,
    ⟨some 62, none, .q (.mv (.t 61))⟩,
    ⟨some 63, some (62, true), .q (.mv (.t 9))⟩,
    ⟨some 64, none, .q (.pick (.t 62) (.t 63) (.c (.raw (.bool false))))⟩,
    ⟨some 65, none, .q (.mv (.t 64))⟩,
    ⟨some 66, some (65, true), .q (.mv (.t 12))⟩,
    ⟨some 67, some (65, true), .q (.bin .eql .prim (.t 66) (.c (.raw (.int .i64 1))))⟩,
    ⟨some 68, none, .q (.pick (.t 65) (.t 67) (.c (.raw (.bool false))))⟩] [0, 1, 2, 3, 8, 9, 10, 11, 68])
  (.cond (.t 68) (.seq (.rg [⟨some 69, none, .q (.mv (.t 0))⟩,
    ⟨some 70, none, .q (.mv (.t 1))⟩,
    ⟨some 71, none, .q (.mv (.t 2))⟩,
    ⟨some 72, none, .call 52 [(.t 69), (.t 70), (.t 71)]⟩] [0, 1, 2, 3, 8, 9, 10, 11, 72])
  (.cond (.t 72) .ret .skip)) .skip))
  (.seq (.seq (.rgs [[⟨some 73, none, .q (.mv (.t 1))⟩,
    ⟨some 74, none, .q (.bin .gtr .prim (.t 73) (.c (.raw (.int .i64 0))))⟩,
    ⟨some 75, none, .q (.mv (.t 74))⟩,
    ⟨some 76, some (75, true), .q (.mv (.t 0))⟩,
    ⟨some 77, some (75, true), .q (.mv (.t 1))⟩,
    ⟨some 78, some (75, true), .q (.bin .sub .prim (.t 77) (.c (.raw (.int .i64 1))))⟩,
    ⟨some 79, some (75, true), .q (.ia 1 (.t 76) (.t 78))⟩,
    ⟨some 80, some (75, true), .q (.load none (.t 79))⟩,
    ⟨some 81, some (75, true), .q (.mv (.t 0))⟩,
    ⟨some 82, some (75, true), .q (.mv (.t 11))⟩,
    ⟨some 83, some (75, true), .q (.ia 1 (.t 81) (.t 82))⟩,
    ⟨some 84, some (75, true), .q (.load none (.t 83))⟩,
    ⟨some 85, some (75, true), .qcall 53 [(.t 80), (.t 84)]⟩,
    ⟨some 86, some (75, true), .q (.un .not (.t 85))⟩,
    ⟨some 87, none, .q (.pick (.t 75) (.t 86) (.c (.raw (.bool false))))⟩]] [0, 1, 2, 3, 8, 9, 10, 11, 87])
  (.cond (.t 87) (.seq (.rg [⟨some 88, none, .q (.mv (.t 0))⟩,
    ⟨some 89, none, .q (.mv (.t 1))⟩,
    ⟨some 90, none, .q (.mv (.t 2))⟩,
    ⟨some 91, none, .q (.mv (.t 11))⟩,
    ⟨some 92, none, .call 54 [(.t 88), (.t 89), (.t 90), (.t 91)]⟩,
    ⟨some 13, none, .q (.mv (.t 92))⟩] [0, 2, 3, 8, 9, 13])
  (.seq (.rg [⟨some 93, none, .q (.mv (.t 13))⟩,
    ⟨some 1, none, .q (.mv (.t 93))⟩] [0, 1, 2, 3, 8, 9])
  (.exit 1))) .skip))
  (.seq (.rg [⟨some 95, none, .q (.mv (.t 0))⟩,
    ⟨some 96, none, .q (.mv (.t 1))⟩,
    ⟨some 97, none, .q (.mv (.t 2))⟩,
    ⟨some 98, none, .q (.mv (.t 11))⟩,
    ⟨some 99, none, .call 55 [(.t 95), (.t 96), (.t 97), (.t 98)]⟩,
    ⟨some 94, none, .q (.mv (.t 99))⟩,
    ⟨some 100, none, .q (.ext (.t 94) 0)⟩,
    ⟨some 101, none, .q (.ext (.t 94) 1)⟩,
    ⟨some 14, none, .q (.mv (.t 100))⟩,
    ⟨some 15, none, .q (.mv (.t 101))⟩] [0, 1, 2, 3, 10, 14, 15])
  (.seq (.rg [⟨some 102, none, .q (.mv (.t 15))⟩,
    ⟨some 9, none, .q (.mv (.t 102))⟩] [0, 1, 2, 3, 9, 10, 14])
  (.seq (.rg [⟨some 103, none, .q (.mv (.t 14))⟩,
    ⟨some 104, none, .q (.mv (.t 1))⟩,
    ⟨some 105, none, .q (.bin .sub .prim (.t 103) (.t 104))⟩,
    ⟨some 106, none, .q (.mv (.t 2))⟩,
    ⟨some 107, none, .q (.mv (.t 14))⟩,
    ⟨some 108, none, .q (.bin .sub .prim (.t 106) (.t 107))⟩,
    ⟨some 16, none, .q (.mv (.t 105))⟩,
    ⟨some 17, none, .q (.mv (.t 108))⟩] [0, 1, 2, 3, 9, 10, 14, 16, 17])
  (.seq (.rg [⟨some 109, none, .q (.mv (.t 10))⟩,
    ⟨some 110, none, .q (.bin .quo .prim (.t 109) (.c (.raw (.int .i64 8))))⟩,
    ⟨some 18, none, .q (.mv (.t 110))⟩] [0, 1, 2, 3, 9, 14, 16, 17, 18])
  (.seq (.rg [⟨some 111, none, .q (.mv (.t 16))⟩,
    ⟨some 112, none, .q (.mv (.t 17))⟩,
    ⟨some 113, none, .q (.bin .lss .prim (.t 111) (.t 112))⟩] [0, 1, 2, 3, 9, 14, 16, 17, 18, 113])
  (.cond (.t 113) (.seq (.rg [⟨some 114, none, .q (.mv (.t 16))⟩,
    ⟨some 115, none, .q (.mv (.t 18))⟩,
    ⟨some 116, none, .q (.bin .geq .prim (.t 114) (.t 115))⟩,
    ⟨some 8, none, .q (.mv (.t 116))⟩] [0, 1, 2, 3, 8, 9, 14])
  (.seq (.rg [⟨some 117, none, .q (.mv (.t 0))⟩,
    ⟨some 118, none, .q (.mv (.t 1))⟩,
    ⟨some 119, none, .q (.mv (.t 14))⟩,
    ⟨some 120, none, .q (.mv (.t 3))⟩,
    ⟨some 121, none, .call 45 [(.t 117), (.t 118), (.t 119), (.t 120)]⟩] [0, 2, 3, 8, 9, 14])
  (.rg [⟨some 122, none, .q (.mv (.t 14))⟩,
    ⟨some 123, none, .q (.bin .add .prim (.t 122) (.c (.raw (.int .i64 1))))⟩,
    ⟨some 1, none, .q (.mv (.t 123))⟩] [0, 1, 2, 3, 8, 9]))) (.seq (.rg [⟨some 124, none, .q (.mv (.t 17))⟩,
    ⟨some 125, none, .q (.mv (.t 18))⟩,
    ⟨some 126, none, .q (.bin .geq .prim (.t 124) (.t 125))⟩,
    ⟨some 8, none, .q (.mv (.t 126))⟩] [0, 1, 2, 3, 8, 9, 14])
  (.seq (.rg [⟨some 127, none, .q (.mv (.t 0))⟩,
    ⟨some 128, none, .q (.mv (.t 14))⟩,
    ⟨some 129, none, .q (.bin .add .prim (.t 128) (.c (.raw (.int .i64 1))))⟩,
    ⟨some 130, none, .q (.mv (.t 2))⟩,
    ⟨some 131, none, .q (.mv (.t 3))⟩,
    ⟨some 132, none, .call 45 [(.t 127), (.t 129), (.t 130), (.t 131)]⟩] [0, 1, 3, 8, 9, 14])
  (.rg [⟨some 133, none, .q (.mv (.t 14))⟩,
    ⟨some 2, none, .q (.mv (.t 133))⟩] [0, 1, 2, 3, 8, 9]))))))))))))))))))
def a45 : AFunc := { n := 134, nparams := 4, res := [], body := (.seq (.rg [⟨some 8, none, .q (.mv (.c (.raw (.bool true))))⟩] [0, 1, 2, 3, 8])
  (.seq (.rg [⟨some 9, none, .q (.mv (.c (.raw (.bool true))))⟩] [0, 1, 2, 3, 8, 9])
  (.block 0 (.loop a45_L0)))) }
theorem a45_ok : genFunc Go.Proofs.Try.prog ⟨[(0, [0, 1, 2, 3, 8]), (1, [0, 1, 2, 3, 8, 9]), (2, [0, 1, 2, 3, 8, 9, 10]), (3, [0, 1, 2, 3, 8, 9, 10, 23]), (4, []), (5, [0, 1, 2, 3, 8, 9, 10, 29]), (6, []), (7, [0, 1, 2, 3, 8, 9, 10, 35]), (8, [0, 1, 2, 3, 8, 9, 10]), (9, [0, 1, 2, 3, 8, 9, 10]), (10, [0, 1, 2, 3, 8, 9, 10, 11, 12]), (11, [0, 1, 2, 3, 8, 9, 10, 11, 12, 50]), (12, [0, 1, 2, 3, 8, 9, 10, 11]), (13, [0, 1, 2, 3, 8, 9, 10, 11]), (14, [0, 1, 2, 3, 8, 9, 10, 11, 12]), (15, [0, 1, 2, 3, 8, 9, 10, 11, 68]), (16, [0, 1, 2, 3, 8, 9, 10, 11, 72]), (17, [0, 1, 2, 3, 8, 9, 10, 11, 87]), (18, [0, 2, 3, 8, 9, 13]), (19, [0, 1, 2, 3, 8, 9]), (20, [0, 1, 2, 3, 10, 14, 15]), (21, [0, 1, 2, 3, 9, 10, 14]), (22, [0, 1, 2, 3, 9, 10, 14, 16, 17]), (23, [0, 1, 2, 3, 9, 14, 16, 17, 18]), (24, [0, 1, 2, 3, 9, 14, 16, 17, 18, 113]), (25, [0, 1, 2, 3, 8, 9, 14]), (26, [0, 2, 3, 8, 9, 14]), (27, [0, 1, 2, 3, 8, 9]), (28, [0, 1, 2, 3, 8, 9, 14]), (29, [0, 1, 3, 8, 9, 14]), (30, [0, 1, 2, 3, 8, 9])], [], false, [], [], [], false⟩ Go.Proofs.Try.f45 = some a45 := by kernel_rfl

def a46 : AFunc := { n := 8, nparams := 1, res := [.tmp 2], body := (.seq (.rg [⟨some 2, none, .q (.mv (.c (.raw (.int .i64 0))))⟩] [0])
  (.seq (.cond (.c (.raw (.bool false))) (.seq (.rg [⟨some 3, none, .q (.mv (.t 0))⟩,
    ⟨some 4, none, .q (.conv .u32 (.t 3))⟩,
    ⟨some 5, none, .call 56 [(.t 4)]⟩,
    ⟨some 2, none, .q (.mv (.t 5))⟩] [2])
  .ret) .skip)
  (.seq (.rg [⟨some 6, none, .q (.mv (.t 0))⟩,
    ⟨some 7, none, .call 57 [(.t 6)]⟩,
    ⟨some 2, none, .q (.mv (.t 7))⟩] [2])
  .ret))) }
theorem a46_ok : genFunc Go.Proofs.Try.prog ⟨[(0, [0]), (1, [2]), (2, [2])], [], false, [], [], [], false⟩ Go.Proofs.Try.f46 = some a46 := by kernel_rfl

def a47_L0 : ACode := (.seq (.seq (.rgs [[⟨some 16, none, .q (.mv (.t 7))⟩,
    ⟨some 17, none, .q (.mv (.t 1))⟩,
    ⟨some 18, none, .q (.bin .gtr .prim (.t 16) (.t 17))⟩,
    ⟨some 19, none, .q (.mv (.t 18))⟩,
    ⟨some 20, some (19, true), .q (.mv (.t 0))⟩,
    ⟨some 21, some (19, true), .q (.mv (.t 7))⟩,
    ⟨some 22, some (19, true), .q (.ia 1 (.t 20) (.t 21))⟩,
    ⟨some 23, some (19, true), .q (.load none (.t 22))⟩,
    ⟨some 24, some (19, true), .q (.mv (.t 0))⟩,
    ⟨some 25, some (19, true), .q (.mv (.t 7))⟩,
    ⟨some 26, some (19, true), .q (.bin .sub .prim (.t 25) (.c (.raw (.int .i64 1))))⟩,
    ⟨some 27, some (19, true), .q (.ia 1 (.t 24) (.t 26))⟩,
    ⟨some 28, some (19, true), .q (.load none (.t 27))⟩,
    ⟨some 29, some (19, true), .qcall 53 [(.t 23), (.t 28)]⟩,
    ⟨some 30, none, .q (.pick (.t 19) (.t 29) (.c (.raw (.bool false))))⟩]] [0, 1, 2, 6, 7, 30])
  (.cond (.t 30) .skip (.exit 2)))
  (.seq (.block 3 (.rgs [[⟨some 33, none, .q (.mv (.t 0))⟩,
    ⟨some 34, none, .q (.mv (.t 7))⟩,
    ⟨some 35, none, .q (.mv (.t 0))⟩,
    ⟨some 36, none, .q (.mv (.t 7))⟩,
    ⟨some 37, none, .q (.bin .sub .prim (.t 36) (.c (.raw (.int .i64 1))))⟩,
    ⟨some 38, none, .q (.mv (.t 0))⟩,
    ⟨some 39, none, .q (.mv (.t 7))⟩,
    ⟨some 40, none, .q (.bin .sub .prim (.t 39) (.c (.raw (.int .i64 1))))⟩,
    ⟨some 41, none, .q (.ia 1 (.t 38) (.t 40))⟩,
    ⟨some 42, none, .q (.load none (.t 41))⟩,
    ⟨some 43, none, .q (.mv (.t 0))⟩,
    ⟨some 44, none, .q (.mv (.t 7))⟩,
    ⟨some 45, none, .q (.ia 1 (.t 43) (.t 44))⟩,
    ⟨some 46, none, .q (.load none (.t 45))⟩,
    ⟨some 47, none, .q (.ia 1 (.t 33) (.t 34))⟩,
    ⟨none, none, .store 1 (.t 47) (.t 42)⟩,
    ⟨some 48, none, .q (.ia 1 (.t 35) (.t 37))⟩,
    ⟨none, none, .store 1 (.t 48) (.t 46)⟩]] [0, 1, 2, 6, 7]))
  (.rg [⟨some 31, none, .q (.mv (.t 7))⟩,
    ⟨some 32, none, .q (.bin .sub .prim (.t 31) (.c (.raw (.int .i64 1))))⟩,
    ⟨some 7, none, .q (.mv (.t 32))⟩] [0, 1, 2, 6, 7])))
def a47_L1 : ACode := (.seq (.seq (.rg [⟨some 10, none, .q (.mv (.t 6))⟩,
    ⟨some 11, none, .q (.mv (.t 2))⟩,
    ⟨some 12, none, .q (.bin .lss .prim (.t 10) (.t 11))⟩] [0, 1, 2, 6, 12])
  (.cond (.t 12) .skip (.exit 0)))
  (.seq (.block 1 (.seq (.rg [⟨some 15, none, .q (.mv (.t 6))⟩,
    ⟨some 7, none, .q (.mv (.t 15))⟩] [0, 1, 2, 6, 7])
  (.block 2 (.loop a47_L0))))
  (.rg [⟨some 13, none, .q (.mv (.t 6))⟩,
    ⟨some 14, none, .q (.bin .add .prim (.t 13) (.c (.raw (.int .i64 1))))⟩,
    ⟨some 6, none, .q (.mv (.t 14))⟩] [0, 1, 2, 6])))
def a47 : AFunc := { n := 49, nparams := 3, res := [], body := (.seq (.rg [⟨some 8, none, .q (.mv (.t 1))⟩,
    ⟨some 9, none, .q (.bin .add .prim (.t 8) (.c (.raw (.int .i64 1))))⟩,
    ⟨some 6, none, .q (.mv (.t 9))⟩] [0, 1, 2, 6])
  (.block 0 (.loop a47_L1))) }
theorem a47_ok : genFunc Go.Proofs.Try.prog ⟨[(0, [0, 1, 2, 6]), (1, [0, 1, 2, 6, 12]), (3, [0, 1, 2, 6, 7]), (4, [0, 1, 2, 6, 7, 30]), (6, [0, 1, 2, 6, 7]), (5, [0, 1, 2, 6, 7]), (2, [0, 1, 2, 6])], [], false, [], [], [], false⟩ Go.Proofs.Try.f47 = some a47 := by kernel_rfl

def a57 : AFunc := { n := 25, nparams := 1, res := [.tmp 2], body := (.seq (.rg [⟨some 2, none, .q (.mv (.c (.raw (.int .i64 0))))⟩] [0, 2])
  (.seq (.seq (.rg [⟨some 3, none, .q (.mv (.t 0))⟩,
    ⟨some 4, none, .q (.bin .geq .prim (.t 3) (.c (.raw (.int .u64 4294967296))))⟩] [0, 2, 4])
  (.cond (.t 4) (.seq (.rg [⟨some 5, none, .q (.mv (.t 0))⟩,
    ⟨some 6, none, .q (.bin .shr .prim (.t 5) (.c (.raw (.int .u64 32))))⟩,
    ⟨some 0, none, .q (.mv (.t 6))⟩] [0])
  (.rg [⟨some 2, none, .q (.mv (.c (.raw (.int .i64 32))))⟩] [0, 2])) .skip))
  (.seq (.seq (.rg [⟨some 7, none, .q (.mv (.t 0))⟩,
    ⟨some 8, none, .q (.bin .geq .prim (.t 7) (.c (.raw (.int .u64 65536))))⟩] [0, 2, 8])
  (.cond (.t 8) (.seq (.rg [⟨some 9, none, .q (.mv (.t 0))⟩,
    ⟨some 10, none, .q (.bin .shr .prim (.t 9) (.c (.raw (.int .u64 16))))⟩,
    ⟨some 0, none, .q (.mv (.t 10))⟩] [0, 2])
  (.rg [⟨some 11, none, .q (.mv (.t 2))⟩,
    ⟨some 12, none, .q (.bin .add .prim (.t 11) (.c (.raw (.int .i64 16))))⟩,
    ⟨some 2, none, .q (.mv (.t 12))⟩] [0, 2])) .skip))
  (.seq (.seq (.rg [⟨some 13, none, .q (.mv (.t 0))⟩,
    ⟨some 14, none, .q (.bin .geq .prim (.t 13) (.c (.raw (.int .u64 256))))⟩] [0, 2, 14])
  (.cond (.t 14) (.seq (.rg [⟨some 15, none, .q (.mv (.t 0))⟩,
    ⟨some 16, none, .q (.bin .shr .prim (.t 15) (.c (.raw (.int .u64 8))))⟩,
    ⟨some 0, none, .q (.mv (.t 16))⟩] [0, 2])
  (.rg [⟨some 17, none, .q (.mv (.t 2))⟩,
    ⟨some 18, none, .q (.bin .add .prim (.t 17) (.c (.raw (.int .i64 8))))⟩,
    ⟨some 2, none, .q (.mv (.t 18))⟩] [0, 2])) .skip))
  (.seq (.rg [⟨some 19, none, .q (.mv (.t 2))⟩,
    ⟨some 20, none, .q (.mv (.t 0))⟩,
    ⟨some 21, none, .q (.conv .u8 (.t 20))⟩,
    ⟨some 22, none, .q (.ix (.c (.raw (.string ⟨#[0, 1, 2, 2, 3, 3, 3, 3, 4, 4, 4, 4, 4, 4, 4, 4, 5, 5, 5, 5, 5, 5, 5, 5, 5, 5, 5, 5, 5, 5, 5, 5, 6, 6, 6, 6, 6, 6, 6, 6, 6, 6, 6, 6, 6, 6, 6, 6, 6, 6, 6, 6, 6, 6, 6, 6, 6, 6, 6, 6, 6, 6, 6, 6, 7, 7, 7, 7, 7, 7, 7, 7, 7, 7, 7, 7, 7, 7, 7, 7, 7, 7, 7, 7, 7, 7, 7, 7, 7, 7, 7, 7, 7, 7, 7, 7, 7, 7, 7, 7, 7, 7, 7, 7, 7, 7, 7, 7, 7, 7, 7, 7, 7, 7, 7, 7, 7, 7, 7, 7, 7, 7, 7, 7, 7, 7, 7, 7, 8, 8, 8, 8, 8, 8, 8, 8, 8, 8, 8, 8, 8, 8, 8, 8, 8, 8, 8, 8, 8, 8, 8, 8, 8, 8, 8, 8, 8, 8, 8, 8, 8, 8, 8, 8, 8, 8, 8, 8, 8, 8, 8, 8, 8, 8, 8, 8, 8, 8, 8, 8, 8, 8, 8, 8, 8, 8, 8, 8, 8, 8, 8, 8, 8, 8, 8, 8, 8, 8, 8, 8, 8, 8, 8, 8, 8, 8, 8, 8, 8, 8, 8, 8, 8, 8, 8, 8, 8, 8, 8, 8, 8, 8, 8, 8, 8, 8, 8, 8, 8, 8, 8, 8, 8, 8, 8, 8, 8, 8, 8, 8, 8, 8, 8, 8, 8, 8, 8, 8, 8, 8, 8, 8, 8, 8, 8, 8]⟩))) (.t 21))⟩,
    ⟨some 23, none, .q (.conv .i64 (.t 22))⟩,
    ⟨some 24, none, .q (.bin .add .prim (.t 19) (.t 23))⟩,
    ⟨some 2, none, .q (.mv (.t 24))⟩] [2])
  .ret))))) }
theorem a57_ok : genFunc Go.Proofs.Try.prog ⟨[(0, [0, 2]), (1, [0, 2, 4]), (2, [0]), (3, [0, 2]), (4, [0, 2, 8]), (5, [0, 2]), (6, [0, 2]), (7, [0, 2, 14]), (8, [0, 2]), (9, [0, 2]), (10, [2])], [], false, [], [], [], false⟩ Go.Proofs.Try.f57 = some a57 := by kernel_rfl

end Go.Proofs.Ytaeanhonfoakeaa
end

section
namespace Go.Proofs.Ytaeanhonfoakeaa
open Go Heron
def a7g : AFunc := { n := 57, nparams := 0, res := [.tmp 0], body := (.seq (.rg [⟨some 0, none, .q (.mv (.c (.raw (.bool false))))⟩] [])
  (.seq (.seq (.rg [⟨some 5, none, .q (.build [(.raw (.int .i64 0)), (.raw (.int .i64 0)), (.raw (.int .i64 0)), (.raw (.int .i64 0)), (.raw (.int .i64 0)), (.raw (.slice none 0 0)), (.raw (.slice none 0 0))] [(0, 1, (.c (.raw (.int .i64 1)))), (2, 1, (.c (.raw (.int .i64 0)))), (3, 1, (.c (.raw (.int .i64 (-1)))))])⟩,
    ⟨some 6, none, .q (.build [(.raw (.int .i64 0)), (.raw (.int .i64 0)), (.raw (.int .i64 0)), (.raw (.int .i64 0)), (.raw (.int .i64 0)), (.raw (.slice none 0 0)), (.raw (.slice none 0 0))] [(0, 1, (.c (.raw (.int .i64 1)))), (2, 1, (.c (.raw (.int .i64 1)))), (3, 1, (.c (.raw (.int .i64 (-1)))))])⟩,
    ⟨some 7, none, .q (.build [(.raw (.int .i64 0)), (.raw (.int .i64 0)), (.raw (.int .i64 0)), (.raw (.int .i64 0)), (.raw (.int .i64 0)), (.raw (.slice none 0 0)), (.raw (.slice none 0 0))] [(0, 1, (.c (.raw (.int .i64 6)))), (2, 1, (.c (.raw (.int .i64 0)))), (4, 1, (.c (.raw (.int .i64 4))))])⟩,
    ⟨some 8, none, .q (.build [(.raw (.int .i64 0)), (.raw (.int .i64 0)), (.raw (.int .i64 0)), (.raw (.int .i64 0)), (.raw (.int .i64 0)), (.raw (.slice none 0 0)), (.raw (.slice none 0 0))] [(0, 1, (.c (.raw (.int .i64 6)))), (2, 1, (.c (.raw (.int .i64 1)))), (4, 1, (.c (.raw (.int .i64 1))))])⟩,
    ⟨some 9, none, .bsl 1 1 (.raw (.int .i64 0)) [(0, (.c (.raw (.int .i64 1))))]⟩,
    ⟨some 10, none, .q (.build [(.raw (.int .i64 0)), (.raw (.int .i64 0)), (.raw (.int .i64 0)), (.raw (.int .i64 0)), (.raw (.int .i64 0)), (.raw (.slice none 0 0)), (.raw (.slice none 0 0))] [(0, 1, (.c (.raw (.int .i64 3)))), (2, 1, (.c (.raw (.int .i64 1)))), (6, 1, (.t 9))])⟩,
    ⟨some 11, none, .q (.build [(.raw (.int .i64 0)), (.raw (.int .i64 0)), (.raw (.int .i64 0)), (.raw (.int .i64 0)), (.raw (.int .i64 0)), (.raw (.slice none 0 0)), (.raw (.slice none 0 0))] [(0, 1, (.c (.raw (.int .i64 2)))), (2, 1, (.c (.raw (.int .i64 0))))])⟩,
    ⟨some 12, none, .bsl 7 6 (.agg [(.raw (.int .i64 0)), (.raw (.int .i64 0)), (.raw (.int .i64 0)), (.raw (.int .i64 0)), (.raw (.int .i64 0)), (.raw (.slice none 0 0)), (.raw (.slice none 0 0))]) [(0, (.t 5)), (1, (.t 6)), (2, (.t 7)), (3, (.t 8)), (4, (.t 10)), (5, (.t 11))]⟩,
    ⟨some 1, none, .q (.mv (.t 12))⟩] [1])
  .gh)
  (.seq (.rg [⟨some 13, none, .q (.mv (.t 1))⟩,
    ⟨some 14, none, .call 11 [(.t 13)]⟩,
    ⟨some 2, none, .q (.mv (.t 14))⟩] [1, 2])
  (.seq (.rg [⟨some 16, none, .call 9 [(.c (.raw (.int .i64 1))), (.c (.raw (.int .i64 1)))]⟩,
    ⟨some 17, none, .q (.mv (.t 2))⟩,
    ⟨some 18, none, .call 10 [(.t 16), (.t 17)]⟩,
    ⟨some 15, none, .q (.mv (.t 18))⟩,
    ⟨some 19, none, .q (.ext (.t 15) 0)⟩,
    ⟨some 20, none, .q (.ext (.t 15) 1)⟩,
    ⟨some 3, none, .alloc 2 (.agg [(.raw (.slice none 0 0)), (.raw (.slice none 0 0))])⟩,
    ⟨none, none, .store 2 (.t 3) (.t 19)⟩,
    ⟨some 4, none, .q (.mv (.t 20))⟩] [1, 2, 3, 4])
  (.seq (.rg [⟨some 21, none, .q (.mv (.t 2))⟩,
    ⟨some 22, none, .q (.len (.t 21))⟩,
    ⟨some 23, none, .q (.bin .eql .prim (.t 22) (.c (.raw (.int .i64 1))))⟩,
    ⟨some 24, none, .q (.mv (.t 23))⟩,
    ⟨some 25, some (24, true), .q (.mv (.t 2))⟩,
    ⟨some 26, some (24, true), .q (.ia 7 (.t 25) (.c (.raw (.int .i64 0))))⟩,
    ⟨some 27, some (24, true), .q (.fa 4 (.t 26))⟩,
    ⟨some 28, some (24, true), .q (.load none (.t 27))⟩,
    ⟨some 29, some (24, true), .q (.bin .eql .prim (.t 28) (.c (.raw (.int .i64 4))))⟩,
    ⟨some 30, none, .q (.pick (.t 24) (.t 29) (.c (.raw (.bool false))))⟩,
    ⟨some 31, none, .q (.mv (.t 30))⟩,
    ⟨some 32, some (31, true), .q (.mv (.t 4))⟩,
    ⟨some 33, some (31, true), .q (.bin .eql .prim (.t 32) (.c (.raw (.int .i64 (-1)))))⟩,
    ⟨some 34, none, .q (.pick (.t 31) (.t 33) (.c (.raw (.bool false))))⟩,
    ⟨some 35, none, .q (.mv (.t 34))⟩,
    ⟨some 36, some (35, true), .q (.fa 1 (.t 3))⟩,
    ⟨some 37, some (35, true), .q (.load none (.t 36))⟩,
    ⟨some 38, some (35, true), .q (.len (.t 37))⟩,
    ⟨some 39, some (35, true), .q (.bin .eql .prim (.t 38) (.c (.raw (.int .i64 1))))⟩,
    ⟨some 40, none, .q (.pick (.t 35) (.t 39) (.c (.raw (.bool false))))⟩,
    ⟨some 41, none, .q (.mv (.t 40))⟩,
    ⟨some 42, some (41, true), .q (.fa 1 (.t 3))⟩,
    ⟨some 43, some (41, true), .q (.load none (.t 42))⟩,
    ⟨some 44, some (41, true), .q (.ia 1 (.t 43) (.c (.raw (.int .i64 0))))⟩,
    ⟨some 45, some (41, true), .q (.load none (.t 44))⟩,
    ⟨some 46, some (41, true), .q (.bin .eql .prim (.t 45) (.c (.raw (.int .i64 4))))⟩,
    ⟨some 47, none, .q (.pick (.t 41) (.t 46) (.c (.raw (.bool false))))⟩,
    ⟨some 48, none, .q (.mv (.t 47))⟩,
    ⟨some 49, some (48, true), .q (.mv (.t 1))⟩,
    ⟨some 50, some (48, true), .call 18 [(.t 49), (.c (.raw (.int .i64 0))), (.c (.raw (.int .i64 0)))]⟩,
    ⟨some 51, none, .q (.pick (.t 48) (.t 50) (.c (.raw (.bool false))))⟩,
    ⟨some 52, none, .q (.mv (.t 51))⟩,
    ⟨some 53, some (52, true), .q (.mv (.t 1))⟩,
    ⟨some 54, some (52, true), .call 18 [(.t 53), (.c (.raw (.int .i64 0))), (.c (.raw (.int .i64 1)))]⟩,
    ⟨some 55, some (52, true), .q (.un .not (.t 54))⟩,
    ⟨some 56, none, .q (.pick (.t 52) (.t 55) (.c (.raw (.bool false))))⟩,
    ⟨some 0, none, .q (.mv (.t 56))⟩] [0])
  .ret))))) }
theorem a7g_ok : genFunc Go.Proofs.Try.prog ⟨[(0, []), (1, [1]), (2, [1, 2]), (3, [1, 2, 3, 4]), (4, [0])], [], false, [], [1], [], false⟩ Go.Proofs.Try.f7 = some a7g := by kernel_rfl

def a3g : AFunc := { n := 97, nparams := 3, res := [.tmp 6], body := (.seq (.rg [⟨some 6, none, .q (.mv (.c (.raw (.bool false))))⟩] [0, 1, 2])
  (.seq (.rg [⟨some 15, none, .call 7 []⟩,
    ⟨some 7, none, .q (.mv (.t 15))⟩] [0, 1, 2, 7])
  (.seq (.rg [⟨some 16, none, .q (.mv (.t 0))⟩,
    ⟨some 17, none, .q (.bin .and .prim (.t 16) (.c (.raw (.int .i64 3))))⟩,
    ⟨some 8, none, .q (.mv (.t 17))⟩] [1, 2, 7, 8])
  (.seq (.rg [⟨some 18, none, .mks 1 1 (.raw (.int .u8 0)) (.c (.raw (.int .i64 32))) (.c (.raw (.int .i64 32)))⟩,
    ⟨some 9, none, .q (.mv (.t 18))⟩] [1, 2, 7, 8, 9])
  (.seq (.seq (.rg [⟨some 19, none, .q (.mv (.t 9))⟩,
    ⟨some 20, none, .q (.mv (.t 1))⟩,
    ⟨some 21, none, .q (.ia 1 (.t 19) (.c (.raw (.int .i64 0))))⟩,
    ⟨none, none, .store 1 (.t 21) (.t 20)⟩] [1, 2, 7, 8, 9])
  .gh)
  (.seq (.rg [⟨some 22, none, .mks 1 1 (.raw (.int .u8 0)) (.c (.raw (.int .i64 32))) (.c (.raw (.int .i64 32)))⟩,
    ⟨some 10, none, .q (.mv (.t 22))⟩] [1, 2, 7, 8, 9, 10])
  (.seq (.seq (.rg [⟨some 23, none, .q (.mv (.t 10))⟩,
    ⟨some 24, none, .q (.mv (.t 1))⟩,
    ⟨some 25, none, .q (.bin .add .prim (.t 24) (.c (.raw (.int .u8 1))))⟩,
    ⟨some 26, none, .q (.ia 1 (.t 23) (.c (.raw (.int .i64 0))))⟩,
    ⟨none, none, .store 1 (.t 26) (.t 25)⟩] [1, 2, 7, 8, 9, 10])
  .gh)
  (.seq (.seq (.rg [⟨some 27, none, .q (.build [(.raw (.int .i64 0)), (.raw (.int .i64 0)), (.raw (.int .i64 0)), (.raw (.int .i64 0)), (.raw (.int .i64 0)), (.raw (.slice none 0 0)), (.raw (.slice none 0 0))] [(0, 1, (.c (.raw (.int .i64 1)))), (3, 1, (.c (.raw (.int .i64 (-1)))))])⟩,
    ⟨some 28, none, .q (.mv (.t 8))⟩,
    ⟨some 29, none, .q (.mv (.t 1))⟩,
    ⟨some 30, none, .bsl 1 1 (.raw (.int .u8 0)) [(0, (.t 29))]⟩,
    ⟨some 31, none, .q (.build [(.raw (.int .i64 0)), (.raw (.int .i64 0)), (.raw (.int .i64 0)), (.raw (.int .i64 0)), (.raw (.int .i64 0)), (.raw (.slice none 0 0)), (.raw (.slice none 0 0))] [(0, 1, (.c (.raw (.int .i64 5)))), (3, 1, (.t 28)), (5, 1, (.t 30))])⟩,
    ⟨some 32, none, .q (.mv (.t 8))⟩,
    ⟨some 33, none, .q (.mv (.t 9))⟩,
    ⟨some 34, none, .q (.build [(.raw (.int .i64 0)), (.raw (.int .i64 0)), (.raw (.int .i64 0)), (.raw (.int .i64 0)), (.raw (.int .i64 0)), (.raw (.slice none 0 0)), (.raw (.slice none 0 0))] [(0, 1, (.c (.raw (.int .i64 4)))), (3, 1, (.t 32)), (5, 1, (.t 33))])⟩,
    ⟨some 35, none, .bsl 7 3 (.agg [(.raw (.int .i64 0)), (.raw (.int .i64 0)), (.raw (.int .i64 0)), (.raw (.int .i64 0)), (.raw (.int .i64 0)), (.raw (.slice none 0 0)), (.raw (.slice none 0 0))]) [(0, (.t 27)), (1, (.t 31)), (2, (.t 34))]⟩,
    ⟨some 11, none, .q (.mv (.t 35))⟩] [2, 7, 8, 9, 10, 11])
  .gh)
  (.seq (.seq (.rg [⟨some 36, none, .q (.mv (.t 2))⟩,
    ⟨some 37, none, .q (.bin .and .prim (.t 36) (.c (.raw (.int .i64 1))))⟩,
    ⟨some 38, none, .q (.bin .eql .prim (.t 37) (.c (.raw (.int .i64 1))))⟩] [2, 7, 8, 9, 10, 11, 38])
  (.cond (.t 38) (.rg [⟨some 39, none, .q (.mv (.t 11))⟩,
    ⟨some 40, none, .q (.mv (.t 8))⟩,
    ⟨some 41, none, .q (.mv (.t 10))⟩,
    ⟨some 42, none, .q (.build [(.raw (.int .i64 0)), (.raw (.int .i64 0)), (.raw (.int .i64 0)), (.raw (.int .i64 0)), (.raw (.int .i64 0)), (.raw (.slice none 0 0)), (.raw (.slice none 0 0))] [(0, 1, (.c (.raw (.int .i64 4)))), (3, 1, (.t 40)), (5, 1, (.t 41))])⟩,
    ⟨some 43, none, .bsl 7 1 (.agg [(.raw (.int .i64 0)), (.raw (.int .i64 0)), (.raw (.int .i64 0)), (.raw (.int .i64 0)), (.raw (.int .i64 0)), (.raw (.slice none 0 0)), (.raw (.slice none 0 0))]) [(0, (.t 42))]⟩,
    ⟨some 44, none, .app 7 88 (.t 39) (.t 43)⟩,
    ⟨some 11, none, .q (.mv (.t 44))⟩] [2, 7, 8, 9, 11]) .skip))
  (.seq (.rg [⟨some 45, none, .call 9 [(.c (.raw (.int .i64 4))), (.c (.raw (.int .i64 0)))]⟩,
    ⟨some 46, none, .q (.mv (.t 11))⟩,
    ⟨some 47, none, .call 8 [(.t 45), (.t 46)]⟩,
    ⟨some 12, none, .q (.mv (.t 47))⟩] [2, 7, 8, 9, 11, 12])
  (.seq (.seq (.rg [⟨some 48, none, .q (.mv (.t 11))⟩,
    ⟨some 49, none, .q (.build [(.raw (.int .i64 0)), (.raw (.int .i64 0)), (.raw (.int .i64 0)), (.raw (.int .i64 0)), (.raw (.int .i64 0)), (.raw (.slice none 0 0)), (.raw (.slice none 0 0))] [(0, 1, (.c (.raw (.int .i64 2))))])⟩,
    ⟨some 50, none, .bsl 7 1 (.agg [(.raw (.int .i64 0)), (.raw (.int .i64 0)), (.raw (.int .i64 0)), (.raw (.int .i64 0)), (.raw (.int .i64 0)), (.raw (.slice none 0 0)), (.raw (.slice none 0 0))]) [(0, (.t 49))]⟩,
    ⟨some 51, none, .app 7 88 (.t 48) (.t 50)⟩,
    ⟨some 11, none, .q (.mv (.t 51))⟩] [2, 7, 8, 9, 11, 12])
  .gh)
  (.seq (.rg [⟨some 53, none, .call 9 [(.c (.raw (.int .i64 4))), (.c (.raw (.int .i64 0)))]⟩,
    ⟨some 54, none, .q (.mv (.t 11))⟩,
    ⟨some 55, none, .call 11 [(.t 54)]⟩,
    ⟨some 56, none, .call 10 [(.t 53), (.t 55)]⟩,
    ⟨some 52, none, .q (.mv (.t 56))⟩,
    ⟨some 57, none, .q (.ext (.t 52) 0)⟩,
    ⟨some 58, none, .q (.ext (.t 52) 1)⟩,
    ⟨some 13, none, .alloc 2 (.agg [(.raw (.slice none 0 0)), (.raw (.slice none 0 0))])⟩,
    ⟨none, none, .store 2 (.t 13) (.t 57)⟩,
    ⟨some 14, none, .q (.mv (.t 58))⟩] [2, 7, 8, 9, 11, 12, 13, 14])
  (.seq (.rgs [[⟨some 59, none, .q (.mv (.t 7))⟩,
    ⟨some 60, none, .q (.mv (.t 59))⟩,
    ⟨some 61, some (60, true), .q (.mv (.t 12))⟩,
    ⟨some 62, none, .q (.pick (.t 60) (.t 61) (.c (.raw (.bool false))))⟩,
    ⟨some 63, none, .q (.mv (.t 62))⟩,
    ⟨some 64, some (63, true), .qcall 9 [(.c (.raw (.int .i64 4))), (.c (.raw (.int .i64 0)))]⟩,
    ⟨some 65, some (63, true), .q (.mv (.t 11))⟩,
    ⟨some 66, some (63, true), .qcall 8 [(.t 64), (.t 65)]⟩,
    ⟨some 67, some (63, true), .q (.mv (.t 2))⟩,
    ⟨some 68, some (63, true), .q (.bin .and .prim (.t 67) (.c (.raw (.int .i64 1))))⟩,
    ⟨some 69, some (63, true), .q (.bin .eql .prim (.t 68) (.c (.raw (.int .i64 0))))⟩,
    ⟨some 70, some (63, true), .q (.bin .eql .bool (.t 66) (.t 69))⟩,
    ⟨some 71, none, .q (.pick (.t 63) (.t 70) (.c (.raw (.bool false))))⟩,
    ⟨some 72, none, .q (.mv (.t 71))⟩,
    ⟨some 73, some (72, true), .q (.mv (.t 2))⟩,
    ⟨some 74, some (72, true), .q (.bin .and .prim (.t 73) (.c (.raw (.int .i64 1))))⟩,
    ⟨some 75, some (72, true), .q (.bin .eql .prim (.t 74) (.c (.raw (.int .i64 0))))⟩,
    ⟨some 76, some (72, true), .q (.mv (.t 14))⟩,
    ⟨some 77, some (72, true), .q (.bin .eql .prim (.t 76) (.c (.raw (.int .i64 (-1)))))⟩,
    ⟨some 78, some (72, true), .q (.bin .eql .bool (.t 75) (.t 77))⟩,
    ⟨some 79, none, .q (.pick (.t 72) (.t 78) (.c (.raw (.bool false))))⟩,
    ⟨some 80, none, .q (.mv (.t 79))⟩,
    ⟨some 81, some (80, true), .q (.fa 0 (.t 13))⟩,
    ⟨some 82, some (80, true), .q (.load none (.t 81))⟩,
    ⟨some 83, some (80, true), .q (.len (.t 82))⟩,
    ⟨some 84, some (80, true), .q (.bin .eql .prim (.t 83) (.c (.raw (.int .i64 4))))⟩,
    ⟨some 85, none, .q (.pick (.t 80) (.t 84) (.c (.raw (.bool false))))⟩,
    ⟨some 86, none, .q (.mv (.t 85))⟩,
    ⟨some 87, some (86, true), .q (.fa 0 (.t 13))⟩,
    ⟨some 88, some (86, true), .q (.load none (.t 87))⟩,
    ⟨some 89, some (86, true), .q (.mv (.t 8))⟩,
    ⟨some 90, some (86, true), .q (.ia 1 (.t 88) (.t 89))⟩,
    ⟨some 91, some (86, true), .q (.load none (.t 90))⟩,
    ⟨some 92, some (86, true), .q (.b2s (.t 91))⟩,
    ⟨some 93, some (86, true), .q (.mv (.t 9))⟩,
    ⟨some 94, some (86, true), .q (.b2s (.t 93))⟩,
    ⟨some 95, some (86, true), .q (.bin .eql .prim (.t 92) (.t 94))⟩,
    ⟨some 96, none, .q (.pick (.t 86) (.t 95) (.c (.raw (.bool false))))⟩,
    ⟨some 6, none, .q (.mv (.t 96))⟩]] [6])
  .ret))))))))))))) }
theorem a3g_ok : genFunc Go.Proofs.Try.prog ⟨[(0, [0, 1, 2]), (1, [0, 1, 2, 7]), (2, [1, 2, 7, 8]), (3, [1, 2, 7, 8, 9]), (4, [1, 2, 7, 8, 9]), (5, [1, 2, 7, 8, 9, 10]), (6, [1, 2, 7, 8, 9, 10]), (7, [2, 7, 8, 9, 10, 11]), (8, [2, 7, 8, 9, 10, 11, 38]), (9, [2, 7, 8, 9, 11]), (10, [2, 7, 8, 9, 11, 12]), (11, [2, 7, 8, 9, 11, 12]), (12, [2, 7, 8, 9, 11, 12, 13, 14]), (13, [6])], [], false, [], [4, 6, 7, 11], [], false⟩ Go.Proofs.Try.f3 = some a3g := by kernel_rfl

def a6g_L0 : ACode := (.seq (.seq (.rg [⟨some 19, none, .q (.mv (.t 8))⟩,
    ⟨some 20, none, .q (.mv (.t 7))⟩,
    ⟨some 21, none, .q (.len (.t 20))⟩,
    ⟨some 22, none, .q (.bin .lss .prim (.t 19) (.t 21))⟩] [1, 5, 6, 7, 8, 22])
  (.cond (.t 22) .skip (.exit 0)))
  (.seq (.block 1 (.seq (.rg [⟨some 25, none, .q (.mv (.t 7))⟩,
    ⟨some 26, none, .q (.mv (.t 8))⟩,
    ⟨some 27, none, .q (.ia 7 (.t 25) (.t 26))⟩,
    ⟨some 28, none, .q (.fa 0 (.t 27))⟩,
    ⟨some 29, none, .q (.load none (.t 28))⟩,
    ⟨some 30, none, .q (.bin .neq .prim (.t 29) (.c (.raw (.int .i64 2))))⟩] [1, 5, 6, 7, 8, 30])
  (.cond (.t 30) (.rg [⟨some 31, none, .q (.mv (.t 6))⟩,
    ⟨some 32, none, .q (.mv (.t 7))⟩,
    ⟨some 33, none, .q (.mv (.t 8))⟩,
    ⟨some 34, none, .q (.ia 7 (.t 32) (.t 33))⟩,
    ⟨some 35, none, .q (.load (some 7) (.t 34))⟩,
    ⟨some 36, none, .bsl 7 1 (.agg [(.raw (.int .i64 0)), (.raw (.int .i64 0)), (.raw (.int .i64 0)), (.raw (.int .i64 0)), (.raw (.int .i64 0)), (.raw (.slice none 0 0)), (.raw (.slice none 0 0))]) [(0, (.t 35))]⟩,
    ⟨some 37, none, .app 7 88 (.t 31) (.t 36)⟩,
    ⟨some 6, none, .q (.mv (.t 37))⟩] [1, 5, 6, 7, 8]) .skip)))
  (.rg [⟨some 23, none, .q (.mv (.t 8))⟩,
    ⟨some 24, none, .q (.bin .add .prim (.t 23) (.c (.raw (.int .i64 1))))⟩,
    ⟨some 8, none, .q (.mv (.t 24))⟩] [1, 5, 6, 7, 8])))
def a6g : AFunc := { n := 76, nparams := 2, res := [.tmp 4], body := (.seq (.rg [⟨some 4, none, .q (.mv (.c (.raw (.bool false))))⟩] [0, 1])
  (.seq (.rg [⟨some 12, none, .call 7 []⟩,
    ⟨some 5, none, .q (.mv (.t 12))⟩] [0, 1, 5])
  (.seq (.seq (.rg [⟨some 13, none, .q (.mv (.t 0))⟩,
    ⟨some 14, none, .call 12 [(.t 13)]⟩,
    ⟨some 15, none, .q (.un .not (.t 14))⟩] [0, 1, 5, 15])
  (.cond (.t 15) (.seq (.rg [⟨some 16, none, .q (.mv (.t 5))⟩,
    ⟨some 4, none, .q (.mv (.t 16))⟩] [4])
  .ret) .skip))
  (.seq (.rg [⟨some 6, none, .q (.mv (.c (.raw (.slice none 0 0))))⟩] [0, 1, 5, 6])
  (.seq (.rg [⟨some 17, none, .q (.mv (.t 0))⟩,
    ⟨some 18, none, .call 13 [(.t 17)]⟩,
    ⟨some 7, none, .q (.mv (.t 18))⟩] [1, 5, 6, 7])
  (.seq (.seq (.rg [⟨some 8, none, .q (.mv (.c (.raw (.int .i64 0))))⟩] [1, 5, 6, 7, 8])
  (.block 0 (.loop a6g_L0)))
  (.seq (.seq (.rg [⟨some 38, none, .q (.mv (.t 1))⟩,
    ⟨some 39, none, .q (.bin .and .prim (.t 38) (.c (.raw (.int .i64 3))))⟩,
    ⟨some 40, none, .q (.mv (.t 1))⟩,
    ⟨some 41, none, .q (.bin .and .prim (.t 40) (.c (.raw (.int .i64 3))))⟩,
    ⟨some 42, none, .call 9 [(.t 39), (.t 41)]⟩,
    ⟨some 9, none, .alloc 2 (.agg [(.raw (.slice none 0 0)), (.raw (.slice none 0 0))])⟩,
    ⟨none, none, .store 2 (.t 9) (.t 42)⟩] [5, 6, 9])
  .gh)
  (.seq (.rgs [[⟨some 44, none, .q (.load (some 2) (.t 9))⟩,
    ⟨some 45, none, .q (.mv (.t 6))⟩,
    ⟨some 46, none, .qcall 11 [(.t 45)]⟩,
    ⟨some 47, none, .qcall 10 [(.t 44), (.t 46)]⟩,
    ⟨some 43, none, .q (.mv (.t 47))⟩,
    ⟨some 48, none, .q (.ext (.t 43) 0)⟩,
    ⟨some 49, none, .q (.ext (.t 43) 1)⟩,
    ⟨some 10, none, .alloc 2 (.agg [(.raw (.slice none 0 0)), (.raw (.slice none 0 0))])⟩,
    ⟨none, none, .store 2 (.t 10) (.t 48)⟩,
    ⟨some 11, none, .q (.mv (.t 49))⟩]] [5, 6, 9, 10, 11])
  (.seq (.rg [⟨some 50, none, .q (.mv (.t 5))⟩,
    ⟨some 51, none, .q (.mv (.t 50))⟩,
    ⟨some 52, some (51, true), .q (.mv (.t 6))⟩,
    ⟨some 53, some (51, true), .call 11 [(.t 52)]⟩,
    ⟨some 54, some (51, true), .q (.len (.t 53))⟩,
    ⟨some 55, some (51, true), .q (.bin .eql .prim (.t 54) (.c (.raw (.int .i64 0))))⟩,
    ⟨some 56, none, .q (.pick (.t 51) (.t 55) (.c (.raw (.bool false))))⟩,
    ⟨some 57, none, .q (.mv (.t 56))⟩,
    ⟨some 58, some (57, true), .q (.load (some 2) (.t 9))⟩,
    ⟨some 59, some (57, true), .q (.mv (.t 6))⟩,
    ⟨some 60, some (57, true), .call 8 [(.t 58), (.t 59)]⟩,
    ⟨some 61, none, .q (.pick (.t 57) (.t 60) (.c (.raw (.bool false))))⟩,
    ⟨some 62, none, .q (.mv (.t 61))⟩,
    ⟨some 63, some (62, true), .q (.mv (.t 11))⟩,
    ⟨some 64, some (62, true), .q (.bin .eql .prim (.t 63) (.c (.raw (.int .i64 (-1)))))⟩,
    ⟨some 65, none, .q (.pick (.t 62) (.t 64) (.c (.raw (.bool false))))⟩,
    ⟨some 66, none, .q (.mv (.t 65))⟩,
    ⟨some 67, some (66, true), .q (.load (some 2) (.t 10))⟩,
    ⟨some 68, some (66, true), .q (.load (some 2) (.t 9))⟩,
    ⟨some 69, some (66, true), .call 15 [(.t 67), (.t 68)]⟩,
    ⟨some 70, none, .q (.pick (.t 66) (.t 69) (.c (.raw (.bool false))))⟩,
    ⟨some 71, none, .q (.mv (.t 70))⟩,
    ⟨some 72, some (71, true), .call 11 [(.c (.raw (.slice none 0 0)))]⟩,
    ⟨some 73, some (71, true), .q (.len (.t 72))⟩,
    ⟨some 74, some (71, true), .q (.bin .eql .prim (.t 73) (.c (.raw (.int .i64 0))))⟩,
    ⟨some 75, none, .q (.pick (.t 71) (.t 74) (.c (.raw (.bool false))))⟩,
    ⟨some 4, none, .q (.mv (.t 75))⟩] [4])
  .ret))))))))) }
theorem a6g_ok : genFunc Go.Proofs.Try.prog ⟨[(0, [0, 1]), (1, [0, 1, 5]), (2, [0, 1, 5, 15]), (3, [4]), (4, [0, 1, 5, 6]), (5, [1, 5, 6, 7]), (6, [1, 5, 6, 7, 8]), (7, [1, 5, 6, 7, 8, 22]), (9, [1, 5, 6, 7, 8, 30]), (10, [1, 5, 6, 7, 8]), (8, [1, 5, 6, 7, 8]), (11, [5, 6, 9]), (12, [5, 6, 9, 10, 11]), (13, [4])], [], false, [], [11], [], false⟩ Go.Proofs.Try.f6 = some a6g := by kernel_rfl

end Go.Proofs.Ytaeanhonfoakeaa
end

section
namespace Go.Proofs
open Go.Shelf
def Try.lays189_ren : Go.Shelf.Ren := ⟨fun | 189 => 42 | 125 => 46 | 257 => 45 | 128 => 56 | 129 => 57 | 294 => 47 | 295 => 48 | 296 => 49 | 297 => 50 | 298 => 51 | 299 => 52 | 216 => 53 | 300 => 54 | 301 => 55 | 328 => 58 | 329 => 59 | 330 => 60 | 331 => 61 | 332 => 62 | 215 => 63 | 343 => 64 | n => n, fun | 28 => 24 | 3 => 3 | 46 => 83 | 0 => 0 | 51 => 94 | 53 => 96 | 4 => 4 | 183 => 86 | 182 => 85 | 131 => 91 | 5 => 5 | 9 => 9 | 218 => 97 | 222 => 101 | 228 => 104 | 229 => 105 | n => n, fun | n => n⟩
theorem Try.lays189 : Go.Proofs.Lays.n189 Try.prog Try.lays189_ren := {
  mixed := by kernel_rfl
  f125 := Try.func46.trans (congrArg some (by kernel_rfl))
  f128 := Try.func56.trans (congrArg some (by kernel_rfl))
  f129 := Try.func57.trans (congrArg some (by kernel_rfl))
  f189 := Try.func42.trans (congrArg some (by kernel_rfl))
  f215 := Try.func63.trans (congrArg some (by kernel_rfl))
  f216 := Try.func53.trans (congrArg some (by kernel_rfl))
  f257 := Try.func45.trans (congrArg some (by kernel_rfl))
  f294 := Try.func47.trans (congrArg some (by kernel_rfl))
  f295 := Try.func48.trans (congrArg some (by kernel_rfl))
  f296 := Try.func49.trans (congrArg some (by kernel_rfl))
  f297 := Try.func50.trans (congrArg some (by kernel_rfl))
  f298 := Try.func51.trans (congrArg some (by kernel_rfl))
  f299 := Try.func52.trans (congrArg some (by kernel_rfl))
  f300 := Try.func54.trans (congrArg some (by kernel_rfl))
  f301 := Try.func55.trans (congrArg some (by kernel_rfl))
  f328 := Try.func58.trans (congrArg some (by kernel_rfl))
  f329 := Try.func59.trans (congrArg some (by kernel_rfl))
  f330 := Try.func60.trans (congrArg some (by kernel_rfl))
  f331 := Try.func61.trans (congrArg some (by kernel_rfl))
  f332 := Try.func62.trans (congrArg some (by kernel_rfl))
  f343 := Try.func64.trans (congrArg some (by kernel_rfl))
  t0 := Try.underlying0
  a0 := Try.isAgg0
  z0 := Try.sizeOf0
  v0 := Try.zeroValue0
  t3 := Try.underlying3
  a3 := Try.isAgg3
  z3 := Try.sizeOf3
  v3 := Try.zeroValue3
  t4 := Try.underlying4
  a4 := Try.isAgg4
  z4 := Try.sizeOf4
  v4 := Try.zeroValue4
  t5 := Try.underlying5
  a5 := Try.isAgg5
  z5 := Try.sizeOf5
  v5 := Try.zeroValue5
  t9 := Try.underlying9
  a9 := Try.isAgg9
  z9 := Try.sizeOf9
  v9 := Try.zeroValue9
  t28 := Try.underlying24
  a28 := Try.isAgg24
  z28 := Try.sizeOf24
  v28 := Try.zeroValue24
  t46 := Try.underlying83
  a46 := Try.isAgg83
  z46 := Try.sizeOf83
  v46 := Try.zeroValue83
  t51 := Try.underlying94
  a51 := Try.isAgg94
  z51 := Try.sizeOf94
  v51 := Try.zeroValue94
  t53 := Try.underlying96
  a53 := Try.isAgg96
  z53 := Try.sizeOf96
  v53 := Try.zeroValue96
  t131 := Try.underlying91
  a131 := Try.isAgg91
  z131 := Try.sizeOf91
  v131 := Try.zeroValue91
  t182 := Try.underlying85
  a182 := Try.isAgg85
  z182 := Try.sizeOf85
  v182 := Try.zeroValue85
  t183 := Try.underlying86
  a183 := Try.isAgg86
  z183 := Try.sizeOf86
  v183 := Try.zeroValue86
  t218 := Try.underlying97
  a218 := Try.isAgg97
  z218 := Try.sizeOf97
  v218 := Try.zeroValue97
  t222 := Try.underlying101
  a222 := Try.isAgg101
  z222 := Try.sizeOf101
  v222 := Try.zeroValue101
  t228 := Try.underlying104
  a228 := Try.isAgg104
  z228 := Try.sizeOf104
  v228 := Try.zeroValue104
  t229 := Try.underlying105
  a229 := Try.isAgg105
  z229 := Try.sizeOf105
  v229 := Try.zeroValue105 }
end Go.Proofs
end
