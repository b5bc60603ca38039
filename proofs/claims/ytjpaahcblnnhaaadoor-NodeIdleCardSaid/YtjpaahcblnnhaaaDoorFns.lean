/- The functions of this translation as the abstract machine carries them out: printed by program; each is checked against the translation by the kernel. -/
import Derived.Test.YtjpaahcblnnhaaaDoorChecked
import Derived.Test.YtjpaahcblnnhaaaDoorAbWp
import Derived.KernelRfl
namespace Go.Ab

/-! gosem.cut.init -/
def pf2 : PF := ⟨0, 1, [], (.ops 0 [⟨0, (some 0), none, (.call 1 []), []⟩])⟩
theorem prep2 : (Go.Proofs.Tryd.prog.funcs[2]?).bind (prepF Go.Proofs.Tryd.prog) = some pf2 := by kernel_rfl
/-! sigillum/sigillumlaw29.NodeBoot -/
def pf3_0 : PC := (.ops 23 [⟨0, (some 99), none, (.mov (.r 16)), []⟩, ⟨1, (some 100), none, (.mov (.r 17)), []⟩, ⟨2, (some 101), none, (.eqv false .bool (.r 99) (.r 100)), []⟩, ⟨3, (some 102), none, (.mov (.r 101)), []⟩, ⟨4, (some 103), (some (102, true)), (.mov (.r 17)), []⟩, ⟨5, (some 104), (some (102, true)), (.un .not (.r 103)), []⟩, ⟨6, (some 105), (some (102, true)), (.mov (.r 104)), []⟩, ⟨7, (some 106), (some (105, false)), (.load 4 true (.r 15)), []⟩, ⟨8, (some 107), (some (105, false)), (.load 1 false (.r 11)), []⟩, ⟨9, (some 108), (some (105, false)), (.load 1 false (.r 12)), []⟩, ⟨10, (some 109), (some (105, false)), (.build [(.int .u64 0), (.int .u32 0), (.int .u8 0), (.int .u64 0)] [(0, (1, (.r 107))), (2, (1, (.c (.int .u8 255)))), (3, (1, (.r 108)))]), []⟩, ⟨11, (some 110), (some (105, false)), (.eqv false .st (.r 106) (.r 109)), []⟩, ⟨12, (some 111), (some (102, true)), (.pick (.r 105) (.c (.bool true)) (.r 110)), []⟩, ⟨13, (some 112), none, (.pick (.r 102) (.r 111) (.c (.bool false))), []⟩, ⟨14, (some 113), none, (.mov (.r 112)), []⟩, ⟨15, (some 114), (some (113, true)), (.mov (.r 7)), []⟩, ⟨16, (some 115), (some (113, true)), (.call 10 [(.r 114)]), []⟩, ⟨17, (some 116), (some (113, true)), (.call 17 [(.r 115)]), []⟩, ⟨18, (some 117), (some (113, true)), (.bin .eql (.r 116) (.c (.int .i64 15))), []⟩, ⟨19, (some 118), none, (.pick (.r 113) (.r 117) (.c (.bool false))), []⟩, ⟨20, (some 119), none, (.mov (.r 118)), []⟩, ⟨21, (some 120), (some (119, true)), (.mov (.r 7)), []⟩, ⟨22, (some 121), (some (119, true)), (.call 20 [(.r 120)]), []⟩, ⟨23, (some 122), (some (119, true)), (.eqv false .ifc (.r 121) (.c .nilIface)), []⟩, ⟨24, (some 123), none, (.pick (.r 119) (.r 122) (.c (.bool false))), []⟩, ⟨25, (some 124), none, (.mov (.r 123)), []⟩, ⟨26, (some 125), (some (124, true)), (.mov (.r 7)), []⟩, ⟨27, (some 126), (some (124, true)), (.call 18 [(.r 125)]), []⟩, ⟨28, (some 127), (some (124, true)), (.un .not (.r 126)), []⟩, ⟨29, (some 128), none, (.pick (.r 124) (.r 127) (.c (.bool false))), []⟩, ⟨30, (some 4), none, (.mov (.r 128)), []⟩])
def pf3_1 : PC := (.ops 22 [⟨0, (some 97), none, (.load 1 false (.r 11)), []⟩, ⟨1, (some 98), none, (.bin .neq (.r 97) (.c (.int .u64 0))), []⟩, ⟨2, (some 17), none, (.mov (.r 98)), []⟩])
def pf3_2 : PC := (.ops 21 [⟨0, (some 86), none, (.mov (.r 16)), []⟩, ⟨1, (some 87), none, (.un .not (.r 86)), []⟩, ⟨2, (some 88), none, (.mov (.r 87)), []⟩, ⟨3, (some 89), (some (88, true)), (.mov (.r 7)), []⟩, ⟨6, (some 92), (some (88, true)), (.load 1 false (.r 13)), []⟩, ⟨7, (some 93), (some (88, true)), (.eqv true .ifc (.r 92) (.c .nilIface)), []⟩, ⟨4, (some 90), (some (88, true)), (.call 20 [(.r 89)]), [((some (88, true)), ((.load 1 false (.r 13)), 92))]⟩, ⟨5, (some 91), (some (88, true)), (.call 17 [(.r 90)]), [((some (88, true)), ((.load 1 false (.r 13)), 92))]⟩, ⟨8, (some 94), (some (88, true)), (.call 21 [(.r 93)]), []⟩, ⟨9, (some 95), (some (88, true)), (.bin .eql (.r 91) (.r 94)), []⟩, ⟨10, (some 96), none, (.pick (.r 88) (.r 95) (.c (.bool false))), []⟩, ⟨11, (some 4), none, (.mov (.r 96)), []⟩])
def pf3_3 : PC := (.ops 20 [⟨0, (some 80), none, (.load 1 false (.r 13)), []⟩, ⟨1, (some 81), none, (.eqv true .ifc (.r 80) (.c .nilIface)), []⟩, ⟨2, (some 82), none, (.mov (.r 81)), []⟩, ⟨3, (some 83), (some (82, false)), (.mov (.r 5)), []⟩, ⟨4, (some 84), (some (82, false)), (.bin .eql (.r 83) (.c (.int .i64 0))), []⟩, ⟨5, (some 85), none, (.pick (.r 82) (.c (.bool true)) (.r 84)), []⟩])
def pf3_4 : PC := (.ops 19 [⟨0, (some 4), none, (.mov (.c (.bool false))), []⟩])
def pf3_5 : PC := (.ops 18 [⟨0, (some 61), none, (.mov (.r 8)), []⟩, ⟨2, (some 63), none, (.load 1 false (.r 13)), []⟩, ⟨1, (some 62), none, (.call 17 [(.r 61)]), [(none, ((.load 1 false (.r 13)), 63))]⟩, ⟨3, (some 64), none, (.call 17 [(.r 63)]), []⟩, ⟨4, (some 65), none, (.bin .neq (.r 62) (.r 64)), []⟩, ⟨5, (some 66), none, (.mov (.r 65)), []⟩, ⟨6, (some 67), (some (66, false)), (.mov (.r 7)), []⟩, ⟨8, (some 69), (some (66, false)), (.load 1 false (.r 13)), []⟩, ⟨9, (some 70), (some (66, false)), (.eqv false .ifc (.r 69) (.c .nilIface)), []⟩, ⟨7, (some 68), (some (66, false)), (.call 18 [(.r 67)]), [((some (66, false)), ((.load 1 false (.r 13)), 69))]⟩, ⟨10, (some 71), (some (66, false)), (.eqv true .bool (.r 68) (.r 70)), []⟩, ⟨11, (some 72), none, (.pick (.r 66) (.c (.bool true)) (.r 71)), []⟩, ⟨12, (some 73), none, (.mov (.r 72)), []⟩, ⟨13, (some 74), (some (73, false)), (.mov (.r 6)), []⟩, ⟨15, (some 76), (some (73, false)), (.load 1 false (.r 9)), []⟩, ⟨14, (some 75), (some (73, false)), (.call 19 [(.r 74)]), [((some (73, false)), ((.load 1 false (.r 9)), 76))]⟩, ⟨16, (some 77), (some (73, false)), (.call 19 [(.r 76)]), []⟩, ⟨17, (some 78), (some (73, false)), (.bin .neq (.r 75) (.r 77)), []⟩, ⟨18, (some 79), none, (.pick (.r 73) (.c (.bool true)) (.r 78)), []⟩])
def pf3_6 : PC := (.seq (.seq pf3_3 (.cond (.r 85) (.seq pf3_2 .ret) .skip)) (.seq pf3_1 (.seq pf3_0 .ret)))
def pf3_7 : PC := (.seq (.seq pf3_5 (.cond (.r 79) (.seq pf3_4 .ret) .skip)) pf3_6)
def pf3_8 : PC := (.ops 17 [⟨0, (some 57), none, (.mov (.r 7)), []⟩, ⟨1, (some 58), none, (.call 16 [(.r 57)]), []⟩, ⟨2, (some 56), none, (.mov (.r 58)), []⟩, ⟨3, (some 59), none, (.ext (.r 56) 0), []⟩, ⟨4, (some 60), none, (.ext (.r 56) 1), []⟩, ⟨5, (some 15), none, (.new [(.int .u64 0), (.int .u32 0), (.int .u8 0), (.int .u64 0)]), []⟩, ⟨6, none, none, (.store 4 (.r 15) (.r 59)), []⟩, ⟨7, (some 16), none, (.mov (.r 60)), []⟩])
def pf3_9 : PC := (.ops 16 [⟨0, (some 52), none, (.mov (.r 14)), []⟩, ⟨1, (some 53), none, (.load 1 false (.r 9)), []⟩, ⟨2, (some 54), none, (.mkf (.func 12) [(.r 53)] []), []⟩, ⟨3, (some 55), none, (.callv (.r 52) [(.r 12), (.r 54)]), []⟩])
def pf3_10 : PC := (.ops 15 [⟨0, (some 49), none, (.mov (.r 14)), []⟩, ⟨1, (some 50), none, (.mkf (.func 15) [] [(.r 9), (.r 10)]), []⟩, ⟨2, (some 51), none, (.callv (.r 49) [(.r 11), (.r 50)]), []⟩])
def pf3_11 : PC := (.ops 14 [⟨0, (some 45), none, (.mov (.r 14)), []⟩, ⟨1, (some 46), none, (.load 1 false (.r 9)), []⟩, ⟨2, (some 47), none, (.mkf (.func 12) [(.r 46)] []), []⟩, ⟨3, (some 48), none, (.callv (.r 45) [(.r 10), (.r 47)]), []⟩])
def pf3_12 : PC := (.ops 13 [⟨0, (some 43), none, (.mov (.r 5)), []⟩, ⟨1, (some 44), none, (.bin .neq (.r 43) (.c (.int .i64 0))), []⟩])
def pf3_13 : PC := (.seq pf3_12 (.cond (.r 44) (.seq pf3_11 (.seq pf3_10 pf3_9)) .skip))
def pf3_14 : PC := (.ops 12 [⟨0, (some 40), none, (.mov (.r 14)), []⟩, ⟨1, (some 41), none, (.mkf (.func 13) [] [(.r 9), (.r 10)]), []⟩, ⟨2, (some 42), none, (.callv (.r 40) [(.r 11), (.r 41)]), []⟩])
def pf3_15 : PC := (.ops 11 [⟨0, (some 36), none, (.mov (.r 14)), []⟩, ⟨1, (some 37), none, (.load 1 false (.r 9)), []⟩, ⟨2, (some 38), none, (.mkf (.func 12) [(.r 37)] []), []⟩, ⟨3, (some 39), none, (.callv (.r 36) [(.r 10), (.r 38)]), []⟩])
def pf3_16 : PC := (.seq pf3_15 (.seq pf3_14 (.seq pf3_13 (.seq pf3_8 pf3_7))))
def pf3_17 : PC := (.ops 10 [⟨0, (some 35), none, (.mkf (.func 11) [] [(.r 13)]), []⟩, ⟨1, (some 14), none, (.mov (.r 35)), []⟩])
def pf3_18 : PC := (.ops 9 [⟨0, (some 13), none, (.new [.nilIface]), []⟩, ⟨1, none, none, (.store 1 (.r 13) (.c .nilIface)), []⟩])
def pf3_19 : PC := (.ops 8 [⟨0, (some 10), none, (.new [(.int .u64 0)]), []⟩, ⟨1, (some 11), none, (.new [(.int .u64 0)]), []⟩, ⟨2, (some 12), none, (.new [(.int .u64 0)]), []⟩])
def pf3_20 : PC := (.ops 7 [⟨0, (some 32), none, (.mov (.r 1)), []⟩, ⟨1, (some 33), none, (.call 7 [(.r 32)]), []⟩, ⟨2, (some 34), none, (.call 6 [(.r 33)]), []⟩, ⟨3, (some 9), none, (.new [.pnil]), []⟩, ⟨4, none, none, (.store 1 (.r 9) (.r 34)), []⟩])
def pf3_21 : PC := (.seq pf3_20 (.seq pf3_19 (.seq pf3_18 (.seq pf3_17 pf3_16))))
def pf3_22 : PC := (.ops 6 [⟨0, (some 30), none, (.mov (.r 7)), []⟩, ⟨1, (some 31), none, (.call 10 [(.r 30)]), []⟩, ⟨2, (some 8), none, (.mov (.r 31)), []⟩])
def pf3_23 : PC := (.ops 5 [⟨0, (some 26), none, (.mov (.r 5)), []⟩, ⟨1, (some 27), none, (.call 9 [(.c (.int .u8 1)), (.c (.int .u8 1)), (.c (.int .u8 1)), (.c (.int .u8 1)), (.c (.int .u8 1))]), []⟩, ⟨2, (some 28), none, (.mov (.r 6)), []⟩, ⟨3, (some 29), none, (.call 8 [(.c (.int .i64 3)), (.r 26), (.r 27), (.r 28)]), []⟩, ⟨4, (some 7), none, (.mov (.r 29)), []⟩])
def pf3_24 : PC := (.ops 4 [⟨0, (some 23), none, (.mov (.r 1)), []⟩, ⟨1, (some 24), none, (.call 7 [(.r 23)]), []⟩, ⟨2, (some 25), none, (.call 6 [(.r 24)]), []⟩, ⟨3, (some 6), none, (.mov (.r 25)), []⟩])
def pf3_25 : PC := (.ops 3 [⟨0, (some 20), none, (.mov (.r 0)), []⟩, ⟨1, (some 21), none, (.bin .rem (.r 20) (.c (.int .u8 4))), []⟩, ⟨2, (some 22), none, (.cvi .i64 (.r 21)), []⟩, ⟨3, (some 5), none, (.mov (.r 22)), []⟩])
def pf3_26 : PC := (.ops 2 [⟨0, (some 4), none, (.mov (.c (.bool false))), []⟩])
def pf3_27 : PC := (.ops 1 [⟨0, (some 18), none, (.call 5 []), []⟩, ⟨1, (some 19), none, (.un .not (.r 18)), []⟩])
def pf3_28 : PC := (.seq pf3_25 (.seq pf3_24 (.seq pf3_23 (.seq pf3_22 pf3_21))))
def pf3_29 : PC := (.seq (.seq pf3_27 (.cond (.r 19) (.seq pf3_26 .ret) .skip)) pf3_28)
def pf3_30 : PC := (.ops 0 [⟨0, (some 4), none, (.mov (.c (.bool false))), []⟩])
def pf3 : PF := ⟨2, 129, [(.tmp 4)], (.seq pf3_30 pf3_29)⟩
theorem prep3 : (Go.Proofs.Tryd.prog.funcs[3]?).bind (prepF Go.Proofs.Tryd.prog) = some pf3 := by kernel_rfl
/-! sigillum/sigillumlaw29.NodeIdle -/
def pf4_0 : PC := (.ops 18 [⟨0, (some 79), none, (.mov (.r 10)), []⟩, ⟨1, (some 80), none, (.mov (.r 79)), []⟩, ⟨2, (some 81), (some (80, true)), (.mov (.r 14)), []⟩, ⟨3, (some 82), (some (80, true)), (.eqv false .ifc (.r 81) (.c .nilIface)), []⟩, ⟨4, (some 83), none, (.pick (.r 80) (.r 82) (.c (.bool false))), []⟩, ⟨5, (some 84), none, (.mov (.r 83)), []⟩, ⟨6, (some 85), (some (84, true)), (.mov (.r 13)), []⟩, ⟨7, (some 86), (some (84, true)), (.len false (.r 85)), []⟩, ⟨8, (some 87), (some (84, true)), (.bin .eql (.r 86) (.c (.int .i64 1))), []⟩, ⟨9, (some 88), none, (.pick (.r 84) (.r 87) (.c (.bool false))), []⟩, ⟨10, (some 89), none, (.mov (.r 88)), []⟩, ⟨11, (some 90), (some (89, true)), (.mov (.r 15)), []⟩, ⟨12, (some 91), (some (89, true)), (.faddr 3 (.r 7)), []⟩, ⟨13, (some 92), (some (89, true)), (.load 1 false (.r 91)), []⟩, ⟨14, (some 93), (some (89, true)), (.bin .eql (.r 90) (.r 92)), []⟩, ⟨15, (some 94), none, (.pick (.r 89) (.r 93) (.c (.bool false))), []⟩, ⟨16, (some 95), none, (.mov (.r 94)), []⟩, ⟨17, (some 96), (some (95, true)), (.mov (.r 17)), []⟩, ⟨18, (some 97), (some (95, true)), (.bin .eql (.r 96) (.c (.int .i64 3))), []⟩, ⟨19, (some 98), none, (.pick (.r 95) (.r 97) (.c (.bool false))), []⟩, ⟨20, (some 99), none, (.mov (.r 98)), []⟩, ⟨21, (some 100), (some (99, true)), (.mov (.r 19)), []⟩, ⟨22, (some 101), (some (99, true)), (.call 17 [(.r 100)]), []⟩, ⟨23, (some 102), (some (99, true)), (.bin .eql (.r 101) (.c (.int .i64 10))), []⟩, ⟨24, (some 103), none, (.pick (.r 99) (.r 102) (.c (.bool false))), []⟩, ⟨25, (some 6), none, (.mov (.r 103)), []⟩])
def pf4_1 : PC := (.ops 17 [⟨0, (some 73), none, (.mov (.r 8)), []⟩, ⟨1, (some 74), none, (.mov (.r 12)), []⟩, ⟨2, (some 75), none, (.call 26 [(.r 73), (.r 74)]), []⟩, ⟨3, (some 72), none, (.mov (.r 75)), []⟩, ⟨4, (some 76), none, (.ext (.r 72) 0), []⟩, ⟨5, (some 77), none, (.ext (.r 72) 1), []⟩, ⟨6, (some 78), none, (.ext (.r 72) 2), []⟩, ⟨7, (some 18), none, (.new [(.int .u64 0), (.int .u64 0), (.int .u32 0), (.int .u16 0), (.int .u16 0), (.int .u64 0), (.int .u32 0), (.int .u8 0), (.int .u64 0), (.int .u64 0), .snil]), []⟩, ⟨8, (some 17), none, (.mov (.r 76)), []⟩, ⟨9, none, none, (.store 11 (.r 18) (.r 77)), []⟩, ⟨10, (some 19), none, (.mov (.r 78)), []⟩])
def pf4_2 : PC := (.ops 16 [⟨0, (some 70), none, (.mov (.r 15)), []⟩, ⟨1, (some 71), none, (.bin .add (.r 70) (.c (.int .i64 1))), []⟩, ⟨2, (some 15), none, (.mov (.r 71)), []⟩])
def pf4_3 : PC := (.ops 15 [⟨0, (some 66), none, (.mov (.r 8)), []⟩, ⟨1, (some 67), none, (.call 23 [(.r 66)]), []⟩, ⟨2, (some 68), none, (.len false (.r 67)), []⟩, ⟨3, (some 69), none, (.bin .gtr (.r 68) (.c (.int .i64 0))), []⟩])
def pf4_4 : PC := (.ops 14 [⟨0, (some 64), none, (.mov (.r 16)), []⟩, ⟨1, (some 65), none, (.bin .add (.r 64) (.c (.int .i64 1))), []⟩, ⟨2, (some 16), none, (.mov (.r 65)), []⟩])
def pf4_5 : PC := (.ops 13 [⟨0, (some 56), none, (.mov (.r 16)), []⟩, ⟨1, (some 57), none, (.faddr 2 (.r 7)), []⟩, ⟨2, (some 58), none, (.load 1 false (.r 57)), []⟩, ⟨3, (some 59), none, (.faddr 3 (.r 7)), []⟩, ⟨4, (some 60), none, (.load 1 false (.r 59)), []⟩, ⟨5, (some 61), none, (.bin .mul (.r 58) (.r 60)), []⟩, ⟨6, (some 62), none, (.bin .add (.r 61) (.c (.int .i64 3))), []⟩, ⟨7, (some 63), none, (.bin .lss (.r 56) (.r 62)), []⟩])
def pf4_6 : PC := (.seq (.block 3 (.seq pf4_3 (.cond (.r 69) pf4_2 .skip))) pf4_4)
def pf4_7 : PC := (.loop (.seq (.seq pf4_5 (.cond (.r 63) .skip (.exit 2))) pf4_6))
def pf4_8 : PC := (.ops 12 [⟨0, (some 16), none, (.mov (.c (.int .i64 0))), []⟩])
def pf4_9 : PC := (.seq (.seq pf4_8 (.block 2 pf4_7)) (.seq pf4_1 (.seq pf4_0 .ret)))
def pf4_10 : PC := (.ops 11 [⟨0, (some 15), none, (.mov (.c (.int .i64 1))), []⟩])
def pf4_11 : PC := (.ops 10 [⟨0, (some 49), none, (.mov (.r 8)), []⟩, ⟨1, (some 50), none, (.build [(.int .u64 0), (.int .u32 0), (.int .u8 0), (.int .u64 0)] [(0, (1, (.c (.int .u64 12345))))]), []⟩, ⟨2, (some 51), none, (.call 25 [(.r 50)]), []⟩, ⟨3, (some 52), none, (.call 24 [(.r 49), (.r 51)]), []⟩, ⟨4, (some 48), none, (.mov (.r 52)), []⟩, ⟨5, (some 53), none, (.ext (.r 48) 0), []⟩, ⟨6, (some 54), none, (.ext (.r 48) 1), []⟩, ⟨7, (some 55), none, (.ext (.r 48) 2), []⟩, ⟨8, (some 12), none, (.mov (.r 53)), []⟩, ⟨9, (some 13), none, (.mov (.r 54)), []⟩, ⟨10, (some 14), none, (.mov (.r 55)), []⟩])
def pf4_12 : PC := (.ops 9 [⟨0, (some 6), none, (.mov (.c (.bool false))), []⟩])
def pf4_13 : PC := (.ops 8 [⟨0, (some 38), none, (.mov (.r 8)), []⟩, ⟨1, (some 39), none, (.call 23 [(.r 38)]), []⟩, ⟨2, (some 40), none, (.len false (.r 39)), []⟩, ⟨3, (some 41), none, (.bin .neq (.r 40) (.c (.int .i64 0))), []⟩, ⟨4, (some 42), none, (.mov (.r 41)), []⟩, ⟨5, (some 43), (some (42, false)), (.mov (.r 9)), []⟩, ⟨6, (some 44), (some (42, false)), (.call 23 [(.r 43)]), []⟩, ⟨7, (some 45), (some (42, false)), (.len false (.r 44)), []⟩, ⟨8, (some 46), (some (42, false)), (.bin .neq (.r 45) (.c (.int .i64 0))), []⟩, ⟨9, (some 47), none, (.pick (.r 42) (.c (.bool true)) (.r 46)), []⟩])
def pf4_14 : PC := (.ops 7 [⟨0, (some 36), none, (.mov (.r 11)), []⟩, ⟨1, (some 37), none, (.bin .add (.r 36) (.c (.int .i64 1))), []⟩, ⟨2, (some 11), none, (.mov (.r 37)), []⟩])
def pf4_15 : PC := (.block 1 (.seq pf4_13 (.cond (.r 47) (.seq pf4_12 .ret) .skip)))
def pf4_16 : PC := (.ops 6 [⟨0, (some 31), none, (.mov (.r 11)), []⟩, ⟨1, (some 32), none, (.mov (.r 0)), []⟩, ⟨2, (some 33), none, (.bin .rem (.r 32) (.c (.int .u8 40))), []⟩, ⟨3, (some 34), none, (.cvi .i64 (.r 33)), []⟩, ⟨4, (some 35), none, (.bin .lss (.r 31) (.r 34)), []⟩])
def pf4_17 : PC := (.seq (.seq pf4_16 (.cond (.r 35) .skip (.exit 0))) (.seq pf4_15 pf4_14))
def pf4_18 : PC := (.ops 5 [⟨0, (some 11), none, (.mov (.c (.int .i64 0))), []⟩])
def pf4_19 : PC := (.seq (.seq pf4_18 (.block 0 (.loop pf4_17))) (.seq pf4_11 (.seq pf4_10 pf4_9)))
def pf4_20 : PC := (.ops 4 [⟨0, (some 26), none, (.load 7 true (.r 7)), []⟩, ⟨1, (some 27), none, (.call 22 [(.c (.int .i64 3)), (.r 26)]), []⟩, ⟨2, (some 25), none, (.mov (.r 27)), []⟩, ⟨3, (some 28), none, (.ext (.r 25) 0), []⟩, ⟨4, (some 29), none, (.ext (.r 25) 1), []⟩, ⟨5, (some 30), none, (.ext (.r 25) 2), []⟩, ⟨6, (some 8), none, (.mov (.r 28)), []⟩, ⟨7, (some 9), none, (.mov (.r 29)), []⟩, ⟨8, (some 10), none, (.mov (.r 30)), []⟩])
def pf4_21 : PC := (.ops 3 [⟨0, (some 22), none, (.mov (.r 1)), []⟩, ⟨1, (some 23), none, (.mov (.r 2)), []⟩, ⟨2, (some 24), none, (.call 9 [(.c (.int .u8 119)), (.r 22), (.r 23), (.c (.int .u8 19)), (.c (.int .u8 9))]), []⟩, ⟨3, (some 7), none, (.new [(.int .i64 0), (.int .i64 0), (.int .i64 0), (.int .i64 0), (.int .i64 0), (.int .i64 0), (.int .i64 0)]), []⟩, ⟨4, none, none, (.store 7 (.r 7) (.r 24)), []⟩])
def pf4_22 : PC := (.ops 2 [⟨0, (some 6), none, (.mov (.c (.bool false))), []⟩])
def pf4_23 : PC := (.ops 1 [⟨0, (some 20), none, (.call 5 []), []⟩, ⟨1, (some 21), none, (.un .not (.r 20)), []⟩])
def pf4_24 : PC := (.seq (.seq pf4_23 (.cond (.r 21) (.seq pf4_22 .ret) .skip)) (.seq pf4_21 (.seq pf4_20 pf4_19)))
def pf4_25 : PC := (.ops 0 [⟨0, (some 6), none, (.mov (.c (.bool false))), []⟩])
def pf4 : PF := ⟨3, 104, [(.tmp 6)], (.seq pf4_25 pf4_24)⟩
theorem prep4 : (Go.Proofs.Tryd.prog.funcs[4]?).bind (prepF Go.Proofs.Tryd.prog) = some pf4 := by kernel_rfl
/-! sigillum/sigillumlaw29.awake -/
def pf5_0 : PC := (.ops 5 [⟨0, (some 21), none, (.mov (.r 3)), []⟩, ⟨1, (some 22), none, (.mov (.r 21)), []⟩, ⟨2, (some 23), (some (22, true)), (.load 4 true (.r 2)), []⟩, ⟨3, (some 24), (some (22, true)), (.build [(.int .u64 0), (.int .u32 0), (.int .u8 0), (.int .u64 0)] [(0, (1, (.c (.int .u64 4)))), (2, (1, (.c (.int .u8 255)))), (3, (1, (.c (.int .u64 5))))]), []⟩, ⟨4, (some 25), (some (22, true)), (.eqv false .st (.r 23) (.r 24)), []⟩, ⟨5, (some 26), none, (.pick (.r 22) (.r 25) (.c (.bool false))), []⟩, ⟨6, (some 0), none, (.mov (.r 26)), []⟩])
def pf5_1 : PC := (.ops 4 [⟨0, (some 17), none, (.mov (.r 1)), []⟩, ⟨1, (some 18), none, (.call 16 [(.r 17)]), []⟩, ⟨2, (some 16), none, (.mov (.r 18)), []⟩, ⟨3, (some 19), none, (.ext (.r 16) 0), []⟩, ⟨4, (some 20), none, (.ext (.r 16) 1), []⟩, ⟨5, (some 2), none, (.new [(.int .u64 0), (.int .u32 0), (.int .u8 0), (.int .u64 0)]), []⟩, ⟨6, none, none, (.store 4 (.r 2) (.r 19)), []⟩, ⟨7, (some 3), none, (.mov (.r 20)), []⟩])
def pf5_2 : PC := (.ops 3 [⟨0, (some 0), none, (.mov (.c (.bool false))), []⟩])
def pf5_3 : PC := (.ops 2 [⟨0, (some 9), none, (.mov (.r 1)), []⟩, ⟨1, (some 10), none, (.eqv false .ptr (.r 9) (.c .pnil)), []⟩, ⟨2, (some 11), none, (.mov (.r 10)), []⟩, ⟨3, (some 12), (some (11, false)), (.mov (.r 1)), []⟩, ⟨4, (some 13), (some (11, false)), (.call 10 [(.r 12)]), []⟩, ⟨5, (some 14), (some (11, false)), (.eqv true .ifc (.r 13) (.c .nilIface)), []⟩, ⟨6, (some 15), none, (.pick (.r 11) (.c (.bool true)) (.r 14)), []⟩])
def pf5_4 : PC := (.seq (.seq pf5_3 (.cond (.r 15) (.seq pf5_2 .ret) .skip)) (.seq pf5_1 (.seq pf5_0 .ret)))
def pf5_5 : PC := (.ops 1 [⟨0, (some 4), none, (.build [(.int .i64 0), (.int .i64 0), (.int .i64 0), (.int .i64 0), (.int .i64 0), (.int .i64 0), (.int .i64 0)] []), []⟩, ⟨1, (some 5), none, (.buildSl 1 5 [(.int .u64 0), (.int .u64 0), (.int .u64 0), (.int .u64 0), (.int .u64 0)] [(0, (1, (.c (.int .u64 1)))), (1, (1, (.c (.int .u64 2)))), (2, (1, (.c (.int .u64 3)))), (3, (1, (.c (.int .u64 4)))), (4, (1, (.c (.int .u64 5))))]), []⟩, ⟨2, (some 6), none, (.call 7 [(.r 5)]), []⟩, ⟨3, (some 7), none, (.call 6 [(.r 6)]), []⟩, ⟨4, (some 8), none, (.call 8 [(.c (.int .i64 0)), (.c (.int .i64 3)), (.r 4), (.r 7)]), []⟩, ⟨5, (some 1), none, (.mov (.r 8)), []⟩])
def pf5_6 : PC := (.ops 0 [⟨0, (some 0), none, (.mov (.c (.bool false))), []⟩])
def pf5 : PF := ⟨0, 27, [(.tmp 0)], (.seq pf5_6 (.seq pf5_5 pf5_4))⟩
theorem prep5 : (Go.Proofs.Tryd.prog.funcs[5]?).bind (prepF Go.Proofs.Tryd.prog) = some pf5 := by kernel_rfl
/-! sigillum/oracle.Of -/
def pf6_0 : PC := (.ops 3 [⟨0, (some 6), none, (.mov (.r 0)), []⟩, ⟨1, (some 7), none, (.build [.snil, .pnil] [(1, (1, (.r 6)))]), []⟩, ⟨2, (some 8), none, (.box (.r 7)), []⟩, ⟨3, (some 2), none, (.mov (.r 8)), []⟩])
def pf6_1 : PC := (.ops 2 [⟨0, (some 5), none, (.call 7 [(.c .snil)]), []⟩, ⟨1, (some 0), none, (.mov (.r 5)), []⟩])
def pf6_2 : PC := (.ops 1 [⟨0, (some 3), none, (.mov (.r 0)), []⟩, ⟨1, (some 4), none, (.eqv false .ptr (.r 3) (.c .pnil)), []⟩])
def pf6_3 : PC := (.seq (.seq pf6_2 (.cond (.r 4) pf6_1 .skip)) (.seq pf6_0 .ret))
def pf6 : PF := ⟨1, 9, [(.tmp 2)], (.seq (.ops 0 [⟨0, (some 2), none, (.mov (.c .pnil)), []⟩]) pf6_3)⟩
theorem prep6 : (Go.Proofs.Tryd.prog.funcs[6]?).bind (prepF Go.Proofs.Tryd.prog) = some pf6 := by kernel_rfl
/-! sigillum/tape.Of -/
def pf7_0 : PC := (.ops 7 [⟨0, (some 26), none, (.mov (.r 3)), []⟩, ⟨1, (some 2), none, (.mov (.r 26)), []⟩])
def pf7_1 : PC := (.ops 5 [⟨0, (some 14), none, (.mov (.r 3)), []⟩, ⟨1, (some 15), none, (.mov (.r 3)), []⟩, ⟨2, (some 16), none, (.nilck (.r 15)), []⟩, ⟨3, (some 17), none, (.faddr 0 (.r 16)), []⟩, ⟨4, (some 18), none, (.load 1 false (.r 17)), []⟩, ⟨5, (some 19), none, (.mov (.r 5)), []⟩, ⟨6, (some 20), none, (.call 27 [(.r 19)]), [(none, ((.load 1 false (.r 17)), 18))]⟩, ⟨7, (some 21), none, (.buildSl 1 1 [(.int .u64 0)] [(0, (1, (.r 20)))]), []⟩, ⟨8, (some 22), none, (.app 1 8 (.r 18) (.r 21)), []⟩, ⟨9, (some 23), none, (.nilck (.r 14)), []⟩, ⟨10, (some 24), none, (.faddr 0 (.r 23)), []⟩, ⟨11, none, none, (.store 1 (.r 24) (.r 22)), []⟩])
def pf7_2 : PC := (.ops 4 [⟨0, (some 12), none, (.iaddr 1 (.r 8) (.r 10)), []⟩, ⟨1, (some 13), none, (.load 1 false (.r 12)), []⟩, ⟨2, (some 5), none, (.mov (.r 13)), []⟩])
def pf7_3 : PC := (.ops 6 [⟨0, (some 25), none, (.bin .add (.r 10) (.c (.int .i64 1))), []⟩, ⟨1, (some 10), none, (.mov (.r 25)), []⟩])
def pf7_4 : PC := (.seq (.cond (.r 11) .skip (.exit 0)) (.seq (.block 1 (.seq pf7_2 pf7_1)) pf7_3))
def pf7_5 : PC := (.ops 3 [⟨0, (some 11), none, (.bin .lss (.r 10) (.r 9)), []⟩])
def pf7_6 : PC := (.ops 2 [⟨0, (some 8), none, (.mov (.r 0)), []⟩, ⟨1, (some 9), none, (.len false (.r 8)), []⟩, ⟨2, (some 10), none, (.mov (.c (.int .i64 0))), []⟩])
def pf7_7 : PC := (.seq (.seq pf7_6 (.block 0 (.loop (.seq pf7_5 pf7_4)))) (.seq pf7_0 .ret))
def pf7_8 : PC := (.ops 1 [⟨0, (some 6), none, (.build [.snil, (.int .i64 0)] []), []⟩, ⟨1, (some 7), none, (.box (.r 6)), []⟩, ⟨2, (some 3), none, (.mov (.r 7)), []⟩])
def pf7 : PF := ⟨1, 27, [(.tmp 2)], (.seq (.ops 0 [⟨0, (some 2), none, (.mov (.c .pnil)), []⟩]) (.seq pf7_8 pf7_7))⟩
theorem prep7 : (Go.Proofs.Tryd.prog.funcs[7]?).bind (prepF Go.Proofs.Tryd.prog) = some pf7 := by kernel_rfl
/-! sigillum/node.Of -/
def pf8_0 : PC := (.ops 1 [⟨0, (some 9), none, (.mov (.r 0)), []⟩, ⟨1, (some 10), none, (.mov (.r 1)), []⟩, ⟨2, (some 11), none, (.load 7 true (.r 6)), []⟩, ⟨3, (some 12), none, (.mov (.r 3)), []⟩, ⟨4, (some 13), none, (.build [(.int .i64 0), (.int .i64 0), (.int .i64 0), (.int .i64 0), (.int .i64 0), (.int .i64 0), (.int .i64 0), (.int .i64 0), (.int .i64 0), .pnil, (.bool false), (.int .i64 0), (.int .u64 0), (.int .u64 0), (.int .u64 0), (.int .u64 0), (.int .u32 0), (.int .u8 0), (.int .u64 0), .pnil, .pnil, .pnil, .pnil, .pnil, .pnil, .mnil] [(0, (1, (.r 9))), (1, (1, (.r 10))), (2, (7, (.r 11))), (9, (1, (.r 12)))]), []⟩, ⟨5, (some 14), none, (.box (.r 13)), []⟩, ⟨6, (some 8), none, (.mov (.r 14)), []⟩])
def pf8_1 : PC := (.ops 0 [⟨0, (some 6), none, (.box (.r 2)), []⟩, ⟨1, (some 8), none, (.mov (.c .pnil)), []⟩])
def pf8 : PF := ⟨4, 15, [(.tmp 8)], (.seq pf8_1 (.seq pf8_0 .ret))⟩
theorem prep8 : (Go.Proofs.Tryd.prog.funcs[8]?).bind (prepF Go.Proofs.Tryd.prog) = some pf8 := by kernel_rfl
/-! sigillum/sigillumlaw29.Config -/
def pf9_0 : PC := (.ops 1 [⟨0, (some 11), none, (.mov (.r 0)), []⟩, ⟨1, (some 12), none, (.bin .rem (.r 11) (.c (.int .u8 120))), []⟩, ⟨2, (some 13), none, (.cvi .i64 (.r 12)), []⟩, ⟨3, (some 14), none, (.bin .add (.c (.int .i64 1)) (.r 13)), []⟩, ⟨4, (some 15), none, (.mov (.r 1)), []⟩, ⟨5, (some 16), none, (.bin .rem (.r 15) (.c (.int .u8 5))), []⟩, ⟨6, (some 17), none, (.cvi .i64 (.r 16)), []⟩, ⟨7, (some 18), none, (.bin .add (.c (.int .i64 1)) (.r 17)), []⟩, ⟨8, (some 19), none, (.mov (.r 2)), []⟩, ⟨9, (some 20), none, (.bin .rem (.r 19) (.c (.int .u8 5))), []⟩, ⟨10, (some 21), none, (.cvi .i64 (.r 20)), []⟩, ⟨11, (some 22), none, (.bin .add (.c (.int .i64 1)) (.r 21)), []⟩, ⟨12, (some 23), none, (.mov (.r 3)), []⟩, ⟨13, (some 24), none, (.bin .rem (.r 23) (.c (.int .u8 20))), []⟩, ⟨14, (some 25), none, (.cvi .i64 (.r 24)), []⟩, ⟨15, (some 26), none, (.bin .add (.c (.int .i64 1)) (.r 25)), []⟩, ⟨16, (some 27), none, (.mov (.r 4)), []⟩, ⟨17, (some 28), none, (.bin .rem (.r 27) (.c (.int .u8 10))), []⟩, ⟨18, (some 29), none, (.cvi .i64 (.r 28)), []⟩, ⟨19, (some 30), none, (.bin .add (.c (.int .i64 1)) (.r 29)), []⟩, ⟨20, (some 31), none, (.build [(.int .i64 0), (.int .i64 0), (.int .i64 0), (.int .i64 0), (.int .i64 0), (.int .i64 0), (.int .i64 0)] [(0, (1, (.c (.int .i64 2)))), (1, (1, (.r 14))), (2, (1, (.r 18))), (3, (1, (.r 22))), (4, (1, (.r 26))), (5, (1, (.c (.int .i64 10)))), (6, (1, (.r 30)))]), []⟩, ⟨21, none, none, (.store 7 (.r 10) (.r 31)), []⟩])
def pf9_1 : PC := (.ops 0 [⟨0, (some 10), none, (.new [(.int .i64 0), (.int .i64 0), (.int .i64 0), (.int .i64 0), (.int .i64 0), (.int .i64 0), (.int .i64 0)]), []⟩])
def pf9 : PF := ⟨5, 32, [(.cell 10 7 true)], (.seq pf9_1 (.seq pf9_0 .ret))⟩
theorem prep9 : (Go.Proofs.Tryd.prog.funcs[9]?).bind (prepF Go.Proofs.Tryd.prog) = some pf9 := by kernel_rfl
/-! (ptr sigillum/node.Node).Boot -/
def pf10_0 : PC := (.seq (.ops 17 [⟨0, (some 2), none, (.mov (.c .nilIface)), []⟩]) .ret)
def pf10_1 : PC := (.ops 16 [⟨0, (some 106), none, (.mov (.r 0)), []⟩, ⟨1, (some 107), none, (.nilck (.r 106)), []⟩, ⟨2, (some 108), none, (.faddr 10 (.r 107)), []⟩, ⟨3, none, none, (.store 1 (.r 108) (.c (.bool true))), []⟩])
def pf10_2 : PC := (.ops 15 [⟨0, (some 84), none, (.mov (.r 0)), []⟩, ⟨1, (some 85), none, (.mov (.r 0)), []⟩, ⟨2, (some 86), none, (.mov (.r 0)), []⟩, ⟨3, (some 87), none, (.mov (.r 0)), []⟩, ⟨4, (some 88), none, (.nilck (.r 87)), []⟩, ⟨5, (some 89), none, (.faddr 2 (.r 88)), []⟩, ⟨6, (some 90), none, (.faddr 4 (.r 89)), []⟩, ⟨7, (some 91), none, (.load 1 false (.r 90)), []⟩, ⟨9, (some 93), none, (.mov (.r 0)), []⟩, ⟨10, (some 94), none, (.nilck (.r 93)), []⟩, ⟨11, (some 95), none, (.faddr 2 (.r 94)), []⟩, ⟨12, (some 96), none, (.faddr 6 (.r 95)), []⟩, ⟨13, (some 97), none, (.load 1 false (.r 96)), []⟩, ⟨15, (some 99), none, .mkm, []⟩, ⟨8, (some 92), none, (.call 31 [(.r 91)]), [(none, ((.load 1 false (.r 96)), 97))]⟩, ⟨14, (some 98), none, (.call 32 [(.r 97)]), []⟩, ⟨16, (some 100), none, (.nilck (.r 84)), []⟩, ⟨17, (some 101), none, (.faddr 23 (.r 100)), []⟩, ⟨18, none, none, (.store 1 (.r 101) (.r 92)), []⟩, ⟨19, (some 102), none, (.nilck (.r 85)), []⟩, ⟨20, (some 103), none, (.faddr 24 (.r 102)), []⟩, ⟨21, none, none, (.store 1 (.r 103) (.r 98)), []⟩, ⟨22, (some 104), none, (.nilck (.r 86)), []⟩, ⟨23, (some 105), none, (.faddr 25 (.r 104)), []⟩, ⟨24, none, none, (.store 1 (.r 105) (.r 99)), []⟩])
def pf10_3 : PC := (.ops 14 [⟨0, (some 59), none, (.mov (.r 0)), []⟩, ⟨1, (some 60), none, (.mov (.r 0)), []⟩, ⟨2, (some 61), none, (.mov (.r 0)), []⟩, ⟨3, (some 62), none, (.build [.snil] []), []⟩, ⟨4, (some 63), none, (.box (.r 62)), []⟩, ⟨5, (some 64), none, (.build [.snil] []), []⟩, ⟨6, (some 65), none, (.box (.r 64)), []⟩, ⟨7, (some 66), none, (.mov (.r 5)), []⟩, ⟨8, (some 67), none, (.mov (.r 0)), []⟩, ⟨9, (some 68), none, (.nilck (.r 67)), []⟩, ⟨10, (some 69), none, (.faddr 2 (.r 68)), []⟩, ⟨11, (some 70), none, (.faddr 2 (.r 69)), []⟩, ⟨12, (some 71), none, (.load 1 false (.r 70)), []⟩, ⟨13, (some 72), none, (.mov (.r 0)), []⟩, ⟨14, (some 73), none, (.nilck (.r 72)), []⟩, ⟨15, (some 74), none, (.faddr 2 (.r 73)), []⟩, ⟨16, (some 75), none, (.faddr 3 (.r 74)), []⟩, ⟨17, (some 76), none, (.load 1 false (.r 75)), []⟩, ⟨18, (some 77), none, (.call 30 [(.r 66), (.r 71), (.r 76)]), []⟩, ⟨19, (some 78), none, (.nilck (.r 59)), []⟩, ⟨20, (some 79), none, (.faddr 20 (.r 78)), []⟩, ⟨21, none, none, (.store 1 (.r 79) (.r 63)), []⟩, ⟨22, (some 80), none, (.nilck (.r 60)), []⟩, ⟨23, (some 81), none, (.faddr 21 (.r 80)), []⟩, ⟨24, none, none, (.store 1 (.r 81) (.r 65)), []⟩, ⟨25, (some 82), none, (.nilck (.r 61)), []⟩, ⟨26, (some 83), none, (.faddr 22 (.r 82)), []⟩, ⟨27, none, none, (.store 1 (.r 83) (.r 77)), []⟩])
def pf10_4 : PC := (.ops 13 [⟨0, (some 58), none, (.mov (.r 6)), []⟩, ⟨1, (some 2), none, (.mov (.r 58)), []⟩])
def pf10_5 : PC := (.ops 12 [⟨0, (some 56), none, (.mov (.r 6)), []⟩, ⟨1, (some 57), none, (.eqv true .ifc (.r 56) (.c .nilIface)), []⟩])
def pf10_6 : PC := (.ops 11 [⟨0, (some 54), none, (.mov (.r 0)), []⟩, ⟨1, (some 55), none, (.call 29 [(.r 54)]), []⟩, ⟨2, (some 6), none, (.mov (.r 55)), []⟩])
def pf10_7 : PC := (.seq pf10_6 (.seq pf10_5 (.cond (.r 57) (.seq pf10_4 .ret) .skip)))
def pf10_8 : PC := (.ops 10 [⟨0, (some 49), none, (.mov (.r 0)), []⟩, ⟨1, (some 50), none, (.nilck (.r 49)), []⟩, ⟨2, (some 51), none, (.faddr 1 (.r 50)), []⟩, ⟨3, (some 52), none, (.load 1 false (.r 51)), []⟩, ⟨4, (some 53), none, (.bin .neq (.r 52) (.c (.int .i64 0))), []⟩])
def pf10_9 : PC := (.seq (.seq pf10_8 (.cond (.r 53) pf10_7 .skip)) (.seq pf10_3 (.seq pf10_2 (.seq pf10_1 pf10_0))))
def pf10_10 : PC := (.ops 9 [⟨0, (some 35), none, (.mov (.r 0)), []⟩, ⟨1, (some 36), none, (.mov (.r 0)), []⟩, ⟨2, (some 37), none, (.mov (.r 0)), []⟩, ⟨3, (some 38), none, (.mov (.r 0)), []⟩, ⟨4, (some 39), none, (.mov (.r 5)), []⟩, ⟨5, (some 40), none, (.build [(.int .u64 0), (.int .u32 0), (.int .u8 0), (.int .u64 0)] []), []⟩, ⟨6, (some 41), none, (.nilck (.r 35)), []⟩, ⟨7, (some 42), none, (.faddr 13 (.r 41)), []⟩, ⟨8, none, none, (.store 1 (.r 42) (.r 39)), []⟩, ⟨9, (some 43), none, (.nilck (.r 36)), []⟩, ⟨10, (some 44), none, (.faddr 14 (.r 43)), []⟩, ⟨11, none, none, (.store 1 (.r 44) (.c (.int .u64 0))), []⟩, ⟨12, (some 45), none, (.nilck (.r 37)), []⟩, ⟨13, (some 46), none, (.faddr 15 (.r 45)), []⟩, ⟨14, none, none, (.store 4 (.r 46) (.r 40)), []⟩, ⟨15, (some 47), none, (.nilck (.r 38)), []⟩, ⟨16, (some 48), none, (.faddr 19 (.r 47)), []⟩, ⟨17, none, none, (.store 1 (.r 48) (.c .pnil)), []⟩])
def pf10_11 : PC := (.ops 8 [⟨0, (some 34), none, (.mov (.r 4)), []⟩, ⟨1, (some 2), none, (.mov (.r 34)), []⟩])
def pf10_12 : PC := (.ops 7 [⟨0, (some 32), none, (.mov (.r 4)), []⟩, ⟨1, (some 33), none, (.eqv true .ifc (.r 32) (.c .nilIface)), []⟩])
def pf10_13 : PC := (.seq (.seq pf10_12 (.cond (.r 33) (.seq pf10_11 .ret) .skip)) (.seq pf10_10 pf10_9))
def pf10_14 : PC := (.ops 6 [⟨0, (some 24), none, (.mov (.r 0)), []⟩, ⟨1, (some 25), none, (.nilck (.r 24)), []⟩, ⟨2, (some 26), none, (.faddr 9 (.r 25)), []⟩, ⟨3, (some 27), none, (.load 1 false (.r 26)), []⟩, ⟨4, (some 28), none, (.mov (.r 3)), []⟩, ⟨5, (some 29), none, (.call 28 [(.r 27), (.r 28)]), []⟩, ⟨6, (some 23), none, (.mov (.r 29)), []⟩, ⟨7, (some 30), none, (.ext (.r 23) 0), []⟩, ⟨8, (some 31), none, (.ext (.r 23) 1), []⟩, ⟨9, (some 5), none, (.mov (.r 30)), []⟩, ⟨10, (some 4), none, (.mov (.r 31)), []⟩])
def pf10_15 : PC := (.ops 5 [⟨0, (some 22), none, (.mov (.r 4)), []⟩, ⟨1, (some 2), none, (.mov (.r 22)), []⟩])
def pf10_16 : PC := (.ops 4 [⟨0, (some 20), none, (.mov (.r 4)), []⟩, ⟨1, (some 21), none, (.eqv true .ifc (.r 20) (.c .nilIface)), []⟩])
def pf10_17 : PC := (.seq (.seq pf10_16 (.cond (.r 21) (.seq pf10_15 .ret) .skip)) (.seq pf10_14 pf10_13))
def pf10_18 : PC := (.ops 3 [⟨0, (some 13), none, (.mov (.r 0)), []⟩, ⟨1, (some 14), none, (.nilck (.r 13)), []⟩, ⟨2, (some 15), none, (.faddr 9 (.r 14)), []⟩, ⟨3, (some 16), none, (.load 1 false (.r 15)), []⟩, ⟨4, (some 17), none, (.call 12 [(.r 16)]), []⟩, ⟨5, (some 12), none, (.mov (.r 17)), []⟩, ⟨6, (some 18), none, (.ext (.r 12) 0), []⟩, ⟨7, (some 19), none, (.ext (.r 12) 1), []⟩, ⟨8, (some 3), none, (.mov (.r 18)), []⟩, ⟨9, (some 4), none, (.mov (.r 19)), []⟩])
def pf10_19 : PC := (.ops 2 [⟨0, (some 11), none, (.ifc 49 (.c (.int .i64 15))), []⟩, ⟨1, (some 2), none, (.mov (.r 11)), []⟩])
def pf10_20 : PC := (.ops 1 [⟨0, (some 7), none, (.mov (.r 0)), []⟩, ⟨1, (some 8), none, (.nilck (.r 7)), []⟩, ⟨2, (some 9), none, (.faddr 10 (.r 8)), []⟩, ⟨3, (some 10), none, (.load 1 false (.r 9)), []⟩])
def pf10_21 : PC := (.seq (.seq pf10_20 (.cond (.r 10) (.seq pf10_19 .ret) .skip)) (.seq pf10_18 pf10_17))
def pf10 : PF := ⟨1, 109, [(.tmp 2)], (.seq (.ops 0 [⟨0, (some 2), none, (.mov (.c .nilIface)), []⟩]) pf10_21)⟩
theorem prep10 : (Go.Proofs.Tryd.prog.funcs[10]?).bind (prepF Go.Proofs.Tryd.prog) = some pf10 := by kernel_rfl
/-! sigillum/sigillumlaw29.NodeBoot$1 -/
def pf11_0 : PC := (.ops 1 [⟨0, (some 8), none, (.mov (.r 0)), []⟩, ⟨1, (some 9), none, (.mov (.r 1)), []⟩, ⟨2, (some 10), none, (.callv (.r 9) []), []⟩, ⟨3, (some 7), none, (.mov (.r 10)), []⟩, ⟨4, (some 11), none, (.ext (.r 7) 0), []⟩, ⟨5, (some 12), none, (.ext (.r 7) 1), []⟩, ⟨6, (some 13), none, (.nilck (.r 8)), []⟩, ⟨7, none, none, (.store 1 (.r 13) (.r 11)), []⟩, ⟨8, none, none, (.store 1 (.r 2) (.r 12)), []⟩])
def pf11_1 : PC := (.ops 0 [⟨0, (some 5), none, (.load 1 false (.r 2)), []⟩, ⟨1, (some 6), none, (.eqv false .ifc (.r 5) (.c .nilIface)), []⟩])
def pf11 : PF := ⟨3, 14, [], (.seq pf11_1 (.cond (.r 6) pf11_0 .skip))⟩
theorem prep11 : (Go.Proofs.Tryd.prog.funcs[11]?).bind (prepF Go.Proofs.Tryd.prog) = some pf11 := by kernel_rfl
/-! (ptr sigillum/oracle.Oracle).Draw -/
def pf12_0 : PC := (.ops 1 [⟨0, (some 4), none, (.mov (.r 0)), []⟩, ⟨1, (some 5), none, (.nilck (.r 4)), []⟩, ⟨2, (some 6), none, (.faddr 1 (.r 5)), []⟩, ⟨3, (some 7), none, (.load 1 false (.r 6)), []⟩, ⟨4, (some 8), none, (.call 33 [(.r 7)]), []⟩, ⟨5, (some 9), none, (.ext (.r 8) 0), []⟩, ⟨6, (some 10), none, (.ext (.r 8) 1), []⟩, ⟨7, (some 2), none, (.mov (.r 9)), []⟩, ⟨8, (some 3), none, (.mov (.r 10)), []⟩])
def pf12_1 : PC := (.ops 0 [⟨0, (some 2), none, (.mov (.c (.int .u64 0))), []⟩, ⟨1, (some 3), none, (.mov (.c .nilIface)), []⟩])
def pf12 : PF := ⟨1, 11, [(.tmp 2), (.tmp 3)], (.seq pf12_1 (.seq pf12_0 .ret))⟩
theorem prep12 : (Go.Proofs.Tryd.prog.funcs[12]?).bind (prepF Go.Proofs.Tryd.prog) = some pf12 := by kernel_rfl
/-! sigillum/sigillumlaw29.NodeBoot$2 -/
def pf13_0 : PC := (.ops 1 [⟨0, (some 4), none, (.load 1 false (.r 0)), []⟩, ⟨1, (some 5), none, (.load 1 false (.r 1)), []⟩, ⟨2, (some 6), none, (.call 14 [(.r 4), (.c (.int .i64 0)), (.r 5)]), []⟩, ⟨3, (some 7), none, (.ext (.r 6) 0), []⟩, ⟨4, (some 8), none, (.ext (.r 6) 1), []⟩, ⟨5, (some 2), none, (.mov (.r 7)), []⟩, ⟨6, (some 3), none, (.mov (.r 8)), []⟩])
def pf13_1 : PC := (.ops 0 [⟨0, (some 2), none, (.mov (.c (.int .u64 0))), []⟩, ⟨1, (some 3), none, (.mov (.c .nilIface)), []⟩])
def pf13 : PF := ⟨2, 9, [(.tmp 2), (.tmp 3)], (.seq pf13_1 (.seq pf13_0 .ret))⟩
theorem prep13 : (Go.Proofs.Tryd.prog.funcs[13]?).bind (prepF Go.Proofs.Tryd.prog) = some pf13 := by kernel_rfl
/-! (ptr sigillum/oracle.Oracle).Ask -/
def pf14_0 : PC := (.ops 8 [⟨0, (some 46), none, (.mov (.r 10)), []⟩, ⟨1, (some 6), none, (.mov (.r 46)), []⟩, ⟨2, (some 7), none, (.mov (.c .nilIface)), []⟩])
def pf14_1 : PC := (.ops 7 [⟨0, (some 32), none, (.mov (.r 0)), []⟩, ⟨1, (some 33), none, (.mov (.r 0)), []⟩, ⟨2, (some 34), none, (.nilck (.r 33)), []⟩, ⟨3, (some 35), none, (.faddr 0 (.r 34)), []⟩, ⟨4, (some 36), none, (.load 1 false (.r 35)), []⟩, ⟨5, (some 37), none, (.mov (.r 1)), []⟩, ⟨6, (some 38), none, (.mov (.r 2)), []⟩, ⟨8, (some 40), none, (.mov (.r 10)), []⟩, ⟨7, (some 39), none, (.call 27 [(.r 38)]), [(none, ((.load 1 false (.r 35)), 36))]⟩, ⟨9, (some 41), none, (.build [(.int .i64 0), (.int .u64 0), (.int .u64 0)] [(0, (1, (.r 37))), (1, (1, (.r 39))), (2, (1, (.r 40)))]), []⟩, ⟨10, (some 42), none, (.buildSl 3 1 [(.int .i64 0), (.int .u64 0), (.int .u64 0)] [(0, (3, (.r 41)))]), []⟩, ⟨11, (some 43), none, (.app 3 24 (.r 36) (.r 42)), []⟩, ⟨12, (some 44), none, (.nilck (.r 32)), []⟩, ⟨13, (some 45), none, (.faddr 0 (.r 44)), []⟩, ⟨14, none, none, (.store 1 (.r 45) (.r 43)), []⟩])
def pf14_2 : PC := (.ops 6 [⟨0, (some 31), none, (.mov (.r 11)), []⟩, ⟨1, (some 6), none, (.mov (.c (.int .u64 0))), []⟩, ⟨2, (some 7), none, (.mov (.r 31)), []⟩])
def pf14_3 : PC := (.ops 5 [⟨0, (some 29), none, (.mov (.r 11)), []⟩, ⟨1, (some 30), none, (.eqv true .ifc (.r 29) (.c .nilIface)), []⟩])
def pf14_4 : PC := (.seq (.seq pf14_3 (.cond (.r 30) (.seq pf14_2 .ret) .skip)) (.seq pf14_1 (.seq pf14_0 .ret)))
def pf14_5 : PC := (.ops 4 [⟨0, (some 22), none, (.mov (.r 0)), []⟩, ⟨1, (some 23), none, (.nilck (.r 22)), []⟩, ⟨2, (some 24), none, (.faddr 1 (.r 23)), []⟩, ⟨3, (some 25), none, (.load 1 false (.r 24)), []⟩, ⟨4, (some 26), none, (.call 33 [(.r 25)]), []⟩, ⟨5, (some 21), none, (.mov (.r 26)), []⟩, ⟨6, (some 27), none, (.ext (.r 21) 0), []⟩, ⟨7, (some 28), none, (.ext (.r 21) 1), []⟩, ⟨8, (some 10), none, (.mov (.r 27)), []⟩, ⟨9, (some 11), none, (.mov (.r 28)), []⟩])
def pf14_6 : PC := (.ops 3 [⟨0, (some 20), none, (.mov (.r 8)), []⟩, ⟨1, (some 6), none, (.mov (.r 20)), []⟩, ⟨2, (some 7), none, (.mov (.c .nilIface)), []⟩])
def pf14_7 : PC := (.seq (.ops 2 [⟨0, (some 19), none, (.mov (.r 9)), []⟩]) (.cond (.r 19) (.seq pf14_6 .ret) .skip))
def pf14_8 : PC := (.ops 1 [⟨0, (some 13), none, (.mov (.r 0)), []⟩, ⟨1, (some 14), none, (.mov (.r 1)), []⟩, ⟨2, (some 15), none, (.mov (.r 2)), []⟩, ⟨3, (some 16), none, (.call 34 [(.r 13), (.r 14), (.r 15)]), []⟩, ⟨4, (some 12), none, (.mov (.r 16)), []⟩, ⟨5, (some 17), none, (.ext (.r 12) 0), []⟩, ⟨6, (some 18), none, (.ext (.r 12) 1), []⟩, ⟨7, (some 8), none, (.mov (.r 17)), []⟩, ⟨8, (some 9), none, (.mov (.r 18)), []⟩])
def pf14_9 : PC := (.ops 0 [⟨0, (some 6), none, (.mov (.c (.int .u64 0))), []⟩, ⟨1, (some 7), none, (.mov (.c .nilIface)), []⟩])
def pf14 : PF := ⟨3, 47, [(.tmp 6), (.tmp 7)], (.seq pf14_9 (.seq (.seq pf14_8 pf14_7) (.seq pf14_5 pf14_4)))⟩
theorem prep14 : (Go.Proofs.Tryd.prog.funcs[14]?).bind (prepF Go.Proofs.Tryd.prog) = some pf14 := by kernel_rfl
/-! sigillum/sigillumlaw29.NodeBoot$3 -/
def pf15_0 : PC := (.ops 1 [⟨0, (some 4), none, (.load 1 false (.r 0)), []⟩, ⟨1, (some 5), none, (.load 1 false (.r 1)), []⟩, ⟨2, (some 6), none, (.call 14 [(.r 4), (.c (.int .i64 0)), (.r 5)]), []⟩, ⟨3, (some 7), none, (.ext (.r 6) 0), []⟩, ⟨4, (some 8), none, (.ext (.r 6) 1), []⟩, ⟨5, (some 2), none, (.mov (.r 7)), []⟩, ⟨6, (some 3), none, (.mov (.r 8)), []⟩])
def pf15_1 : PC := (.ops 0 [⟨0, (some 2), none, (.mov (.c (.int .u64 0))), []⟩, ⟨1, (some 3), none, (.mov (.c .nilIface)), []⟩])
def pf15 : PF := ⟨2, 9, [(.tmp 2), (.tmp 3)], (.seq pf15_1 (.seq pf15_0 .ret))⟩
theorem prep15 : (Go.Proofs.Tryd.prog.funcs[15]?).bind (prepF Go.Proofs.Tryd.prog) = some pf15 := by kernel_rfl
/-! (ptr sigillum/node.Node).Root -/
def pf16_0 : PC := (.ops 1 [⟨0, (some 4), none, (.mov (.r 0)), []⟩, ⟨1, (some 5), none, (.nilck (.r 4)), []⟩, ⟨2, (some 6), none, (.faddr 15 (.r 5)), []⟩, ⟨3, (some 7), none, (.load 4 true (.r 6)), []⟩, ⟨4, (some 8), none, (.mov (.r 0)), []⟩, ⟨5, (some 9), none, (.nilck (.r 8)), []⟩, ⟨6, (some 10), none, (.faddr 10 (.r 9)), []⟩, ⟨7, (some 11), none, (.load 1 false (.r 10)), []⟩, ⟨8, (some 12), none, (.mov (.r 11)), []⟩, ⟨9, (some 13), (some (12, true)), (.mov (.r 0)), []⟩, ⟨10, (some 14), (some (12, true)), (.nilck (.r 13)), []⟩, ⟨11, (some 15), (some (12, true)), (.faddr 14 (.r 14)), []⟩, ⟨12, (some 16), (some (12, true)), (.load 1 false (.r 15)), []⟩, ⟨13, (some 17), (some (12, true)), (.bin .neq (.r 16) (.c (.int .u64 0))), []⟩, ⟨14, (some 18), none, (.pick (.r 12) (.r 17) (.c (.bool false))), []⟩, ⟨15, none, none, (.store 4 (.r 2) (.r 7)), [((some (12, true)), ((.load 1 false (.r 15)), 16))]⟩, ⟨16, (some 3), none, (.mov (.r 18)), []⟩])
def pf16_1 : PC := (.ops 0 [⟨0, (some 2), none, (.new [(.int .u64 0), (.int .u32 0), (.int .u8 0), (.int .u64 0)]), []⟩, ⟨1, (some 3), none, (.mov (.c (.bool false))), []⟩])
def pf16 : PF := ⟨1, 19, [(.cell 2 4 true), (.tmp 3)], (.seq pf16_1 (.seq pf16_0 .ret))⟩
theorem prep16 : (Go.Proofs.Tryd.prog.funcs[16]?).bind (prepF Go.Proofs.Tryd.prog) = some pf16 := by kernel_rfl
/-! sigillum/api.Number -/
def pf17_0 : PC := (.ops 4 [⟨0, (some 2), none, (.mov (.c (.int .i64 0))), []⟩])
def pf17_1 : PC := (.ops 3 [⟨0, (some 7), none, (.load 1 false (.r 3)), []⟩, ⟨1, (some 2), none, (.mov (.r 7)), []⟩])
def pf17_2 : PC := (.ops 2 [⟨0, (some 4), none, (.mov (.r 0)), []⟩, ⟨1, (some 5), none, (.ifc 99 (.r 3)), []⟩, ⟨2, (some 6), none, (.call 35 [(.r 4), (.r 5)]), []⟩])
def pf17_3 : PC := (.seq (.seq pf17_2 (.cond (.r 6) (.seq pf17_1 .ret) .skip)) (.seq pf17_0 .ret))
def pf17_4 : PC := (.seq (.ops 1 [⟨0, (some 3), none, (.new [(.int .i64 0)]), []⟩]) pf17_3)
def pf17_5 : PC := (.ops 0 [⟨0, (some 2), none, (.mov (.c (.int .i64 0))), []⟩])
def pf17 : PF := ⟨1, 8, [(.tmp 2)], (.seq pf17_5 pf17_4)⟩
theorem prep17 : (Go.Proofs.Tryd.prog.funcs[17]?).bind (prepF Go.Proofs.Tryd.prog) = some pf17 := by kernel_rfl
/-! (ptr sigillum/node.Node).Up -/
def pf18_0 : PC := (.ops 1 [⟨0, (some 3), none, (.mov (.r 0)), []⟩, ⟨1, (some 4), none, (.nilck (.r 3)), []⟩, ⟨2, (some 5), none, (.faddr 10 (.r 4)), []⟩, ⟨3, (some 6), none, (.load 1 false (.r 5)), []⟩, ⟨4, (some 2), none, (.mov (.r 6)), []⟩])
def pf18_1 : PC := (.ops 0 [⟨0, (some 2), none, (.mov (.c (.bool false))), []⟩])
def pf18 : PF := ⟨1, 7, [(.tmp 2)], (.seq pf18_1 (.seq pf18_0 .ret))⟩
theorem prep18 : (Go.Proofs.Tryd.prog.funcs[18]?).bind (prepF Go.Proofs.Tryd.prog) = some pf18 := by kernel_rfl
/-! (ptr sigillum/oracle.Oracle).Left -/
def pf19_0 : PC := (.ops 1 [⟨0, (some 3), none, (.mov (.r 0)), []⟩, ⟨1, (some 4), none, (.nilck (.r 3)), []⟩, ⟨2, (some 5), none, (.faddr 1 (.r 4)), []⟩, ⟨3, (some 6), none, (.load 1 false (.r 5)), []⟩, ⟨4, (some 7), none, (.call 36 [(.r 6)]), []⟩, ⟨5, (some 2), none, (.mov (.r 7)), []⟩])
def pf19_1 : PC := (.ops 0 [⟨0, (some 2), none, (.mov (.c (.int .i64 0))), []⟩])
def pf19 : PF := ⟨1, 8, [(.tmp 2)], (.seq pf19_1 (.seq pf19_0 .ret))⟩
theorem prep19 : (Go.Proofs.Tryd.prog.funcs[19]?).bind (prepF Go.Proofs.Tryd.prog) = some pf19 := by kernel_rfl
/-! (ptr sigillum/node.Node).Crash -/
def pf20_0 : PC := (.seq (.ops 4 [⟨0, (some 2), none, (.mov (.c .nilIface)), []⟩]) .ret)
def pf20_1 : PC := (.ops 3 [⟨0, (some 9), none, (.mov (.r 0)), []⟩, ⟨1, (some 10), none, (.mov (.r 0)), []⟩, ⟨2, (some 11), none, (.nilck (.r 10)), []⟩, ⟨3, (some 12), none, (.faddr 0 (.r 11)), []⟩, ⟨4, (some 13), none, (.load 1 false (.r 12)), []⟩, ⟨5, (some 14), none, (.mov (.r 0)), []⟩, ⟨6, (some 15), none, (.nilck (.r 14)), []⟩, ⟨7, (some 16), none, (.faddr 1 (.r 15)), []⟩, ⟨8, (some 17), none, (.load 1 false (.r 16)), []⟩, ⟨9, (some 18), none, (.mov (.r 0)), []⟩, ⟨10, (some 19), none, (.nilck (.r 18)), []⟩, ⟨11, (some 20), none, (.faddr 2 (.r 19)), []⟩, ⟨12, (some 21), none, (.load 7 true (.r 20)), []⟩, ⟨13, (some 22), none, (.mov (.r 0)), []⟩, ⟨14, (some 23), none, (.nilck (.r 22)), []⟩, ⟨15, (some 24), none, (.faddr 9 (.r 23)), []⟩, ⟨16, (some 25), none, (.load 1 false (.r 24)), []⟩, ⟨17, (some 26), none, (.mov (.r 0)), []⟩, ⟨18, (some 27), none, (.nilck (.r 26)), []⟩, ⟨19, (some 28), none, (.faddr 11 (.r 27)), []⟩, ⟨20, (some 29), none, (.load 1 false (.r 28)), []⟩, ⟨21, (some 30), none, (.mov (.r 0)), []⟩, ⟨22, (some 31), none, (.nilck (.r 30)), []⟩, ⟨23, (some 32), none, (.faddr 12 (.r 31)), []⟩, ⟨24, (some 33), none, (.load 1 false (.r 32)), []⟩, ⟨25, (some 34), none, (.build [(.int .i64 0), (.int .i64 0), (.int .i64 0), (.int .i64 0), (.int .i64 0), (.int .i64 0), (.int .i64 0), (.int .i64 0), (.int .i64 0), .pnil, (.bool false), (.int .i64 0), (.int .u64 0), (.int .u64 0), (.int .u64 0), (.int .u64 0), (.int .u32 0), (.int .u8 0), (.int .u64 0), .pnil, .pnil, .pnil, .pnil, .pnil, .pnil, .mnil] [(0, (1, (.r 13))), (1, (1, (.r 17))), (2, (7, (.r 21))), (9, (1, (.r 25))), (11, (1, (.r 29))), (12, (1, (.r 33)))]), []⟩, ⟨26, (some 35), none, (.nilck (.r 9)), []⟩, ⟨27, none, none, (.store 26 (.r 35) (.r 34)), []⟩])
def pf20_2 : PC := (.ops 2 [⟨0, (some 8), none, (.ifc 49 (.c (.int .i64 15))), []⟩, ⟨1, (some 2), none, (.mov (.r 8)), []⟩])
def pf20_3 : PC := (.ops 1 [⟨0, (some 3), none, (.mov (.r 0)), []⟩, ⟨1, (some 4), none, (.nilck (.r 3)), []⟩, ⟨2, (some 5), none, (.faddr 10 (.r 4)), []⟩, ⟨3, (some 6), none, (.load 1 false (.r 5)), []⟩, ⟨4, (some 7), none, (.un .not (.r 6)), []⟩])
def pf20_4 : PC := (.seq (.seq pf20_3 (.cond (.r 7) (.seq pf20_2 .ret) .skip)) (.seq pf20_1 pf20_0))
def pf20 : PF := ⟨1, 36, [(.tmp 2)], (.seq (.ops 0 [⟨0, (some 2), none, (.mov (.c .nilIface)), []⟩]) pf20_4)⟩
theorem prep20 : (Go.Proofs.Tryd.prog.funcs[20]?).bind (prepF Go.Proofs.Tryd.prog) = some pf20 := by kernel_rfl
/-! sigillum/sigillumlaw29.errorOf -/
def pf21_0 : PC := (.ops 3 [⟨0, (some 2), none, (.mov (.c (.int .i64 0))), []⟩])
def pf21_1 : PC := (.ops 2 [⟨0, (some 2), none, (.mov (.c (.int .i64 15))), []⟩])
def pf21_2 : PC := (.seq (.ops 1 [⟨0, (some 3), none, (.mov (.r 0)), []⟩]) (.cond (.r 3) (.seq pf21_1 .ret) .skip))
def pf21_3 : PC := (.ops 0 [⟨0, (some 2), none, (.mov (.c (.int .i64 0))), []⟩])
def pf21 : PF := ⟨1, 4, [(.tmp 2)], (.seq pf21_3 (.seq pf21_2 (.seq pf21_0 .ret)))⟩
theorem prep21 : (Go.Proofs.Tryd.prog.funcs[21]?).bind (prepF Go.Proofs.Tryd.prog) = some pf21 := by kernel_rfl
/-! sigillum/sigillumlaw29.pair -/
def pf22_0 : PC := (.ops 5 [⟨0, (some 26), none, (.mov (.r 8)), []⟩, ⟨1, (some 27), none, (.mov (.r 9)), []⟩, ⟨2, (some 28), none, (.mov (.r 8)), []⟩, ⟨3, (some 29), none, (.call 10 [(.r 28)]), []⟩, ⟨4, (some 30), none, (.eqv false .ifc (.r 29) (.c .nilIface)), []⟩, ⟨5, (some 31), none, (.mov (.r 30)), []⟩, ⟨6, (some 32), (some (31, true)), (.mov (.r 9)), []⟩, ⟨7, (some 33), (some (31, true)), (.call 10 [(.r 32)]), []⟩, ⟨8, (some 34), (some (31, true)), (.eqv false .ifc (.r 33) (.c .nilIface)), []⟩, ⟨9, (some 35), none, (.pick (.r 31) (.r 34) (.c (.bool false))), []⟩, ⟨10, (some 4), none, (.mov (.r 26)), []⟩, ⟨11, (some 5), none, (.mov (.r 27)), []⟩, ⟨12, (some 6), none, (.mov (.r 35)), []⟩])
def pf22_1 : PC := (.ops 4 [⟨0, (some 4), none, (.mov (.c .pnil)), []⟩, ⟨1, (some 5), none, (.mov (.c .pnil)), []⟩, ⟨2, (some 6), none, (.mov (.c (.bool false))), []⟩])
def pf22_2 : PC := (.ops 3 [⟨0, (some 20), none, (.mov (.r 8)), []⟩, ⟨1, (some 21), none, (.eqv false .ptr (.r 20) (.c .pnil)), []⟩, ⟨2, (some 22), none, (.mov (.r 21)), []⟩, ⟨3, (some 23), (some (22, false)), (.mov (.r 9)), []⟩, ⟨4, (some 24), (some (22, false)), (.eqv false .ptr (.r 23) (.c .pnil)), []⟩, ⟨5, (some 25), none, (.pick (.r 22) (.c (.bool true)) (.r 24)), []⟩])
def pf22_3 : PC := (.seq (.seq pf22_2 (.cond (.r 25) (.seq pf22_1 .ret) .skip)) (.seq pf22_0 .ret))
def pf22_4 : PC := (.ops 2 [⟨0, (some 13), none, (.load 7 true (.r 3)), []⟩, ⟨1, (some 14), none, (.mov (.r 7)), []⟩, ⟨3, (some 16), none, (.mov (.r 0)), []⟩, ⟨4, (some 17), none, (.load 7 true (.r 3)), []⟩, ⟨5, (some 18), none, (.mov (.r 7)), []⟩, ⟨2, (some 15), none, (.call 8 [(.c (.int .i64 0)), (.c (.int .i64 0)), (.r 13), (.r 14)]), [(none, ((.load 7 true (.r 3)), 17))]⟩, ⟨6, (some 19), none, (.call 8 [(.c (.int .i64 1)), (.r 16), (.r 17), (.r 18)]), []⟩, ⟨7, (some 8), none, (.mov (.r 15)), []⟩, ⟨8, (some 9), none, (.mov (.r 19)), []⟩])
def pf22_5 : PC := (.ops 1 [⟨0, (some 10), none, (.buildSl 1 20 [(.int .u64 0), (.int .u64 0), (.int .u64 0), (.int .u64 0), (.int .u64 0), (.int .u64 0), (.int .u64 0), (.int .u64 0), (.int .u64 0), (.int .u64 0), (.int .u64 0), (.int .u64 0), (.int .u64 0), (.int .u64 0), (.int .u64 0), (.int .u64 0), (.int .u64 0), (.int .u64 0), (.int .u64 0), (.int .u64 0)] [(0, (1, (.c (.int .u64 1)))), (1, (1, (.c (.int .u64 2)))), (2, (1, (.c (.int .u64 3)))), (3, (1, (.c (.int .u64 4)))), (4, (1, (.c (.int .u64 5)))), (5, (1, (.c (.int .u64 6)))), (6, (1, (.c (.int .u64 7)))), (7, (1, (.c (.int .u64 8)))), (8, (1, (.c (.int .u64 9)))), (9, (1, (.c (.int .u64 10)))), (10, (1, (.c (.int .u64 11)))), (11, (1, (.c (.int .u64 12)))), (12, (1, (.c (.int .u64 13)))), (13, (1, (.c (.int .u64 14)))), (14, (1, (.c (.int .u64 15)))), (15, (1, (.c (.int .u64 16)))), (16, (1, (.c (.int .u64 17)))), (17, (1, (.c (.int .u64 18)))), (18, (1, (.c (.int .u64 19)))), (19, (1, (.c (.int .u64 20))))]), []⟩, ⟨1, (some 11), none, (.call 7 [(.r 10)]), []⟩, ⟨2, (some 12), none, (.call 6 [(.r 11)]), []⟩, ⟨3, (some 7), none, (.mov (.r 12)), []⟩])
def pf22_6 : PC := (.ops 0 [⟨0, (some 3), none, (.box (.r 1)), []⟩, ⟨1, (some 4), none, (.mov (.c .pnil)), []⟩, ⟨2, (some 5), none, (.mov (.c .pnil)), []⟩, ⟨3, (some 6), none, (.mov (.c (.bool false))), []⟩])
def pf22 : PF := ⟨2, 36, [(.tmp 4), (.tmp 5), (.tmp 6)], (.seq pf22_6 (.seq pf22_5 (.seq pf22_4 pf22_3)))⟩
theorem prep22 : (Go.Proofs.Tryd.prog.funcs[22]?).bind (prepF Go.Proofs.Tryd.prog) = some pf22 := by kernel_rfl
/-! (ptr sigillum/node.Node).Tick -/
def pf23_0 : PC := (.ops 10 [⟨0, (some 34), none, (.mov (.r 3)), []⟩, ⟨1, (some 2), none, (.mov (.r 34)), []⟩])
def pf23_1 : PC := (.ops 8 [⟨0, (some 28), none, (.mov (.r 3)), []⟩, ⟨1, (some 29), none, (.mov (.r 0)), []⟩, ⟨2, (some 30), none, (.load 11 true (.r 5)), []⟩, ⟨3, (some 31), none, (.call 38 [(.r 29), (.r 30)]), []⟩, ⟨4, (some 32), none, (.app 6 64 (.r 28) (.r 31)), []⟩, ⟨5, (some 3), none, (.mov (.r 32)), []⟩])
def pf23_2 : PC := (.ops 7 [⟨0, (some 26), none, (.iaddr 11 (.r 22) (.r 24)), []⟩, ⟨1, (some 27), none, (.load 11 true (.r 26)), []⟩, ⟨2, (some 5), none, (.new [(.int .u64 0), (.int .u64 0), (.int .u32 0), (.int .u16 0), (.int .u16 0), (.int .u64 0), (.int .u32 0), (.int .u8 0), (.int .u64 0), (.int .u64 0), .snil]), []⟩, ⟨3, none, none, (.store 11 (.r 5) (.r 27)), []⟩])
def pf23_3 : PC := (.ops 9 [⟨0, (some 33), none, (.bin .add (.r 24) (.c (.int .i64 1))), []⟩, ⟨1, (some 24), none, (.mov (.r 33)), []⟩])
def pf23_4 : PC := (.seq (.cond (.r 25) .skip (.exit 0)) (.seq (.block 1 (.seq pf23_2 pf23_1)) pf23_3))
def pf23_5 : PC := (.ops 6 [⟨0, (some 25), none, (.bin .lss (.r 24) (.r 23)), []⟩])
def pf23_6 : PC := (.ops 5 [⟨0, (some 18), none, (.mov (.r 0)), []⟩, ⟨1, (some 19), none, (.nilck (.r 18)), []⟩, ⟨2, (some 20), none, (.faddr 22 (.r 19)), []⟩, ⟨3, (some 21), none, (.load 1 false (.r 20)), []⟩, ⟨4, (some 22), none, (.call 37 [(.r 21)]), []⟩, ⟨5, (some 23), none, (.len false (.r 22)), []⟩, ⟨6, (some 24), none, (.mov (.c (.int .i64 0))), []⟩])
def pf23_7 : PC := (.seq (.seq pf23_6 (.block 0 (.loop (.seq pf23_5 pf23_4)))) (.seq pf23_0 .ret))
def pf23_8 : PC := (.seq (.ops 3 [⟨0, (some 2), none, (.mov (.c .snil)), []⟩]) .ret)
def pf23_9 : PC := (.ops 2 [⟨0, (some 13), none, (.mov (.r 0)), []⟩, ⟨1, (some 14), none, (.nilck (.r 13)), []⟩, ⟨2, (some 15), none, (.faddr 10 (.r 14)), []⟩, ⟨3, (some 16), none, (.load 1 false (.r 15)), []⟩, ⟨4, (some 17), none, (.un .not (.r 16)), []⟩])
def pf23_10 : PC := (.seq (.ops 4 [⟨0, (some 3), none, (.mov (.c .snil)), []⟩]) pf23_7)
def pf23_11 : PC := (.ops 1 [⟨0, (some 6), none, (.mov (.r 0)), []⟩, ⟨1, (some 7), none, (.nilck (.r 6)), []⟩, ⟨2, (some 8), none, (.faddr 11 (.r 7)), []⟩, ⟨3, (some 9), none, (.load 1 false (.r 8)), []⟩, ⟨4, (some 10), none, (.bin .add (.r 9) (.c (.int .i64 1))), []⟩, ⟨5, (some 11), none, (.nilck (.r 6)), []⟩, ⟨6, (some 12), none, (.faddr 11 (.r 11)), []⟩, ⟨7, none, none, (.store 1 (.r 12) (.r 10)), []⟩])
def pf23_12 : PC := (.seq pf23_11 (.seq (.seq pf23_9 (.cond (.r 17) pf23_8 .skip)) pf23_10))
def pf23 : PF := ⟨1, 35, [(.tmp 2)], (.seq (.ops 0 [⟨0, (some 2), none, (.mov (.c .snil)), []⟩]) pf23_12)⟩
theorem prep23 : (Go.Proofs.Tryd.prog.funcs[23]?).bind (prepF Go.Proofs.Tryd.prog) = some pf23 := by kernel_rfl
/-! (ptr sigillum/node.Node).Call -/
def pf24_0 : PC := (.ops 8 [⟨0, (some 30), none, (.faddr 2 (.r 3)), []⟩, ⟨1, (some 31), none, (.load 1 false (.r 30)), []⟩, ⟨2, (some 32), none, (.mov (.r 0)), []⟩, ⟨3, (some 33), none, (.load 11 true (.r 3)), []⟩, ⟨4, (some 34), none, (.call 38 [(.r 32), (.r 33)]), [(none, ((.load 1 false (.r 30)), 31))]⟩, ⟨5, (some 4), none, (.mov (.r 31)), []⟩, ⟨6, (some 5), none, (.mov (.r 34)), []⟩, ⟨7, (some 6), none, (.mov (.c .nilIface)), []⟩])
def pf24_1 : PC := (.ops 7 [⟨0, (some 29), none, (.mov (.r 7)), []⟩, ⟨1, (some 4), none, (.mov (.c (.int .u32 0))), []⟩, ⟨2, (some 5), none, (.mov (.c .snil)), []⟩, ⟨3, (some 6), none, (.mov (.r 29)), []⟩])
def pf24_2 : PC := (.ops 6 [⟨0, (some 27), none, (.mov (.r 7)), []⟩, ⟨1, (some 28), none, (.eqv true .ifc (.r 27) (.c .nilIface)), []⟩])
def pf24_3 : PC := (.seq (.seq pf24_2 (.cond (.r 28) (.seq pf24_1 .ret) .skip)) (.seq pf24_0 .ret))
def pf24_4 : PC := (.ops 5 [⟨0, (some 19), none, (.mov (.r 0)), []⟩, ⟨1, (some 20), none, (.nilck (.r 19)), []⟩, ⟨2, (some 21), none, (.faddr 22 (.r 20)), []⟩, ⟨3, (some 22), none, (.load 1 false (.r 21)), []⟩, ⟨4, (some 23), none, (.load 11 true (.r 3)), []⟩, ⟨5, (some 24), none, (.call 40 [(.r 22), (.r 23)]), []⟩, ⟨6, (some 18), none, (.mov (.r 24)), []⟩, ⟨7, (some 25), none, (.ext (.r 18) 0), []⟩, ⟨8, (some 26), none, (.ext (.r 18) 1), []⟩, ⟨9, none, none, (.store 11 (.r 3) (.r 25)), []⟩, ⟨10, (some 7), none, (.mov (.r 26)), []⟩])
def pf24_5 : PC := (.ops 4 [⟨0, (some 17), none, (.ifc 49 (.c (.int .i64 8))), []⟩, ⟨1, (some 4), none, (.mov (.c (.int .u32 0))), []⟩, ⟨2, (some 5), none, (.mov (.c .snil)), []⟩, ⟨3, (some 6), none, (.mov (.r 17)), []⟩])
def pf24_6 : PC := (.ops 3 [⟨0, (some 14), none, (.load 11 true (.r 3)), []⟩, ⟨1, (some 15), none, (.call 39 [(.r 14)]), []⟩, ⟨2, (some 16), none, (.un .not (.r 15)), []⟩])
def pf24_7 : PC := (.ops 2 [⟨0, (some 13), none, (.ifc 49 (.c (.int .i64 15))), []⟩, ⟨1, (some 4), none, (.mov (.c (.int .u32 0))), []⟩, ⟨2, (some 5), none, (.mov (.c .snil)), []⟩, ⟨3, (some 6), none, (.mov (.r 13)), []⟩])
def pf24_8 : PC := (.ops 1 [⟨0, (some 8), none, (.mov (.r 0)), []⟩, ⟨1, (some 9), none, (.nilck (.r 8)), []⟩, ⟨2, (some 10), none, (.faddr 10 (.r 9)), []⟩, ⟨3, (some 11), none, (.load 1 false (.r 10)), []⟩, ⟨4, (some 12), none, (.un .not (.r 11)), []⟩])
def pf24_9 : PC := (.seq (.seq pf24_6 (.cond (.r 16) (.seq pf24_5 .ret) .skip)) (.seq pf24_4 pf24_3))
def pf24_10 : PC := (.seq (.seq pf24_8 (.cond (.r 12) (.seq pf24_7 .ret) .skip)) pf24_9)
def pf24_11 : PC := (.ops 0 [⟨0, (some 3), none, (.box (.r 1)), []⟩, ⟨1, (some 4), none, (.mov (.c (.int .u32 0))), []⟩, ⟨2, (some 5), none, (.mov (.c .snil)), []⟩, ⟨3, (some 6), none, (.mov (.c .nilIface)), []⟩])
def pf24 : PF := ⟨2, 35, [(.tmp 4), (.tmp 5), (.tmp 6)], (.seq pf24_11 pf24_10)⟩
theorem prep24 : (Go.Proofs.Tryd.prog.funcs[24]?).bind (prepF Go.Proofs.Tryd.prog) = some pf24 := by kernel_rfl
/-! sigillum/stub.Touch -/
def pf25_0 : PC := (.ops 1 [⟨0, (some 3), none, (.load 4 true (.r 1)), []⟩, ⟨1, (some 4), none, (.call 41 [(.r 3), (.c (.int .u16 2)), (.c (.int .u64 0)), (.c .snil)]), []⟩, ⟨2, none, none, (.store 11 (.r 2) (.r 4)), []⟩])
def pf25_1 : PC := (.ops 0 [⟨0, (some 1), none, (.box (.r 0)), []⟩, ⟨1, (some 2), none, (.new [(.int .u64 0), (.int .u64 0), (.int .u32 0), (.int .u16 0), (.int .u16 0), (.int .u64 0), (.int .u32 0), (.int .u8 0), (.int .u64 0), (.int .u64 0), .snil]), []⟩])
def pf25 : PF := ⟨1, 5, [(.cell 2 11 true)], (.seq pf25_1 (.seq pf25_0 .ret))⟩
theorem prep25 : (Go.Proofs.Tryd.prog.funcs[25]?).bind (prepF Go.Proofs.Tryd.prog) = some pf25 := by kernel_rfl
/-! (ptr sigillum/node.Node).Get -/
def pf26_0 : PC := (.ops 3 [⟨0, (some 14), none, (.mov (.r 0)), []⟩, ⟨1, (some 15), none, (.nilck (.r 14)), []⟩, ⟨2, (some 16), none, (.faddr 22 (.r 15)), []⟩, ⟨3, (some 17), none, (.load 1 false (.r 16)), []⟩, ⟨4, (some 18), none, (.mov (.r 1)), []⟩, ⟨5, (some 19), none, (.call 42 [(.r 17), (.r 18)]), []⟩, ⟨6, (some 20), none, (.ext (.r 19) 0), []⟩, ⟨7, (some 21), none, (.ext (.r 19) 1), []⟩, ⟨8, (some 22), none, (.ext (.r 19) 2), []⟩, ⟨9, (some 4), none, (.mov (.r 20)), []⟩, ⟨10, none, none, (.store 11 (.r 5) (.r 21)), []⟩, ⟨11, (some 6), none, (.mov (.r 22)), []⟩])
def pf26_1 : PC := (.ops 2 [⟨0, (some 12), none, (.build [(.int .u64 0), (.int .u64 0), (.int .u32 0), (.int .u16 0), (.int .u16 0), (.int .u64 0), (.int .u32 0), (.int .u8 0), (.int .u64 0), (.int .u64 0), .snil] []), []⟩, ⟨1, (some 13), none, (.ifc 49 (.c (.int .i64 15))), []⟩, ⟨2, (some 4), none, (.mov (.c (.int .i64 0))), []⟩, ⟨3, none, none, (.store 11 (.r 5) (.r 12)), []⟩, ⟨4, (some 6), none, (.mov (.r 13)), []⟩])
def pf26_2 : PC := (.ops 1 [⟨0, (some 7), none, (.mov (.r 0)), []⟩, ⟨1, (some 8), none, (.nilck (.r 7)), []⟩, ⟨2, (some 9), none, (.faddr 10 (.r 8)), []⟩, ⟨3, (some 10), none, (.load 1 false (.r 9)), []⟩, ⟨4, (some 11), none, (.un .not (.r 10)), []⟩])
def pf26_3 : PC := (.seq (.seq pf26_2 (.cond (.r 11) (.seq pf26_1 .ret) .skip)) (.seq pf26_0 .ret))
def pf26_4 : PC := (.ops 0 [⟨0, (some 4), none, (.mov (.c (.int .i64 0))), []⟩, ⟨1, (some 5), none, (.new [(.int .u64 0), (.int .u64 0), (.int .u32 0), (.int .u16 0), (.int .u16 0), (.int .u64 0), (.int .u32 0), (.int .u8 0), (.int .u64 0), (.int .u64 0), .snil]), []⟩, ⟨2, (some 6), none, (.mov (.c .nilIface)), []⟩])
def pf26 : PF := ⟨2, 23, [(.tmp 4), (.cell 5 11 true), (.tmp 6)], (.seq pf26_4 pf26_3)⟩
theorem prep26 : (Go.Proofs.Tryd.prog.funcs[26]?).bind (prepF Go.Proofs.Tryd.prog) = some pf26 := by kernel_rfl
/-! sigillum/bits.Cut -/
def pf27_0 : PC := (.ops 1 [⟨0, (some 3), none, (.mov (.r 0)), []⟩, ⟨1, (some 4), none, (.bin .and (.r 3) (.c (.int .u64 281474976710655))), []⟩, ⟨2, (some 2), none, (.mov (.r 4)), []⟩])
def pf27_1 : PC := (.ops 0 [⟨0, (some 2), none, (.mov (.c (.int .u64 0))), []⟩])
def pf27 : PF := ⟨1, 5, [(.tmp 2)], (.seq pf27_1 (.seq pf27_0 .ret))⟩
theorem prep27 : (Go.Proofs.Tryd.prog.funcs[27]?).bind (prepF Go.Proofs.Tryd.prog) = some pf27 := by kernel_rfl
/-! sigillum/token.Port -/
def pf28_0 : PC := (.ops 1 [⟨0, (some 6), none, (.mov (.r 0)), []⟩, ⟨1, (some 7), none, (.mov (.r 1)), []⟩, ⟨2, (some 8), none, (.call 14 [(.r 6), (.c (.int .i64 0)), (.r 7)]), []⟩, ⟨3, (some 9), none, (.ext (.r 8) 0), []⟩, ⟨4, (some 10), none, (.ext (.r 8) 1), []⟩, ⟨5, (some 4), none, (.mov (.r 9)), []⟩, ⟨6, (some 5), none, (.mov (.r 10)), []⟩])
def pf28_1 : PC := (.ops 0 [⟨0, (some 4), none, (.mov (.c (.int .u64 0))), []⟩, ⟨1, (some 5), none, (.mov (.c .nilIface)), []⟩])
def pf28 : PF := ⟨2, 11, [(.tmp 4), (.tmp 5)], (.seq pf28_1 (.seq pf28_0 .ret))⟩
theorem prep28 : (Go.Proofs.Tryd.prog.funcs[28]?).bind (prepF Go.Proofs.Tryd.prog) = some pf28 := by kernel_rfl
/-! (ptr sigillum/node.Node).serve -/
def pf29_0 : PC := (.ops 16 [⟨0, (some 95), none, (.mov (.r 4)), []⟩, ⟨1, (some 2), none, (.mov (.r 95)), []⟩])
def pf29_1 : PC := (.ops 15 [⟨0, (some 91), none, (.mov (.r 0)), []⟩, ⟨1, (some 92), none, (.mov (.r 5)), []⟩, ⟨2, (some 93), none, (.nilck (.r 91)), []⟩, ⟨3, (some 94), none, (.faddr 14 (.r 93)), []⟩, ⟨4, none, none, (.store 1 (.r 94) (.r 92)), []⟩])
def pf29_2 : PC := (.ops 14 [⟨0, (some 89), none, (.mov (.r 4)), []⟩, ⟨1, (some 90), none, (.eqv false .ifc (.r 89) (.c .nilIface)), []⟩])
def pf29_3 : PC := (.ops 9 [⟨0, (some 41), none, (.mov (.r 0)), []⟩, ⟨1, (some 42), none, (.mov (.r 0)), []⟩, ⟨2, (some 43), none, (.mov (.r 6)), []⟩, ⟨3, (some 44), none, (.call 46 [(.r 43)]), []⟩, ⟨4, (some 40), none, (.mov (.r 44)), []⟩, ⟨5, (some 45), none, (.ext (.r 40) 0), []⟩, ⟨6, (some 46), none, (.ext (.r 40) 1), []⟩, ⟨7, (some 47), none, (.ext (.r 40) 2), []⟩, ⟨8, (some 48), none, (.nilck (.r 41)), []⟩, ⟨9, (some 49), none, (.faddr 19 (.r 48)), []⟩, ⟨10, none, none, (.store 1 (.r 49) (.r 45)), []⟩, ⟨11, (some 50), none, (.nilck (.r 42)), []⟩, ⟨12, (some 51), none, (.faddr 15 (.r 50)), []⟩, ⟨13, none, none, (.store 4 (.r 51) (.r 46)), []⟩, ⟨14, (some 4), none, (.mov (.r 47)), []⟩])
def pf29_4 : PC := (.ops 13 [⟨0, (some 74), none, (.mov (.r 0)), []⟩, ⟨1, (some 75), none, (.mov (.r 0)), []⟩, ⟨2, (some 76), none, (.mov (.r 6)), []⟩, ⟨3, (some 77), none, (.mov (.r 0)), []⟩, ⟨4, (some 78), none, (.nilck (.r 77)), []⟩, ⟨5, (some 79), none, (.faddr 9 (.r 78)), []⟩, ⟨6, (some 80), none, (.load 1 false (.r 79)), []⟩, ⟨7, (some 81), none, (.call 45 [(.r 76), (.r 80)]), []⟩, ⟨8, (some 73), none, (.mov (.r 81)), []⟩, ⟨9, (some 82), none, (.ext (.r 73) 0), []⟩, ⟨10, (some 83), none, (.ext (.r 73) 1), []⟩, ⟨11, (some 84), none, (.ext (.r 73) 2), []⟩, ⟨12, (some 85), none, (.nilck (.r 74)), []⟩, ⟨13, (some 86), none, (.faddr 19 (.r 85)), []⟩, ⟨14, none, none, (.store 1 (.r 86) (.r 82)), []⟩, ⟨15, (some 87), none, (.nilck (.r 75)), []⟩, ⟨16, (some 88), none, (.faddr 15 (.r 87)), []⟩, ⟨17, none, none, (.store 4 (.r 88) (.r 83)), []⟩, ⟨18, (some 4), none, (.mov (.r 84)), []⟩])
def pf29_5 : PC := (.ops 12 [⟨0, (some 72), none, (.bin .eql (.r 39) (.c (.int .i64 2))), []⟩, ⟨1, (some 71), none, (.mov (.r 72)), []⟩])
def pf29_6 : PC := (.ops 11 [⟨0, (some 55), none, (.mov (.r 0)), []⟩, ⟨1, (some 56), none, (.mov (.r 0)), []⟩, ⟨2, (some 57), none, (.mov (.r 6)), []⟩, ⟨3, (some 58), none, (.mov (.r 0)), []⟩, ⟨4, (some 59), none, (.nilck (.r 58)), []⟩, ⟨5, (some 60), none, (.faddr 2 (.r 59)), []⟩, ⟨6, (some 61), none, (.faddr 5 (.r 60)), []⟩, ⟨7, (some 62), none, (.load 1 false (.r 61)), []⟩, ⟨8, (some 63), none, (.call 44 [(.r 57), (.r 62)]), []⟩, ⟨9, (some 54), none, (.mov (.r 63)), []⟩, ⟨10, (some 64), none, (.ext (.r 54) 0), []⟩, ⟨11, (some 65), none, (.ext (.r 54) 1), []⟩, ⟨12, (some 66), none, (.ext (.r 54) 2), []⟩, ⟨13, (some 67), none, (.nilck (.r 55)), []⟩, ⟨14, (some 68), none, (.faddr 19 (.r 67)), []⟩, ⟨15, none, none, (.store 1 (.r 68) (.r 64)), []⟩, ⟨16, (some 69), none, (.nilck (.r 56)), []⟩, ⟨17, (some 70), none, (.faddr 15 (.r 69)), []⟩, ⟨18, none, none, (.store 4 (.r 70) (.r 65)), []⟩, ⟨19, (some 4), none, (.mov (.r 66)), []⟩])
def pf29_7 : PC := (.cond (.r 52) pf29_6 (.seq pf29_5 (.cond (.r 71) pf29_4 pf29_3)))
def pf29_8 : PC := (.ops 10 [⟨0, (some 53), none, (.bin .eql (.r 39) (.c (.int .i64 1))), []⟩, ⟨1, (some 52), none, (.mov (.r 53)), []⟩])
def pf29_9 : PC := (.ops 8 [⟨0, (some 36), none, (.mov (.r 0)), []⟩, ⟨1, (some 37), none, (.nilck (.r 36)), []⟩, ⟨2, (some 38), none, (.faddr 1 (.r 37)), []⟩, ⟨3, (some 39), none, (.load 1 false (.r 38)), []⟩])
def pf29_10 : PC := (.seq (.seq pf29_2 (.cond (.r 90) pf29_1 .skip)) (.seq pf29_0 .ret))
def pf29_11 : PC := (.seq (.seq pf29_9 (.block 0 (.seq pf29_8 pf29_7))) pf29_10)
def pf29_12 : PC := (.ops 7 [⟨0, (some 30), none, (.mov (.r 5)), []⟩, ⟨1, (some 31), none, (.mov (.r 0)), []⟩, ⟨2, (some 32), none, (.nilck (.r 31)), []⟩, ⟨3, (some 33), none, (.faddr 9 (.r 32)), []⟩, ⟨4, (some 34), none, (.load 1 false (.r 33)), []⟩, ⟨5, (some 35), none, (.call 43 [(.r 30), (.r 34)]), []⟩, ⟨6, (some 6), none, (.mov (.r 35)), []⟩])
def pf29_13 : PC := (.ops 6 [⟨0, (some 29), none, (.mov (.r 4)), []⟩, ⟨1, (some 2), none, (.mov (.r 29)), []⟩])
def pf29_14 : PC := (.ops 5 [⟨0, (some 27), none, (.mov (.r 4)), []⟩, ⟨1, (some 28), none, (.eqv true .ifc (.r 27) (.c .nilIface)), []⟩])
def pf29_15 : PC := (.seq (.seq pf29_14 (.cond (.r 28) (.seq pf29_13 .ret) .skip)) (.seq pf29_12 pf29_11))
def pf29_16 : PC := (.ops 4 [⟨0, (some 19), none, (.mov (.r 0)), []⟩, ⟨1, (some 20), none, (.nilck (.r 19)), []⟩, ⟨2, (some 21), none, (.faddr 9 (.r 20)), []⟩, ⟨3, (some 22), none, (.load 1 false (.r 21)), []⟩, ⟨4, (some 23), none, (.mov (.r 3)), []⟩, ⟨5, (some 24), none, (.call 28 [(.r 22), (.r 23)]), []⟩, ⟨6, (some 18), none, (.mov (.r 24)), []⟩, ⟨7, (some 25), none, (.ext (.r 18) 0), []⟩, ⟨8, (some 26), none, (.ext (.r 18) 1), []⟩, ⟨9, (some 5), none, (.mov (.r 25)), []⟩, ⟨10, (some 4), none, (.mov (.r 26)), []⟩])
def pf29_17 : PC := (.ops 3 [⟨0, (some 17), none, (.mov (.r 4)), []⟩, ⟨1, (some 2), none, (.mov (.r 17)), []⟩])
def pf29_18 : PC := (.ops 2 [⟨0, (some 15), none, (.mov (.r 4)), []⟩, ⟨1, (some 16), none, (.eqv true .ifc (.r 15) (.c .nilIface)), []⟩])
def pf29_19 : PC := (.seq (.seq pf29_18 (.cond (.r 16) (.seq pf29_17 .ret) .skip)) (.seq pf29_16 pf29_15))
def pf29_20 : PC := (.ops 1 [⟨0, (some 8), none, (.mov (.r 0)), []⟩, ⟨1, (some 9), none, (.nilck (.r 8)), []⟩, ⟨2, (some 10), none, (.faddr 9 (.r 9)), []⟩, ⟨3, (some 11), none, (.load 1 false (.r 10)), []⟩, ⟨4, (some 12), none, (.call 12 [(.r 11)]), []⟩, ⟨5, (some 7), none, (.mov (.r 12)), []⟩, ⟨6, (some 13), none, (.ext (.r 7) 0), []⟩, ⟨7, (some 14), none, (.ext (.r 7) 1), []⟩, ⟨8, (some 3), none, (.mov (.r 13)), []⟩, ⟨9, (some 4), none, (.mov (.r 14)), []⟩])
def pf29 : PF := ⟨1, 96, [(.tmp 2)], (.seq (.ops 0 [⟨0, (some 2), none, (.mov (.c .nilIface)), []⟩]) (.seq pf29_20 pf29_19))⟩
theorem prep29 : (Go.Proofs.Tryd.prog.funcs[29]?).bind (prepF Go.Proofs.Tryd.prog) = some pf29 := by kernel_rfl
/-! sigillum/client.Of -/
def pf30_0 : PC := (.ops 1 [⟨0, (some 7), none, (.mov (.r 0)), []⟩, ⟨1, (some 8), none, (.mov (.r 1)), []⟩, ⟨2, (some 9), none, (.mx [(.c (.int .i64 1)), (.r 8)]), []⟩, ⟨3, (some 10), none, (.mov (.r 2)), []⟩, ⟨4, (some 11), none, (.mx [(.c (.int .i64 1)), (.r 10)]), []⟩, ⟨5, (some 12), none, (.build [(.int .u64 0), (.int .i64 0), (.int .i64 0), .snil] [(0, (1, (.r 7))), (1, (1, (.r 9))), (2, (1, (.r 11)))]), []⟩, ⟨6, (some 13), none, (.box (.r 12)), []⟩, ⟨7, (some 6), none, (.mov (.r 13)), []⟩])
def pf30 : PF := ⟨3, 14, [(.tmp 6)], (.seq (.ops 0 [⟨0, (some 6), none, (.mov (.c .pnil)), []⟩]) (.seq pf30_0 .ret))⟩
theorem prep30 : (Go.Proofs.Tryd.prog.funcs[30]?).bind (prepF Go.Proofs.Tryd.prog) = some pf30 := by kernel_rfl
/-! sigillum/portmap.Of -/
def pf31_0 : PC := (.ops 1 [⟨0, (some 3), none, (.mov (.r 0)), []⟩, ⟨1, (some 4), none, (.mx [(.c (.int .i64 1)), (.r 3)]), []⟩, ⟨2, (some 5), none, (.build [.snil, (.int .i64 0)] [(1, (1, (.r 4)))]), []⟩, ⟨3, (some 6), none, (.box (.r 5)), []⟩, ⟨4, (some 2), none, (.mov (.r 6)), []⟩])
def pf31 : PF := ⟨1, 7, [(.tmp 2)], (.seq (.ops 0 [⟨0, (some 2), none, (.mov (.c .pnil)), []⟩]) (.seq pf31_0 .ret))⟩
theorem prep31 : (Go.Proofs.Tryd.prog.funcs[31]?).bind (prepF Go.Proofs.Tryd.prog) = some pf31 := by kernel_rfl
/-! sigillum/mailbox.Of -/
def pf32_0 : PC := (.ops 2 [⟨0, (some 6), none, (.mov (.r 0)), []⟩, ⟨1, (some 7), none, (.mkc 80 (.r 6)), []⟩, ⟨2, (some 8), none, (.mov (.r 0)), []⟩, ⟨3, (some 9), none, (.mkc 80 (.r 8)), []⟩, ⟨4, (some 10), none, (.build [.cnil, .cnil] [(0, (1, (.r 7))), (1, (1, (.r 9)))]), []⟩, ⟨5, (some 11), none, (.box (.r 10)), []⟩, ⟨6, (some 2), none, (.mov (.r 11)), []⟩])
def pf32_1 : PC := (.ops 1 [⟨0, (some 3), none, (.mov (.r 0)), []⟩, ⟨1, (some 4), none, (.mn [(.r 3), (.c (.int .i64 64))]), []⟩, ⟨2, (some 5), none, (.mx [(.c (.int .i64 0)), (.r 4)]), []⟩, ⟨3, (some 0), none, (.mov (.r 5)), []⟩])
def pf32 : PF := ⟨1, 12, [(.tmp 2)], (.seq (.ops 0 [⟨0, (some 2), none, (.mov (.c .pnil)), []⟩]) (.seq pf32_1 (.seq pf32_0 .ret)))⟩
theorem prep32 : (Go.Proofs.Tryd.prog.funcs[32]?).bind (prepF Go.Proofs.Tryd.prog) = some pf32 := by kernel_rfl
/-! (ptr sigillum/tape.Tape).Draw -/
def pf33_0 : PC := (.ops 4 [⟨0, (some 22), none, (.mov (.r 0)), []⟩, ⟨1, (some 23), none, (.nilck (.r 22)), []⟩, ⟨2, (some 24), none, (.faddr 0 (.r 23)), []⟩, ⟨3, (some 25), none, (.load 1 false (.r 24)), []⟩, ⟨4, (some 26), none, (.mov (.r 0)), []⟩, ⟨5, (some 27), none, (.nilck (.r 26)), []⟩, ⟨6, (some 28), none, (.faddr 1 (.r 27)), []⟩, ⟨7, (some 29), none, (.load 1 false (.r 28)), []⟩, ⟨8, (some 30), none, (.bin .sub (.r 29) (.c (.int .i64 1))), []⟩, ⟨9, (some 31), none, (.iaddr 1 (.r 25) (.r 30)), []⟩, ⟨10, (some 32), none, (.load 1 false (.r 31)), []⟩, ⟨11, (some 2), none, (.mov (.r 32)), []⟩, ⟨12, (some 3), none, (.mov (.c .nilIface)), []⟩])
def pf33_1 : PC := (.ops 3 [⟨0, (some 15), none, (.mov (.r 0)), []⟩, ⟨1, (some 16), none, (.nilck (.r 15)), []⟩, ⟨2, (some 17), none, (.faddr 1 (.r 16)), []⟩, ⟨3, (some 18), none, (.load 1 false (.r 17)), []⟩, ⟨4, (some 19), none, (.bin .add (.r 18) (.c (.int .i64 1))), []⟩, ⟨5, (some 20), none, (.nilck (.r 15)), []⟩, ⟨6, (some 21), none, (.faddr 1 (.r 20)), []⟩, ⟨7, none, none, (.store 1 (.r 21) (.r 19)), []⟩])
def pf33_2 : PC := (.ops 2 [⟨0, (some 14), none, (.ifc 49 (.c (.int .i64 7))), []⟩, ⟨1, (some 2), none, (.mov (.c (.int .u64 0))), []⟩, ⟨2, (some 3), none, (.mov (.r 14)), []⟩])
def pf33_3 : PC := (.ops 1 [⟨0, (some 4), none, (.mov (.r 0)), []⟩, ⟨1, (some 5), none, (.nilck (.r 4)), []⟩, ⟨2, (some 6), none, (.faddr 1 (.r 5)), []⟩, ⟨3, (some 7), none, (.load 1 false (.r 6)), []⟩, ⟨4, (some 8), none, (.mov (.r 0)), []⟩, ⟨5, (some 9), none, (.nilck (.r 8)), []⟩, ⟨6, (some 10), none, (.faddr 0 (.r 9)), []⟩, ⟨7, (some 11), none, (.load 1 false (.r 10)), []⟩, ⟨8, (some 12), none, (.len false (.r 11)), []⟩, ⟨9, (some 13), none, (.bin .eql (.r 7) (.r 12)), []⟩])
def pf33_4 : PC := (.seq (.seq pf33_3 (.cond (.r 13) (.seq pf33_2 .ret) .skip)) (.seq pf33_1 (.seq pf33_0 .ret)))
def pf33_5 : PC := (.ops 0 [⟨0, (some 2), none, (.mov (.c (.int .u64 0))), []⟩, ⟨1, (some 3), none, (.mov (.c .nilIface)), []⟩])
def pf33 : PF := ⟨1, 33, [(.tmp 2), (.tmp 3)], (.seq pf33_5 pf33_4)⟩
theorem prep33 : (Go.Proofs.Tryd.prog.funcs[33]?).bind (prepF Go.Proofs.Tryd.prog) = some pf33 := by kernel_rfl
/-! (ptr sigillum/oracle.Oracle).Known -/
def pf34_0 : PC := (.ops 7 [⟨0, (some 6), none, (.mov (.c (.int .u64 0))), []⟩, ⟨1, (some 7), none, (.mov (.c (.bool false))), []⟩])
def pf34_1 : PC := (.ops 5 [⟨0, (some 30), none, (.faddr 2 (.r 9)), []⟩, ⟨1, (some 31), none, (.load 1 false (.r 30)), []⟩, ⟨2, (some 6), none, (.mov (.r 31)), []⟩, ⟨3, (some 7), none, (.mov (.c (.bool true))), []⟩])
def pf34_2 : PC := (.ops 4 [⟨0, (some 19), none, (.faddr 0 (.r 9)), []⟩, ⟨1, (some 20), none, (.load 1 false (.r 19)), []⟩, ⟨2, (some 21), none, (.mov (.r 1)), []⟩, ⟨3, (some 22), none, (.bin .eql (.r 20) (.r 21)), []⟩, ⟨4, (some 23), none, (.mov (.r 22)), []⟩, ⟨5, (some 24), (some (23, true)), (.faddr 1 (.r 9)), []⟩, ⟨6, (some 25), (some (23, true)), (.load 1 false (.r 24)), []⟩, ⟨7, (some 26), (some (23, true)), (.mov (.r 2)), []⟩, ⟨8, (some 27), (some (23, true)), (.call 27 [(.r 26)]), [((some (23, true)), ((.load 1 false (.r 24)), 25))]⟩, ⟨9, (some 28), (some (23, true)), (.bin .eql (.r 25) (.r 27)), []⟩, ⟨10, (some 29), none, (.pick (.r 23) (.r 28) (.c (.bool false))), []⟩])
def pf34_3 : PC := (.ops 3 [⟨0, (some 17), none, (.iaddr 3 (.r 13) (.r 15)), []⟩, ⟨1, (some 18), none, (.load 3 true (.r 17)), []⟩, ⟨2, (some 9), none, (.new [(.int .i64 0), (.int .u64 0), (.int .u64 0)]), []⟩, ⟨3, none, none, (.store 3 (.r 9) (.r 18)), []⟩])
def pf34_4 : PC := (.seq pf34_3 (.seq pf34_2 (.cond (.r 29) (.seq pf34_1 .ret) .skip)))
def pf34_5 : PC := (.ops 6 [⟨0, (some 32), none, (.bin .add (.r 15) (.c (.int .i64 1))), []⟩, ⟨1, (some 15), none, (.mov (.r 32)), []⟩])
def pf34_6 : PC := (.seq (.cond (.r 16) .skip (.exit 0)) (.seq (.block 1 pf34_4) pf34_5))
def pf34_7 : PC := (.ops 2 [⟨0, (some 16), none, (.bin .lss (.r 15) (.r 14)), []⟩])
def pf34_8 : PC := (.ops 1 [⟨0, (some 10), none, (.mov (.r 0)), []⟩, ⟨1, (some 11), none, (.nilck (.r 10)), []⟩, ⟨2, (some 12), none, (.faddr 0 (.r 11)), []⟩, ⟨3, (some 13), none, (.load 1 false (.r 12)), []⟩, ⟨4, (some 14), none, (.len false (.r 13)), []⟩, ⟨5, (some 15), none, (.mov (.c (.int .i64 0))), []⟩])
def pf34_9 : PC := (.seq (.seq pf34_8 (.block 0 (.loop (.seq pf34_7 pf34_6)))) (.seq pf34_0 .ret))
def pf34_10 : PC := (.ops 0 [⟨0, (some 6), none, (.mov (.c (.int .u64 0))), []⟩, ⟨1, (some 7), none, (.mov (.c (.bool false))), []⟩])
def pf34 : PF := ⟨3, 33, [(.tmp 6), (.tmp 7)], (.seq pf34_10 pf34_9)⟩
theorem prep34 : (Go.Proofs.Tryd.prog.funcs[34]?).bind (prepF Go.Proofs.Tryd.prog) = some pf34 := by kernel_rfl
/-! (ptr sigillum/tape.Tape).Left -/
def pf36_0 : PC := (.ops 1 [⟨0, (some 3), none, (.mov (.r 0)), []⟩, ⟨1, (some 4), none, (.nilck (.r 3)), []⟩, ⟨2, (some 5), none, (.faddr 0 (.r 4)), []⟩, ⟨3, (some 6), none, (.load 1 false (.r 5)), []⟩, ⟨4, (some 7), none, (.len false (.r 6)), []⟩, ⟨5, (some 8), none, (.mov (.r 0)), []⟩, ⟨6, (some 9), none, (.nilck (.r 8)), []⟩, ⟨7, (some 10), none, (.faddr 1 (.r 9)), []⟩, ⟨8, (some 11), none, (.load 1 false (.r 10)), []⟩, ⟨9, (some 12), none, (.bin .sub (.r 7) (.r 11)), []⟩, ⟨10, (some 2), none, (.mov (.r 12)), []⟩])
def pf36_1 : PC := (.ops 0 [⟨0, (some 2), none, (.mov (.c (.int .i64 0))), []⟩])
def pf36 : PF := ⟨1, 13, [(.tmp 2)], (.seq pf36_1 (.seq pf36_0 .ret))⟩
theorem prep36 : (Go.Proofs.Tryd.prog.funcs[36]?).bind (prepF Go.Proofs.Tryd.prog) = some pf36 := by kernel_rfl
/-! (ptr sigillum/client.Client).Tick -/
def pf37_0 : PC := (.ops 14 [⟨0, (some 75), none, (.mov (.r 3)), []⟩, ⟨1, (some 2), none, (.mov (.r 75)), []⟩])
def pf37_1 : PC := (.ops 9 [⟨0, (some 47), none, (.mov (.r 3)), []⟩, ⟨1, (some 48), none, (.mov (.r 5)), []⟩, ⟨2, (some 49), none, (.nilck (.r 48)), []⟩, ⟨3, (some 50), none, (.faddr 0 (.r 49)), []⟩, ⟨4, (some 51), none, (.load 11 true (.r 50)), []⟩, ⟨5, (some 52), none, (.call 51 [(.r 51)]), []⟩, ⟨6, (some 53), none, (.buildSl 11 1 [(.int .u64 0), (.int .u64 0), (.int .u32 0), (.int .u16 0), (.int .u16 0), (.int .u64 0), (.int .u32 0), (.int .u8 0), (.int .u64 0), (.int .u64 0), .snil] [(0, (11, (.r 52)))]), []⟩, ⟨7, (some 54), none, (.app 11 80 (.r 47) (.r 53)), []⟩, ⟨8, (some 3), none, (.mov (.r 54)), []⟩])
def pf37_2 : PC := (.ops 8 [⟨0, (some 32), none, (.mov (.r 5)), []⟩, ⟨1, (some 33), none, (.mov (.r 5)), []⟩, ⟨2, (some 34), none, (.mov (.r 5)), []⟩, ⟨3, (some 35), none, (.nilck (.r 34)), []⟩, ⟨4, (some 36), none, (.faddr 12 (.r 35)), []⟩, ⟨5, (some 37), none, (.load 1 false (.r 36)), []⟩, ⟨6, (some 38), none, (.bin .add (.r 37) (.c (.int .i64 1))), []⟩, ⟨7, (some 39), none, (.mov (.r 0)), []⟩, ⟨8, (some 40), none, (.nilck (.r 39)), []⟩, ⟨9, (some 41), none, (.faddr 1 (.r 40)), []⟩, ⟨10, (some 42), none, (.load 1 false (.r 41)), []⟩, ⟨11, (some 43), none, (.nilck (.r 32)), []⟩, ⟨12, (some 44), none, (.faddr 12 (.r 43)), []⟩, ⟨13, none, none, (.store 1 (.r 44) (.r 38)), []⟩, ⟨14, (some 45), none, (.nilck (.r 33)), []⟩, ⟨15, (some 46), none, (.faddr 13 (.r 45)), []⟩, ⟨16, none, none, (.store 1 (.r 46) (.r 42)), []⟩])
def pf37_3 : PC := (.ops 12 [⟨0, (some 71), none, (.mov (.r 5)), []⟩, ⟨1, (some 72), none, (.nilck (.r 71)), []⟩, ⟨2, (some 73), none, (.faddr 11 (.r 72)), []⟩, ⟨3, none, none, (.store 1 (.r 73) (.c (.int .i64 3))), []⟩])
def pf37_4 : PC := (.ops 11 [⟨0, (some 62), none, (.mov (.r 5)), []⟩, ⟨1, (some 63), none, (.nilck (.r 62)), []⟩, ⟨2, (some 64), none, (.faddr 12 (.r 63)), []⟩, ⟨3, (some 65), none, (.load 1 false (.r 64)), []⟩, ⟨4, (some 66), none, (.mov (.r 0)), []⟩, ⟨5, (some 67), none, (.nilck (.r 66)), []⟩, ⟨6, (some 68), none, (.faddr 2 (.r 67)), []⟩, ⟨7, (some 69), none, (.load 1 false (.r 68)), []⟩, ⟨8, (some 70), none, (.bin .eql (.r 65) (.r 69)), []⟩, ⟨9, (some 61), none, (.mov (.r 70)), []⟩])
def pf37_5 : PC := (.cond (.r 55) .skip (.seq pf37_4 (.cond (.r 61) pf37_3 (.seq pf37_2 pf37_1))))
def pf37_6 : PC := (.ops 10 [⟨0, (some 56), none, (.mov (.r 5)), []⟩, ⟨1, (some 57), none, (.nilck (.r 56)), []⟩, ⟨2, (some 58), none, (.faddr 13 (.r 57)), []⟩, ⟨3, (some 59), none, (.load 1 false (.r 58)), []⟩, ⟨4, (some 60), none, (.bin .gtr (.r 59) (.c (.int .i64 0))), []⟩, ⟨5, (some 55), none, (.mov (.r 60)), []⟩])
def pf37_7 : PC := (.ops 7 [⟨0, (some 25), none, (.mov (.r 5)), []⟩, ⟨1, (some 26), none, (.nilck (.r 25)), []⟩, ⟨2, (some 27), none, (.faddr 13 (.r 26)), []⟩, ⟨3, (some 28), none, (.load 1 false (.r 27)), []⟩, ⟨4, (some 29), none, (.bin .sub (.r 28) (.c (.int .i64 1))), []⟩, ⟨5, (some 30), none, (.nilck (.r 25)), []⟩, ⟨6, (some 31), none, (.faddr 13 (.r 30)), []⟩, ⟨7, none, none, (.store 1 (.r 31) (.r 29)), []⟩])
def pf37_8 : PC := (.ops 6 [⟨0, (some 20), none, (.mov (.r 5)), []⟩, ⟨1, (some 21), none, (.nilck (.r 20)), []⟩, ⟨2, (some 22), none, (.faddr 11 (.r 21)), []⟩, ⟨3, (some 23), none, (.load 1 false (.r 22)), []⟩, ⟨4, (some 24), none, (.bin .neq (.r 23) (.c (.int .i64 1))), []⟩])
def pf37_9 : PC := (.seq (.seq pf37_8 (.cond (.r 24) (.exit 1) .skip)) (.seq pf37_7 (.block 2 (.seq pf37_6 pf37_5))))
def pf37_10 : PC := (.ops 5 [⟨0, (some 14), none, (.mov (.r 0)), []⟩, ⟨1, (some 15), none, (.nilck (.r 14)), []⟩, ⟨2, (some 16), none, (.faddr 3 (.r 15)), []⟩, ⟨3, (some 17), none, (.load 1 false (.r 16)), []⟩, ⟨4, (some 18), none, (.mov (.r 4)), []⟩, ⟨5, (some 19), none, (.iaddr 25 (.r 17) (.r 18)), []⟩, ⟨6, (some 5), none, (.mov (.r 19)), []⟩])
def pf37_11 : PC := (.ops 4 [⟨0, (some 13), none, (.mov (.r 11)), []⟩, ⟨1, (some 4), none, (.mov (.r 13)), []⟩])
def pf37_12 : PC := (.ops 13 [⟨0, (some 74), none, (.bin .add (.r 11) (.c (.int .i64 1))), []⟩, ⟨1, (some 11), none, (.mov (.r 74)), []⟩])
def pf37_13 : PC := (.seq (.block 1 (.seq pf37_11 (.seq pf37_10 pf37_9))) pf37_12)
def pf37_14 : PC := (.ops 3 [⟨0, (some 12), none, (.bin .lss (.r 11) (.r 10)), []⟩])
def pf37_15 : PC := (.seq pf37_14 (.seq (.cond (.r 12) .skip (.exit 0)) pf37_13))
def pf37_16 : PC := (.ops 2 [⟨0, (some 6), none, (.mov (.r 0)), []⟩, ⟨1, (some 7), none, (.nilck (.r 6)), []⟩, ⟨2, (some 8), none, (.faddr 3 (.r 7)), []⟩, ⟨3, (some 9), none, (.load 1 false (.r 8)), []⟩, ⟨4, (some 10), none, (.len false (.r 9)), []⟩, ⟨5, (some 11), none, (.mov (.c (.int .i64 0))), []⟩])
def pf37_17 : PC := (.seq (.seq pf37_16 (.block 0 (.loop pf37_15))) (.seq pf37_0 .ret))
def pf37_18 : PC := (.seq (.ops 1 [⟨0, (some 3), none, (.mov (.c .snil)), []⟩]) pf37_17)
def pf37 : PF := ⟨1, 76, [(.tmp 2)], (.seq (.ops 0 [⟨0, (some 2), none, (.mov (.c .snil)), []⟩]) pf37_18)⟩
theorem prep37 : (Go.Proofs.Tryd.prog.funcs[37]?).bind (prepF Go.Proofs.Tryd.prog) = some pf37 := by kernel_rfl
/-! (ptr sigillum/node.Node).request -/
def pf38_0 : PC := (.ops 11 [⟨0, (some 64), none, (.mov (.r 7)), []⟩, ⟨1, (some 4), none, (.mov (.r 64)), []⟩])
def pf38_1 : PC := (.ops 9 [⟨0, (some 51), none, (.mov (.r 7)), []⟩, ⟨1, (some 52), none, (.mov (.r 0)), []⟩, ⟨2, (some 53), none, (.mov (.r 0)), []⟩, ⟨3, (some 54), none, (.nilck (.r 53)), []⟩, ⟨4, (some 55), none, (.faddr 13 (.r 54)), []⟩, ⟨5, (some 56), none, (.load 1 false (.r 55)), []⟩, ⟨6, (some 57), none, (.faddr 0 (.r 3)), []⟩, ⟨7, (some 58), none, (.load 1 false (.r 57)), []⟩, ⟨8, (some 59), none, (.build [(.int .u64 0), (.int .u64 0), (.int .u32 0), (.int .u16 0), (.int .u16 0), (.int .u64 0), (.int .u32 0), (.int .u8 0), (.int .u64 0), (.int .u64 0), .snil] [(3, (1, (.c (.int .u16 1)))), (1, (1, (.r 56))), (9, (1, (.r 58)))]), []⟩, ⟨9, (some 60), none, (.mov (.r 8)), []⟩, ⟨10, (some 61), none, (.call 53 [(.r 52), (.r 59), (.r 60)]), []⟩, ⟨11, (some 62), none, (.app 6 64 (.r 51) (.r 61)), []⟩, ⟨12, (some 7), none, (.mov (.r 62)), []⟩])
def pf38_2 : PC := (.ops 8 [⟨0, (some 36), none, (.mov (.r 8)), []⟩, ⟨1, (some 37), none, (.mov (.r 0)), []⟩, ⟨2, (some 38), none, (.nilck (.r 37)), []⟩, ⟨3, (some 39), none, (.faddr 0 (.r 38)), []⟩, ⟨4, (some 40), none, (.load 1 false (.r 39)), []⟩, ⟨5, (some 41), none, (.bin .neq (.r 36) (.r 40)), []⟩, ⟨6, (some 42), none, (.mov (.r 41)), []⟩, ⟨7, (some 43), (some (42, false)), (.faddr 0 (.r 3)), []⟩, ⟨8, (some 44), (some (42, false)), (.load 1 false (.r 43)), []⟩, ⟨9, (some 45), (some (42, false)), (.mov (.r 0)), []⟩, ⟨10, (some 46), (some (42, false)), (.nilck (.r 45)), []⟩, ⟨11, (some 47), (some (42, false)), (.faddr 14 (.r 46)), []⟩, ⟨12, (some 48), (some (42, false)), (.load 1 false (.r 47)), []⟩, ⟨13, (some 49), (some (42, false)), (.bin .eql (.r 44) (.r 48)), []⟩, ⟨14, (some 50), none, (.pick (.r 42) (.c (.bool true)) (.r 49)), []⟩])
def pf38_3 : PC := (.ops 7 [⟨0, (some 35), none, (.mov (.r 33)), []⟩, ⟨1, (some 8), none, (.mov (.r 35)), []⟩])
def pf38_4 : PC := (.ops 10 [⟨0, (some 63), none, (.bin .add (.r 33) (.c (.int .i64 1))), []⟩, ⟨1, (some 33), none, (.mov (.r 63)), []⟩])
def pf38_5 : PC := (.block 1 (.seq pf38_3 (.seq pf38_2 (.cond (.r 50) pf38_1 .skip))))
def pf38_6 : PC := (.ops 6 [⟨0, (some 34), none, (.bin .lss (.r 33) (.r 32)), []⟩])
def pf38_7 : PC := (.seq pf38_6 (.seq (.cond (.r 34) .skip (.exit 0)) (.seq pf38_5 pf38_4)))
def pf38_8 : PC := (.ops 5 [⟨0, (some 28), none, (.mov (.r 0)), []⟩, ⟨1, (some 29), none, (.nilck (.r 28)), []⟩, ⟨2, (some 30), none, (.faddr 2 (.r 29)), []⟩, ⟨3, (some 31), none, (.faddr 0 (.r 30)), []⟩, ⟨4, (some 32), none, (.load 1 false (.r 31)), []⟩, ⟨5, (some 33), none, (.mov (.c (.int .i64 0))), []⟩])
def pf38_9 : PC := (.seq (.seq pf38_8 (.block 0 (.loop pf38_7))) (.seq pf38_0 .ret))
def pf38_10 : PC := (.ops 3 [⟨0, (some 24), none, (.mov (.r 0)), []⟩, ⟨1, (some 25), none, (.load 11 true (.r 3)), []⟩, ⟨2, (some 26), none, (.mov (.r 5)), []⟩, ⟨3, (some 27), none, (.call 53 [(.r 24), (.r 25), (.r 26)]), []⟩, ⟨4, (some 4), none, (.mov (.r 27)), []⟩])
def pf38_11 : PC := (.seq (.ops 2 [⟨0, (some 23), none, (.mov (.r 6)), []⟩]) (.cond (.r 23) (.seq pf38_10 .ret) .skip))
def pf38_12 : PC := (.ops 1 [⟨0, (some 10), none, (.mov (.r 0)), []⟩, ⟨1, (some 11), none, (.nilck (.r 10)), []⟩, ⟨2, (some 12), none, (.faddr 23 (.r 11)), []⟩, ⟨3, (some 13), none, (.load 1 false (.r 12)), []⟩, ⟨4, (some 14), none, (.faddr 0 (.r 3)), []⟩, ⟨5, (some 15), none, (.load 1 false (.r 14)), []⟩, ⟨6, (some 16), none, (.mov (.r 0)), []⟩, ⟨7, (some 17), none, (.nilck (.r 16)), []⟩, ⟨8, (some 18), none, (.faddr 11 (.r 17)), []⟩, ⟨9, (some 19), none, (.load 1 false (.r 18)), []⟩, ⟨10, (some 20), none, (.call 52 [(.r 13), (.r 15), (.r 19)]), []⟩, ⟨11, (some 9), none, (.mov (.r 20)), []⟩, ⟨12, (some 21), none, (.ext (.r 9) 0), []⟩, ⟨13, (some 22), none, (.ext (.r 9) 1), []⟩, ⟨14, (some 5), none, (.mov (.r 21)), []⟩, ⟨15, (some 6), none, (.mov (.r 22)), []⟩])
def pf38_13 : PC := (.seq (.ops 4 [⟨0, (some 7), none, (.mov (.c .snil)), []⟩]) pf38_9)
def pf38_14 : PC := (.ops 0 [⟨0, (some 3), none, (.box (.r 1)), []⟩, ⟨1, (some 4), none, (.mov (.c .snil)), []⟩])
def pf38 : PF := ⟨2, 65, [(.tmp 4)], (.seq pf38_14 (.seq (.seq pf38_12 pf38_11) pf38_13))⟩
theorem prep38 : (Go.Proofs.Tryd.prog.funcs[38]?).bind (prepF Go.Proofs.Tryd.prog) = some pf38 := by kernel_rfl
/-! sigillum/header.May -/
def pf39_0 : PC := (.ops 1 [⟨0, (some 3), none, (.faddr 0 (.r 1)), []⟩, ⟨1, (some 4), none, (.load 1 false (.r 3)), []⟩, ⟨2, (some 5), none, (.bin .leq (.r 4) (.c (.int .u64 281474976710655))), []⟩, ⟨3, (some 6), none, (.mov (.r 5)), []⟩, ⟨4, (some 7), (some (6, true)), (.faddr 1 (.r 1)), []⟩, ⟨5, (some 8), (some (6, true)), (.load 1 false (.r 7)), []⟩, ⟨6, (some 9), (some (6, true)), (.bin .leq (.r 8) (.c (.int .u64 281474976710655))), []⟩, ⟨7, (some 10), none, (.pick (.r 6) (.r 9) (.c (.bool false))), []⟩, ⟨8, (some 11), none, (.mov (.r 10)), []⟩, ⟨9, (some 12), (some (11, true)), (.faddr 5 (.r 1)), []⟩, ⟨10, (some 13), (some (11, true)), (.load 4 true (.r 12)), []⟩, ⟨11, (some 14), (some (11, true)), (.call 54 [(.r 13)]), []⟩, ⟨12, (some 15), none, (.pick (.r 11) (.r 14) (.c (.bool false))), []⟩, ⟨13, (some 16), none, (.mov (.r 15)), []⟩, ⟨14, (some 17), (some (16, true)), (.faddr 10 (.r 1)), []⟩, ⟨15, (some 18), (some (16, true)), (.load 1 false (.r 17)), []⟩, ⟨16, (some 19), (some (16, true)), (.len false (.r 18)), []⟩, ⟨17, (some 20), (some (16, true)), (.bin .leq (.r 19) (.c (.int .i64 4096))), []⟩, ⟨18, (some 21), none, (.pick (.r 16) (.r 20) (.c (.bool false))), []⟩, ⟨19, (some 2), none, (.mov (.r 21)), []⟩])
def pf39_1 : PC := (.ops 0 [⟨0, (some 1), none, (.box (.r 0)), []⟩, ⟨1, (some 2), none, (.mov (.c (.bool false))), []⟩])
def pf39 : PF := ⟨1, 22, [(.tmp 2)], (.seq pf39_1 (.seq pf39_0 .ret))⟩
theorem prep39 : (Go.Proofs.Tryd.prog.funcs[39]?).bind (prepF Go.Proofs.Tryd.prog) = some pf39 := by kernel_rfl
/-! (ptr sigillum/client.Client).Start -/
def pf40_0 : PC := (.ops 6 [⟨0, (some 47), none, (.load 11 true (.r 3)), []⟩, ⟨1, (some 48), none, (.call 51 [(.r 47)]), []⟩, ⟨2, none, none, (.store 11 (.r 4) (.r 48)), []⟩, ⟨3, (some 5), none, (.mov (.c .nilIface)), []⟩])
def pf40_1 : PC := (.ops 5 [⟨0, (some 32), none, (.mov (.r 0)), []⟩, ⟨1, (some 33), none, (.mov (.r 0)), []⟩, ⟨2, (some 34), none, (.nilck (.r 33)), []⟩, ⟨3, (some 35), none, (.faddr 3 (.r 34)), []⟩, ⟨4, (some 36), none, (.load 1 false (.r 35)), []⟩, ⟨5, (some 37), none, (.load 11 true (.r 3)), []⟩, ⟨6, (some 38), none, (.mov (.r 0)), []⟩, ⟨7, (some 39), none, (.nilck (.r 38)), []⟩, ⟨8, (some 40), none, (.faddr 1 (.r 39)), []⟩, ⟨9, (some 41), none, (.load 1 false (.r 40)), []⟩, ⟨10, (some 42), none, (.build [(.int .u64 0), (.int .u64 0), (.int .u32 0), (.int .u16 0), (.int .u16 0), (.int .u64 0), (.int .u32 0), (.int .u8 0), (.int .u64 0), (.int .u64 0), .snil, (.int .i64 0), (.int .i64 0), (.int .i64 0), (.int .u64 0), (.int .u64 0), (.int .u32 0), (.int .u16 0), (.int .u16 0), (.int .u64 0), (.int .u32 0), (.int .u8 0), (.int .u64 0), (.int .u64 0), .snil] [(0, (11, (.r 37))), (11, (1, (.c (.int .i64 1)))), (12, (1, (.c (.int .i64 1)))), (13, (1, (.r 41)))]), []⟩, ⟨11, (some 43), none, (.buildSl 25 1 [(.int .u64 0), (.int .u64 0), (.int .u32 0), (.int .u16 0), (.int .u16 0), (.int .u64 0), (.int .u32 0), (.int .u8 0), (.int .u64 0), (.int .u64 0), .snil, (.int .i64 0), (.int .i64 0), (.int .i64 0), (.int .u64 0), (.int .u64 0), (.int .u32 0), (.int .u16 0), (.int .u16 0), (.int .u64 0), (.int .u32 0), (.int .u8 0), (.int .u64 0), (.int .u64 0), .snil] [(0, (25, (.r 42)))]), []⟩, ⟨12, (some 44), none, (.app 25 184 (.r 36) (.r 43)), []⟩, ⟨13, (some 45), none, (.nilck (.r 32)), []⟩, ⟨14, (some 46), none, (.faddr 3 (.r 45)), []⟩, ⟨15, none, none, (.store 1 (.r 46) (.r 44)), []⟩])
def pf40_2 : PC := (.ops 4 [⟨0, (some 28), none, (.faddr 10 (.r 3)), []⟩, ⟨1, (some 29), none, (.load 1 false (.r 28)), []⟩, ⟨2, (some 30), none, (.call 55 [(.r 29)]), []⟩, ⟨3, (some 31), none, (.faddr 10 (.r 3)), []⟩, ⟨4, none, none, (.store 1 (.r 31) (.r 30)), []⟩])
def pf40_3 : PC := (.ops 3 [⟨0, (some 14), none, (.mov (.r 0)), []⟩, ⟨1, (some 15), none, (.nilck (.r 14)), []⟩, ⟨2, (some 16), none, (.faddr 3 (.r 15)), []⟩, ⟨3, (some 17), none, (.load 1 false (.r 16)), []⟩, ⟨4, (some 18), none, (.len false (.r 17)), []⟩, ⟨5, (some 19), none, (.bin .add (.r 18) (.c (.int .i64 1))), []⟩, ⟨6, (some 20), none, (.cvi .u32 (.r 19)), []⟩, ⟨7, (some 21), none, (.mov (.r 0)), []⟩, ⟨8, (some 22), none, (.nilck (.r 21)), []⟩, ⟨9, (some 23), none, (.faddr 0 (.r 22)), []⟩, ⟨10, (some 24), none, (.load 1 false (.r 23)), []⟩, ⟨11, (some 25), none, (.faddr 2 (.r 3)), []⟩, ⟨12, none, none, (.store 1 (.r 25) (.r 20)), [(none, ((.load 1 false (.r 23)), 24))]⟩, ⟨13, (some 26), none, (.faddr 1 (.r 3)), []⟩, ⟨14, none, none, (.store 1 (.r 26) (.r 24)), []⟩, ⟨15, (some 27), none, (.faddr 4 (.r 3)), []⟩, ⟨16, none, none, (.store 1 (.r 27) (.c (.int .u16 0))), []⟩])
def pf40_4 : PC := (.ops 2 [⟨0, (some 12), none, (.build [(.int .u64 0), (.int .u64 0), (.int .u32 0), (.int .u16 0), (.int .u16 0), (.int .u64 0), (.int .u32 0), (.int .u8 0), (.int .u64 0), (.int .u64 0), .snil] []), []⟩, ⟨1, (some 13), none, (.ifc 49 (.c (.int .i64 5))), []⟩, ⟨2, none, none, (.store 11 (.r 4) (.r 12)), []⟩, ⟨3, (some 5), none, (.mov (.r 13)), []⟩])
def pf40_5 : PC := (.ops 1 [⟨0, (some 6), none, (.mov (.r 0)), []⟩, ⟨1, (some 7), none, (.nilck (.r 6)), []⟩, ⟨2, (some 8), none, (.faddr 3 (.r 7)), []⟩, ⟨3, (some 9), none, (.load 1 false (.r 8)), []⟩, ⟨4, (some 10), none, (.len false (.r 9)), []⟩, ⟨5, (some 11), none, (.bin .geq (.r 10) (.c (.int .i64 64))), []⟩])
def pf40_6 : PC := (.seq pf40_3 (.seq pf40_2 (.seq pf40_1 (.seq pf40_0 .ret))))
def pf40_7 : PC := (.seq (.seq pf40_5 (.cond (.r 11) (.seq pf40_4 .ret) .skip)) pf40_6)
def pf40_8 : PC := (.ops 0 [⟨0, (some 3), none, (.box (.r 1)), []⟩, ⟨1, (some 4), none, (.new [(.int .u64 0), (.int .u64 0), (.int .u32 0), (.int .u16 0), (.int .u16 0), (.int .u64 0), (.int .u32 0), (.int .u8 0), (.int .u64 0), (.int .u64 0), .snil]), []⟩, ⟨2, (some 5), none, (.mov (.c .nilIface)), []⟩])
def pf40 : PF := ⟨2, 49, [(.cell 4 11 true), (.tmp 5)], (.seq pf40_8 pf40_7)⟩
theorem prep40 : (Go.Proofs.Tryd.prog.funcs[40]?).bind (prepF Go.Proofs.Tryd.prog) = some pf40 := by kernel_rfl
/-! sigillum/stub.ask -/
def pf41_0 : PC := (.ops 1 [⟨0, (some 9), none, (.faddr 0 (.r 4)), []⟩, ⟨1, (some 10), none, (.load 1 false (.r 9)), []⟩, ⟨2, (some 11), none, (.mov (.r 1)), []⟩, ⟨3, (some 12), none, (.load 4 true (.r 4)), []⟩, ⟨4, (some 13), none, (.mov (.r 2)), []⟩, ⟨5, (some 14), none, (.mov (.r 3)), []⟩, ⟨6, (some 15), none, (.app 1 1 (.c .snil) (.r 14)), [(none, ((.load 4 true (.r 4)), 12)), (none, ((.load 1 false (.r 9)), 10))]⟩, ⟨7, (some 16), none, (.build [(.int .u64 0), (.int .u64 0), (.int .u32 0), (.int .u16 0), (.int .u16 0), (.int .u64 0), (.int .u32 0), (.int .u8 0), (.int .u64 0), (.int .u64 0), .snil] [(0, (1, (.r 10))), (3, (1, (.r 11))), (5, (4, (.r 12))), (9, (1, (.r 13))), (10, (1, (.r 15)))]), []⟩, ⟨8, none, none, (.store 11 (.r 8) (.r 16)), []⟩])
def pf41_1 : PC := (.ops 0 [⟨0, (some 4), none, (.box (.r 0)), []⟩, ⟨1, (some 8), none, (.new [(.int .u64 0), (.int .u64 0), (.int .u32 0), (.int .u16 0), (.int .u16 0), (.int .u64 0), (.int .u32 0), (.int .u8 0), (.int .u64 0), (.int .u64 0), .snil]), []⟩])
def pf41 : PF := ⟨4, 17, [(.cell 8 11 true)], (.seq pf41_1 (.seq pf41_0 .ret))⟩
theorem prep41 : (Go.Proofs.Tryd.prog.funcs[41]?).bind (prepF Go.Proofs.Tryd.prog) = some pf41 := by kernel_rfl
/-! (ptr sigillum/client.Client).Get -/
def pf42_0 : PC := (.ops 6 [⟨0, (some 24), none, (.mov (.r 7)), []⟩, ⟨1, (some 25), none, (.nilck (.r 24)), []⟩, ⟨2, (some 26), none, (.faddr 11 (.r 25)), []⟩, ⟨3, (some 27), none, (.load 1 false (.r 26)), []⟩, ⟨4, (some 28), none, (.mov (.r 7)), []⟩, ⟨5, (some 29), none, (.nilck (.r 28)), []⟩, ⟨6, (some 30), none, (.faddr 14 (.r 29)), []⟩, ⟨7, (some 31), none, (.load 11 true (.r 30)), []⟩, ⟨8, (some 32), none, (.call 51 [(.r 31)]), [(none, ((.load 1 false (.r 26)), 27))]⟩, ⟨9, (some 4), none, (.mov (.r 27)), []⟩, ⟨10, none, none, (.store 11 (.r 5) (.r 32)), []⟩, ⟨11, (some 6), none, (.mov (.c .nilIface)), []⟩])
def pf42_1 : PC := (.ops 5 [⟨0, (some 22), none, (.build [(.int .u64 0), (.int .u64 0), (.int .u32 0), (.int .u16 0), (.int .u16 0), (.int .u64 0), (.int .u32 0), (.int .u8 0), (.int .u64 0), (.int .u64 0), .snil] []), []⟩, ⟨1, (some 23), none, (.ifc 49 (.c (.int .i64 10))), []⟩, ⟨2, (some 4), none, (.mov (.c (.int .i64 3))), []⟩, ⟨3, none, none, (.store 11 (.r 5) (.r 22)), []⟩, ⟨4, (some 6), none, (.mov (.r 23)), []⟩])
def pf42_2 : PC := (.ops 4 [⟨0, (some 17), none, (.mov (.r 7)), []⟩, ⟨1, (some 18), none, (.nilck (.r 17)), []⟩, ⟨2, (some 19), none, (.faddr 11 (.r 18)), []⟩, ⟨3, (some 20), none, (.load 1 false (.r 19)), []⟩, ⟨4, (some 21), none, (.bin .eql (.r 20) (.c (.int .i64 3))), []⟩, ⟨5, (some 16), none, (.mov (.r 21)), []⟩])
def pf42_3 : PC := (.ops 3 [⟨0, (some 14), none, (.build [(.int .u64 0), (.int .u64 0), (.int .u32 0), (.int .u16 0), (.int .u16 0), (.int .u64 0), (.int .u32 0), (.int .u8 0), (.int .u64 0), (.int .u64 0), .snil] []), []⟩, ⟨1, (some 15), none, (.ifc 49 (.c (.int .i64 12))), []⟩, ⟨2, (some 4), none, (.mov (.c (.int .i64 0))), []⟩, ⟨3, none, none, (.store 11 (.r 5) (.r 14)), []⟩, ⟨4, (some 6), none, (.mov (.r 15)), []⟩])
def pf42_4 : PC := (.cond (.r 11) (.seq pf42_3 .ret) (.seq pf42_2 (.cond (.r 16) (.seq pf42_1 .ret) .skip)))
def pf42_5 : PC := (.ops 2 [⟨0, (some 12), none, (.mov (.r 7)), []⟩, ⟨1, (some 13), none, (.eqv false .ptr (.r 12) (.c .pnil)), []⟩, ⟨2, (some 11), none, (.mov (.r 13)), []⟩])
def pf42_6 : PC := (.ops 1 [⟨0, (some 8), none, (.mov (.r 0)), []⟩, ⟨1, (some 9), none, (.mov (.r 1)), []⟩, ⟨2, (some 10), none, (.call 56 [(.r 8), (.r 9)]), []⟩, ⟨3, (some 7), none, (.mov (.r 10)), []⟩])
def pf42_7 : PC := (.seq pf42_6 (.seq (.block 0 (.seq pf42_5 pf42_4)) (.seq pf42_0 .ret)))
def pf42_8 : PC := (.ops 0 [⟨0, (some 4), none, (.mov (.c (.int .i64 0))), []⟩, ⟨1, (some 5), none, (.new [(.int .u64 0), (.int .u64 0), (.int .u32 0), (.int .u16 0), (.int .u16 0), (.int .u64 0), (.int .u32 0), (.int .u8 0), (.int .u64 0), (.int .u64 0), .snil]), []⟩, ⟨2, (some 6), none, (.mov (.c .nilIface)), []⟩])
def pf42 : PF := ⟨2, 33, [(.tmp 4), (.cell 5 11 true), (.tmp 6)], (.seq pf42_8 pf42_7)⟩
theorem prep42 : (Go.Proofs.Tryd.prog.funcs[42]?).bind (prepF Go.Proofs.Tryd.prog) = some pf42 := by kernel_rfl
/-! sigillum/objects.Of -/
def pf43_0 : PC := (.ops 3 [⟨0, (some 8), none, (.mov (.r 0)), []⟩, ⟨1, (some 9), none, (.mov (.r 1)), []⟩, ⟨2, (some 10), none, (.build [(.int .u64 0), .pnil, .snil] [(0, (1, (.r 8))), (1, (1, (.r 9)))]), []⟩, ⟨3, (some 11), none, (.box (.r 10)), []⟩, ⟨4, (some 4), none, (.mov (.r 11)), []⟩])
def pf43_1 : PC := (.ops 2 [⟨0, (some 7), none, (.call 6 [(.c .pnil)]), []⟩, ⟨1, (some 1), none, (.mov (.r 7)), []⟩])
def pf43_2 : PC := (.ops 1 [⟨0, (some 5), none, (.mov (.r 1)), []⟩, ⟨1, (some 6), none, (.eqv false .ptr (.r 5) (.c .pnil)), []⟩])
def pf43_3 : PC := (.seq (.seq pf43_2 (.cond (.r 6) pf43_1 .skip)) (.seq pf43_0 .ret))
def pf43 : PF := ⟨2, 12, [(.tmp 4)], (.seq (.ops 0 [⟨0, (some 4), none, (.mov (.c .pnil)), []⟩]) pf43_3)⟩
theorem prep43 : (Go.Proofs.Tryd.prog.funcs[43]?).bind (prepF Go.Proofs.Tryd.prog) = some pf43 := by kernel_rfl
/-! sigillum/memory.Of -/
def pf44_0 : PC := (.ops 4 [⟨0, (some 18), none, (.mov (.r 0)), []⟩, ⟨1, (some 19), none, (.mov (.r 1)), []⟩, ⟨3, (some 21), none, (.mov (.r 0)), []⟩, ⟨8, (some 26), none, (.load 4 true (.r 7)), []⟩, ⟨2, (some 20), none, (.call 59 [(.r 19)]), [(none, ((.load 4 true (.r 7)), 26))]⟩, ⟨4, (some 22), none, (.build [.pnil, .pnil] [(0, (1, (.r 20))), (1, (1, (.r 21)))]), []⟩, ⟨5, (some 23), none, (.box (.r 22)), []⟩, ⟨6, (some 24), none, (.ifc 150 (.r 23)), []⟩, ⟨7, (some 25), none, (.call 58 [(.r 18), (.r 24)]), [(none, ((.load 4 true (.r 7)), 26))]⟩, ⟨9, (some 4), none, (.mov (.r 25)), []⟩, ⟨10, none, none, (.store 4 (.r 5) (.r 26)), []⟩, ⟨11, (some 6), none, (.mov (.c .nilIface)), []⟩])
def pf44_1 : PC := (.ops 3 [⟨0, (some 16), none, (.build [(.int .u64 0), (.int .u32 0), (.int .u8 0), (.int .u64 0)] []), []⟩, ⟨1, (some 17), none, (.mov (.r 8)), []⟩, ⟨2, (some 4), none, (.mov (.c .pnil)), []⟩, ⟨3, none, none, (.store 4 (.r 5) (.r 16)), []⟩, ⟨4, (some 6), none, (.mov (.r 17)), []⟩])
def pf44_2 : PC := (.ops 2 [⟨0, (some 14), none, (.mov (.r 8)), []⟩, ⟨1, (some 15), none, (.eqv true .ifc (.r 14) (.c .nilIface)), []⟩])
def pf44_3 : PC := (.seq (.seq pf44_2 (.cond (.r 15) (.seq pf44_1 .ret) .skip)) (.seq pf44_0 .ret))
def pf44_4 : PC := (.ops 1 [⟨0, (some 10), none, (.mov (.r 0)), []⟩, ⟨1, (some 11), none, (.call 57 [(.r 10), (.c (.int .i64 (-1)))]), []⟩, ⟨2, (some 9), none, (.mov (.r 11)), []⟩, ⟨3, (some 12), none, (.ext (.r 9) 0), []⟩, ⟨4, (some 13), none, (.ext (.r 9) 1), []⟩, ⟨5, (some 7), none, (.new [(.int .u64 0), (.int .u32 0), (.int .u8 0), (.int .u64 0)]), []⟩, ⟨6, none, none, (.store 4 (.r 7) (.r 12)), []⟩, ⟨7, (some 8), none, (.mov (.r 13)), []⟩])
def pf44_5 : PC := (.ops 0 [⟨0, (some 4), none, (.mov (.c .pnil)), []⟩, ⟨1, (some 5), none, (.new [(.int .u64 0), (.int .u32 0), (.int .u8 0), (.int .u64 0)]), []⟩, ⟨2, (some 6), none, (.mov (.c .nilIface)), []⟩])
def pf44 : PF := ⟨2, 27, [(.tmp 4), (.cell 5 4 true), (.tmp 6)], (.seq pf44_5 (.seq pf44_4 pf44_3))⟩
theorem prep44 : (Go.Proofs.Tryd.prog.funcs[44]?).bind (prepF Go.Proofs.Tryd.prog) = some pf44 := by kernel_rfl
/-! sigillum/directory.Of -/
def pf45_0 : PC := (.ops 7 [⟨0, (some 28), none, (.mov (.r 0)), []⟩, ⟨1, (some 29), none, (.mov (.r 9)), []⟩, ⟨2, (some 30), none, (.ifc 155 (.r 29)), []⟩, ⟨4, (some 32), none, (.load 4 true (.r 7)), []⟩, ⟨3, (some 31), none, (.call 58 [(.r 28), (.r 30)]), [(none, ((.load 4 true (.r 7)), 32))]⟩, ⟨5, (some 4), none, (.mov (.r 31)), []⟩, ⟨6, none, none, (.store 4 (.r 5) (.r 32)), []⟩, ⟨7, (some 6), none, (.mov (.c .nilIface)), []⟩])
def pf45_1 : PC := (.ops 6 [⟨0, (some 22), none, .mkm, []⟩, ⟨1, none, none, (.mupd (.r 22) (.c (.int .i64 0)) (.c .snil)), []⟩, ⟨2, (some 23), none, (.mov (.r 22)), []⟩, ⟨3, (some 24), none, (.mov (.r 0)), []⟩, ⟨4, (some 25), none, (.mov (.r 1)), []⟩, ⟨5, (some 26), none, (.build [.mnil, (.int .i64 0), .pnil, .pnil] [(0, (1, (.r 23))), (1, (1, (.c (.int .i64 1)))), (2, (1, (.r 24))), (3, (1, (.r 25)))]), []⟩, ⟨6, (some 27), none, (.box (.r 26)), []⟩, ⟨7, (some 9), none, (.mov (.r 27)), []⟩])
def pf45_2 : PC := (.ops 5 [⟨0, (some 21), none, (.call 6 [(.c .pnil)]), []⟩, ⟨1, (some 1), none, (.mov (.r 21)), []⟩])
def pf45_3 : PC := (.ops 4 [⟨0, (some 19), none, (.mov (.r 1)), []⟩, ⟨1, (some 20), none, (.eqv false .ptr (.r 19) (.c .pnil)), []⟩])
def pf45_4 : PC := (.ops 3 [⟨0, (some 17), none, (.build [(.int .u64 0), (.int .u32 0), (.int .u8 0), (.int .u64 0)] []), []⟩, ⟨1, (some 18), none, (.mov (.r 8)), []⟩, ⟨2, (some 4), none, (.mov (.c .pnil)), []⟩, ⟨3, none, none, (.store 4 (.r 5) (.r 17)), []⟩, ⟨4, (some 6), none, (.mov (.r 18)), []⟩])
def pf45_5 : PC := (.ops 2 [⟨0, (some 15), none, (.mov (.r 8)), []⟩, ⟨1, (some 16), none, (.eqv true .ifc (.r 15) (.c .nilIface)), []⟩])
def pf45_6 : PC := (.seq (.seq pf45_3 (.cond (.r 20) pf45_2 .skip)) (.seq pf45_1 (.seq pf45_0 .ret)))
def pf45_7 : PC := (.seq (.seq pf45_5 (.cond (.r 16) (.seq pf45_4 .ret) .skip)) pf45_6)
def pf45_8 : PC := (.ops 1 [⟨0, (some 11), none, (.mov (.r 0)), []⟩, ⟨1, (some 12), none, (.call 57 [(.r 11), (.c (.int .i64 0))]), []⟩, ⟨2, (some 10), none, (.mov (.r 12)), []⟩, ⟨3, (some 13), none, (.ext (.r 10) 0), []⟩, ⟨4, (some 14), none, (.ext (.r 10) 1), []⟩, ⟨5, (some 7), none, (.new [(.int .u64 0), (.int .u32 0), (.int .u8 0), (.int .u64 0)]), []⟩, ⟨6, none, none, (.store 4 (.r 7) (.r 13)), []⟩, ⟨7, (some 8), none, (.mov (.r 14)), []⟩])
def pf45_9 : PC := (.ops 0 [⟨0, (some 4), none, (.mov (.c .pnil)), []⟩, ⟨1, (some 5), none, (.new [(.int .u64 0), (.int .u32 0), (.int .u8 0), (.int .u64 0)]), []⟩, ⟨2, (some 6), none, (.mov (.c .nilIface)), []⟩])
def pf45 : PF := ⟨2, 33, [(.tmp 4), (.cell 5 4 true), (.tmp 6)], (.seq pf45_9 (.seq pf45_8 pf45_7))⟩
theorem prep45 : (Go.Proofs.Tryd.prog.funcs[45]?).bind (prepF Go.Proofs.Tryd.prog) = some pf45 := by kernel_rfl
/-! sigillum/file.Of -/
def pf46_0 : PC := (.ops 4 [⟨0, (some 16), none, (.mov (.r 0)), []⟩, ⟨1, (some 17), none, .mkm, []⟩, ⟨2, (some 18), none, (.mov (.r 0)), []⟩, ⟨3, (some 19), none, (.build [.mnil, (.int .i64 0), (.int .i64 0), .pnil] [(0, (1, (.r 17))), (3, (1, (.r 18)))]), []⟩, ⟨4, (some 20), none, (.box (.r 19)), []⟩, ⟨5, (some 21), none, (.ifc 159 (.r 20)), []⟩, ⟨7, (some 23), none, (.load 4 true (.r 5)), []⟩, ⟨6, (some 22), none, (.call 58 [(.r 16), (.r 21)]), [(none, ((.load 4 true (.r 5)), 23))]⟩, ⟨8, (some 2), none, (.mov (.r 22)), []⟩, ⟨9, none, none, (.store 4 (.r 3) (.r 23)), []⟩, ⟨10, (some 4), none, (.mov (.c .nilIface)), []⟩])
def pf46_1 : PC := (.ops 3 [⟨0, (some 14), none, (.build [(.int .u64 0), (.int .u32 0), (.int .u8 0), (.int .u64 0)] []), []⟩, ⟨1, (some 15), none, (.mov (.r 6)), []⟩, ⟨2, (some 2), none, (.mov (.c .pnil)), []⟩, ⟨3, none, none, (.store 4 (.r 3) (.r 14)), []⟩, ⟨4, (some 4), none, (.mov (.r 15)), []⟩])
def pf46_2 : PC := (.ops 2 [⟨0, (some 12), none, (.mov (.r 6)), []⟩, ⟨1, (some 13), none, (.eqv true .ifc (.r 12) (.c .nilIface)), []⟩])
def pf46_3 : PC := (.seq (.seq pf46_2 (.cond (.r 13) (.seq pf46_1 .ret) .skip)) (.seq pf46_0 .ret))
def pf46_4 : PC := (.ops 1 [⟨0, (some 8), none, (.mov (.r 0)), []⟩, ⟨1, (some 9), none, (.call 57 [(.r 8), (.c (.int .i64 (-1)))]), []⟩, ⟨2, (some 7), none, (.mov (.r 9)), []⟩, ⟨3, (some 10), none, (.ext (.r 7) 0), []⟩, ⟨4, (some 11), none, (.ext (.r 7) 1), []⟩, ⟨5, (some 5), none, (.new [(.int .u64 0), (.int .u32 0), (.int .u8 0), (.int .u64 0)]), []⟩, ⟨6, none, none, (.store 4 (.r 5) (.r 10)), []⟩, ⟨7, (some 6), none, (.mov (.r 11)), []⟩])
def pf46_5 : PC := (.ops 0 [⟨0, (some 2), none, (.mov (.c .pnil)), []⟩, ⟨1, (some 3), none, (.new [(.int .u64 0), (.int .u32 0), (.int .u8 0), (.int .u64 0)]), []⟩, ⟨2, (some 4), none, (.mov (.c .nilIface)), []⟩])
def pf46 : PF := ⟨1, 24, [(.tmp 2), (.cell 3 4 true), (.tmp 4)], (.seq pf46_5 (.seq pf46_4 pf46_3))⟩
theorem prep46 : (Go.Proofs.Tryd.prog.funcs[46]?).bind (prepF Go.Proofs.Tryd.prog) = some pf46 := by kernel_rfl
/-! sigillum/client.copied -/
def pf51_0 : PC := (.ops 2 [⟨0, (some 7), none, (.load 11 true (.r 1)), []⟩, ⟨1, none, none, (.store 11 (.r 2) (.r 7)), []⟩])
def pf51_1 : PC := (.ops 1 [⟨0, (some 3), none, (.faddr 10 (.r 1)), []⟩, ⟨1, (some 4), none, (.load 1 false (.r 3)), []⟩, ⟨2, (some 5), none, (.call 55 [(.r 4)]), []⟩, ⟨3, (some 6), none, (.faddr 10 (.r 1)), []⟩, ⟨4, none, none, (.store 1 (.r 6) (.r 5)), []⟩])
def pf51_2 : PC := (.ops 0 [⟨0, (some 1), none, (.box (.r 0)), []⟩, ⟨1, (some 2), none, (.new [(.int .u64 0), (.int .u64 0), (.int .u32 0), (.int .u16 0), (.int .u16 0), (.int .u64 0), (.int .u32 0), (.int .u8 0), (.int .u64 0), (.int .u64 0), .snil]), []⟩])
def pf51 : PF := ⟨1, 8, [(.cell 2 11 true)], (.seq pf51_2 (.seq pf51_1 (.seq pf51_0 .ret)))⟩
theorem prep51 : (Go.Proofs.Tryd.prog.funcs[51]?).bind (prepF Go.Proofs.Tryd.prog) = some pf51 := by kernel_rfl
/-! (ptr sigillum/portmap.Map).Find -/
def pf52_0 : PC := (.ops 7 [⟨0, (some 6), none, (.mov (.c (.int .i64 0))), []⟩, ⟨1, (some 7), none, (.mov (.c (.bool false))), []⟩])
def pf52_1 : PC := (.ops 5 [⟨0, (some 40), none, (.faddr 1 (.r 9)), []⟩, ⟨1, (some 41), none, (.load 1 false (.r 40)), []⟩, ⟨2, (some 6), none, (.mov (.r 41)), []⟩, ⟨3, (some 7), none, (.mov (.c (.bool true))), []⟩])
def pf52_2 : PC := (.ops 4 [⟨0, (some 19), none, (.faddr 0 (.r 9)), []⟩, ⟨1, (some 20), none, (.load 1 false (.r 19)), []⟩, ⟨2, (some 21), none, (.mov (.r 1)), []⟩, ⟨3, (some 22), none, (.bin .eql (.r 20) (.r 21)), []⟩, ⟨4, (some 23), none, (.mov (.r 22)), []⟩, ⟨5, (some 24), (some (23, true)), (.mov (.r 2)), []⟩, ⟨6, (some 25), (some (23, true)), (.faddr 2 (.r 9)), []⟩, ⟨7, (some 26), (some (23, true)), (.load 1 false (.r 25)), []⟩, ⟨8, (some 27), (some (23, true)), (.bin .geq (.r 24) (.r 26)), []⟩, ⟨9, (some 28), none, (.pick (.r 23) (.r 27) (.c (.bool false))), []⟩, ⟨10, (some 29), none, (.mov (.r 28)), []⟩, ⟨11, (some 30), (some (29, true)), (.mov (.r 2)), []⟩, ⟨12, (some 31), (some (29, true)), (.faddr 2 (.r 9)), []⟩, ⟨13, (some 32), (some (29, true)), (.load 1 false (.r 31)), []⟩, ⟨14, (some 33), (some (29, true)), (.bin .sub (.r 30) (.r 32)), []⟩, ⟨15, (some 34), (some (29, true)), (.mov (.r 0)), []⟩, ⟨16, (some 35), (some (29, true)), (.nilck (.r 34)), []⟩, ⟨17, (some 36), (some (29, true)), (.faddr 1 (.r 35)), []⟩, ⟨18, (some 37), (some (29, true)), (.load 1 false (.r 36)), []⟩, ⟨19, (some 38), (some (29, true)), (.bin .lss (.r 33) (.r 37)), []⟩, ⟨20, (some 39), none, (.pick (.r 29) (.r 38) (.c (.bool false))), []⟩])
def pf52_3 : PC := (.ops 3 [⟨0, (some 17), none, (.iaddr 3 (.r 13) (.r 15)), []⟩, ⟨1, (some 18), none, (.load 3 true (.r 17)), []⟩, ⟨2, (some 9), none, (.new [(.int .u64 0), (.int .i64 0), (.int .i64 0)]), []⟩, ⟨3, none, none, (.store 3 (.r 9) (.r 18)), []⟩])
def pf52_4 : PC := (.seq pf52_3 (.seq pf52_2 (.cond (.r 39) (.seq pf52_1 .ret) .skip)))
def pf52_5 : PC := (.ops 6 [⟨0, (some 42), none, (.bin .add (.r 15) (.c (.int .i64 1))), []⟩, ⟨1, (some 15), none, (.mov (.r 42)), []⟩])
def pf52_6 : PC := (.seq (.cond (.r 16) .skip (.exit 0)) (.seq (.block 1 pf52_4) pf52_5))
def pf52_7 : PC := (.ops 2 [⟨0, (some 16), none, (.bin .lss (.r 15) (.r 14)), []⟩])
def pf52_8 : PC := (.ops 1 [⟨0, (some 10), none, (.mov (.r 0)), []⟩, ⟨1, (some 11), none, (.nilck (.r 10)), []⟩, ⟨2, (some 12), none, (.faddr 0 (.r 11)), []⟩, ⟨3, (some 13), none, (.load 1 false (.r 12)), []⟩, ⟨4, (some 14), none, (.len false (.r 13)), []⟩, ⟨5, (some 15), none, (.mov (.c (.int .i64 0))), []⟩])
def pf52_9 : PC := (.seq (.seq pf52_8 (.block 0 (.loop (.seq pf52_7 pf52_6)))) (.seq pf52_0 .ret))
def pf52_10 : PC := (.ops 0 [⟨0, (some 6), none, (.mov (.c (.int .i64 0))), []⟩, ⟨1, (some 7), none, (.mov (.c (.bool false))), []⟩])
def pf52 : PF := ⟨3, 43, [(.tmp 6), (.tmp 7)], (.seq pf52_10 pf52_9)⟩
theorem prep52 : (Go.Proofs.Tryd.prog.funcs[52]?).bind (prepF Go.Proofs.Tryd.prog) = some pf52 := by kernel_rfl
/-! (ptr sigillum/node.Node).packets -/
def pf53_0 : PC := (.ops 8 [⟨0, (some 45), none, (.mov (.r 9)), []⟩, ⟨1, (some 6), none, (.mov (.r 45)), []⟩])
def pf53_1 : PC := (.seq (.ops 7 [⟨0, (some 6), none, (.mov (.c .snil)), []⟩]) .ret)
def pf53_2 : PC := (.ops 6 [⟨0, (some 43), none, (.mov (.r 8)), []⟩, ⟨1, (some 44), none, (.eqv true .ifc (.r 43) (.c .nilIface)), []⟩])
def pf53_3 : PC := (.seq (.seq pf53_2 (.cond (.r 44) pf53_1 .skip)) (.seq pf53_0 .ret))
def pf53_4 : PC := (.ops 5 [⟨0, (some 25), none, (.mov (.r 7)), []⟩, ⟨1, (some 26), none, (.mov (.r 0)), []⟩, ⟨2, (some 27), none, (.nilck (.r 26)), []⟩, ⟨3, (some 28), none, (.faddr 0 (.r 27)), []⟩, ⟨4, (some 29), none, (.load 1 false (.r 28)), []⟩, ⟨5, (some 30), none, (.mov (.r 2)), []⟩, ⟨6, (some 31), none, (.mov (.r 0)), []⟩, ⟨7, (some 32), none, (.nilck (.r 31)), []⟩, ⟨8, (some 33), none, (.faddr 12 (.r 32)), []⟩, ⟨9, (some 34), none, (.load 1 false (.r 33)), []⟩, ⟨10, (some 35), none, (.mov (.r 0)), []⟩, ⟨11, (some 36), none, (.nilck (.r 35)), []⟩, ⟨12, (some 37), none, (.faddr 2 (.r 36)), []⟩, ⟨13, (some 38), none, (.faddr 1 (.r 37)), []⟩, ⟨14, (some 39), none, (.load 1 false (.r 38)), []⟩, ⟨15, (some 40), none, (.call 64 [(.r 25), (.r 29), (.r 30), (.r 34), (.r 39)]), []⟩, ⟨16, (some 24), none, (.mov (.r 40)), []⟩, ⟨17, (some 41), none, (.ext (.r 24) 0), []⟩, ⟨18, (some 42), none, (.ext (.r 24) 1), []⟩, ⟨19, (some 9), none, (.mov (.r 41)), []⟩, ⟨20, (some 8), none, (.mov (.r 42)), []⟩])
def pf53_5 : PC := (.ops 4 [⟨0, (some 17), none, (.mov (.r 0)), []⟩, ⟨1, (some 18), none, (.nilck (.r 17)), []⟩, ⟨2, (some 19), none, (.faddr 12 (.r 18)), []⟩, ⟨3, (some 20), none, (.load 1 false (.r 19)), []⟩, ⟨4, (some 21), none, (.bin .add (.r 20) (.c (.int .u64 1))), []⟩, ⟨5, (some 22), none, (.nilck (.r 17)), []⟩, ⟨6, (some 23), none, (.faddr 12 (.r 22)), []⟩, ⟨7, none, none, (.store 1 (.r 23) (.r 21)), []⟩])
def pf53_6 : PC := (.seq (.ops 3 [⟨0, (some 6), none, (.mov (.c .snil)), []⟩]) .ret)
def pf53_7 : PC := (.ops 2 [⟨0, (some 15), none, (.mov (.r 8)), []⟩, ⟨1, (some 16), none, (.eqv true .ifc (.r 15) (.c .nilIface)), []⟩])
def pf53_8 : PC := (.seq (.seq pf53_7 (.cond (.r 16) pf53_6 .skip)) (.seq pf53_5 (.seq pf53_4 pf53_3)))
def pf53_9 : PC := (.ops 1 [⟨0, (some 11), none, (.load 11 true (.r 4)), []⟩, ⟨1, (some 12), none, (.call 63 [(.r 11)]), []⟩, ⟨2, (some 10), none, (.mov (.r 12)), []⟩, ⟨3, (some 13), none, (.ext (.r 10) 0), []⟩, ⟨4, (some 14), none, (.ext (.r 10) 1), []⟩, ⟨5, (some 7), none, (.mov (.r 13)), []⟩, ⟨6, (some 8), none, (.mov (.r 14)), []⟩])
def pf53_10 : PC := (.ops 0 [⟨0, (some 4), none, (.box (.r 1)), []⟩, ⟨1, (some 6), none, (.mov (.c .snil)), []⟩])
def pf53 : PF := ⟨3, 46, [(.tmp 6)], (.seq pf53_10 (.seq pf53_9 pf53_8))⟩
theorem prep53 : (Go.Proofs.Tryd.prog.funcs[53]?).bind (prepF Go.Proofs.Tryd.prog) = some pf53 := by kernel_rfl
/-! sigillum/caps.May -/
def pf54_0 : PC := (.ops 1 [⟨0, (some 3), none, (.faddr 0 (.r 1)), []⟩, ⟨1, (some 4), none, (.load 1 false (.r 3)), []⟩, ⟨2, (some 5), none, (.bin .leq (.r 4) (.c (.int .u64 281474976710655))), []⟩, ⟨3, (some 6), none, (.mov (.r 5)), []⟩, ⟨4, (some 7), (some (6, true)), (.faddr 1 (.r 1)), []⟩, ⟨5, (some 8), (some (6, true)), (.load 1 false (.r 7)), []⟩, ⟨6, (some 9), (some (6, true)), (.bin .lss (.r 8) (.c (.int .u32 16777216))), []⟩, ⟨7, (some 10), none, (.pick (.r 6) (.r 9) (.c (.bool false))), []⟩, ⟨8, (some 11), none, (.mov (.r 10)), []⟩, ⟨9, (some 12), (some (11, true)), (.faddr 3 (.r 1)), []⟩, ⟨10, (some 13), (some (11, true)), (.load 1 false (.r 12)), []⟩, ⟨11, (some 14), (some (11, true)), (.bin .leq (.r 13) (.c (.int .u64 281474976710655))), []⟩, ⟨12, (some 15), none, (.pick (.r 11) (.r 14) (.c (.bool false))), []⟩, ⟨13, (some 2), none, (.mov (.r 15)), []⟩])
def pf54_1 : PC := (.ops 0 [⟨0, (some 1), none, (.box (.r 0)), []⟩, ⟨1, (some 2), none, (.mov (.c (.bool false))), []⟩])
def pf54 : PF := ⟨1, 16, [(.tmp 2)], (.seq pf54_1 (.seq pf54_0 .ret))⟩
theorem prep54 : (Go.Proofs.Tryd.prog.funcs[54]?).bind (prepF Go.Proofs.Tryd.prog) = some pf54 := by kernel_rfl
/-! slices.Clone[[]byte,byte] -/
def pf55_0 : PC := (.ops 3 [⟨0, (some 5), none, (.buildSl 1 0 [] []), []⟩, ⟨1, (some 6), none, (.mov (.r 0)), []⟩, ⟨2, (some 7), none, (.app 1 1 (.r 5) (.r 6)), []⟩, ⟨3, (some 2), none, (.mov (.r 7)), []⟩])
def pf55_1 : PC := (.seq (.ops 2 [⟨0, (some 2), none, (.mov (.c .snil)), []⟩]) .ret)
def pf55_2 : PC := (.ops 1 [⟨0, (some 3), none, (.mov (.r 0)), []⟩, ⟨1, (some 4), none, (.eqv false .sl (.r 3) (.c .snil)), []⟩])
def pf55_3 : PC := (.seq (.seq pf55_2 (.cond (.r 4) pf55_1 .skip)) (.seq pf55_0 .ret))
def pf55 : PF := ⟨1, 8, [(.tmp 2)], (.seq (.ops 0 [⟨0, (some 2), none, (.mov (.c .snil)), []⟩]) pf55_3)⟩
theorem prep55 : (Go.Proofs.Tryd.prog.funcs[55]?).bind (prepF Go.Proofs.Tryd.prog) = some pf55 := by kernel_rfl
/-! (ptr sigillum/client.Client).get -/
def pf56_0 : PC := (.ops 3 [⟨0, (some 17), none, (.mov (.r 0)), []⟩, ⟨1, (some 18), none, (.nilck (.r 17)), []⟩, ⟨2, (some 19), none, (.faddr 3 (.r 18)), []⟩, ⟨3, (some 20), none, (.load 1 false (.r 19)), []⟩, ⟨4, (some 21), none, (.mov (.r 1)), []⟩, ⟨5, (some 22), none, (.bin .sub (.r 21) (.c (.int .u32 1))), []⟩, ⟨6, (some 23), none, (.iaddr 25 (.r 20) (.r 22)), []⟩, ⟨7, (some 4), none, (.mov (.r 23)), []⟩])
def pf56_1 : PC := (.seq (.ops 2 [⟨0, (some 4), none, (.mov (.c .pnil)), []⟩]) .ret)
def pf56_2 : PC := (.ops 1 [⟨0, (some 5), none, (.mov (.r 1)), []⟩, ⟨1, (some 6), none, (.bin .lss (.r 5) (.c (.int .u32 1))), []⟩, ⟨2, (some 7), none, (.mov (.r 6)), []⟩, ⟨3, (some 8), (some (7, false)), (.mov (.r 1)), []⟩, ⟨4, (some 9), (some (7, false)), (.cvi .i64 (.r 8)), []⟩, ⟨5, (some 10), (some (7, false)), (.mov (.r 0)), []⟩, ⟨6, (some 11), (some (7, false)), (.nilck (.r 10)), []⟩, ⟨7, (some 12), (some (7, false)), (.faddr 3 (.r 11)), []⟩, ⟨8, (some 13), (some (7, false)), (.load 1 false (.r 12)), []⟩, ⟨9, (some 14), (some (7, false)), (.len false (.r 13)), []⟩, ⟨10, (some 15), (some (7, false)), (.bin .gtr (.r 9) (.r 14)), []⟩, ⟨11, (some 16), none, (.pick (.r 7) (.c (.bool true)) (.r 15)), []⟩])
def pf56_3 : PC := (.seq (.seq pf56_2 (.cond (.r 16) pf56_1 .skip)) (.seq pf56_0 .ret))
def pf56 : PF := ⟨2, 24, [(.tmp 4)], (.seq (.ops 0 [⟨0, (some 4), none, (.mov (.c .pnil)), []⟩]) pf56_3)⟩
theorem prep56 : (Go.Proofs.Tryd.prog.funcs[56]?).bind (prepF Go.Proofs.Tryd.prog) = some pf56 := by kernel_rfl
/-! (ptr sigillum/objects.Table).Create -/
def pf57_0 : PC := (.ops 12 [⟨0, (some 70), none, (.mov (.r 0)), []⟩, ⟨1, (some 71), none, (.mov (.r 6)), []⟩, ⟨2, (some 72), none, (.mov (.r 7)), []⟩, ⟨3, (some 73), none, (.call 65 [(.r 70), (.r 71), (.c (.int .u8 255)), (.r 72)]), []⟩, ⟨4, none, none, (.store 4 (.r 4) (.r 73)), []⟩, ⟨5, (some 5), none, (.mov (.c .nilIface)), []⟩])
def pf57_1 : PC := (.ops 11 [⟨0, (some 61), none, (.mov (.r 0)), []⟩, ⟨1, (some 62), none, (.nilck (.r 61)), []⟩, ⟨2, (some 63), none, (.faddr 2 (.r 62)), []⟩, ⟨3, (some 64), none, (.load 1 false (.r 63)), []⟩, ⟨4, (some 65), none, (.mov (.r 6)), []⟩, ⟨5, (some 66), none, (.mov (.r 7)), []⟩, ⟨6, (some 67), none, (.mov (.r 1)), []⟩, ⟨7, (some 68), none, (.build [(.bool false), (.int .u64 0), (.int .i64 0), (.int .i64 0), (.int .i64 0)] [(0, (1, (.c (.bool true)))), (1, (1, (.r 66))), (3, (1, (.r 67))), (4, (1, (.c (.int .i64 24))))]), []⟩, ⟨8, (some 69), none, (.iaddr 5 (.r 64) (.r 65)), []⟩, ⟨9, none, none, (.store 5 (.r 69) (.r 68)), []⟩])
def pf57_2 : PC := (.ops 10 [⟨0, (some 51), none, (.mov (.r 0)), []⟩, ⟨1, (some 52), none, (.mov (.r 0)), []⟩, ⟨2, (some 53), none, (.nilck (.r 52)), []⟩, ⟨3, (some 54), none, (.faddr 2 (.r 53)), []⟩, ⟨4, (some 55), none, (.load 1 false (.r 54)), []⟩, ⟨5, (some 56), none, (.build [(.bool false), (.int .u64 0), (.int .i64 0), (.int .i64 0), (.int .i64 0)] []), []⟩, ⟨6, (some 57), none, (.buildSl 5 1 [(.bool false), (.int .u64 0), (.int .i64 0), (.int .i64 0), (.int .i64 0)] [(0, (5, (.r 56)))]), []⟩, ⟨7, (some 58), none, (.app 5 40 (.r 55) (.r 57)), []⟩, ⟨8, (some 59), none, (.nilck (.r 51)), []⟩, ⟨9, (some 60), none, (.faddr 2 (.r 59)), []⟩, ⟨10, none, none, (.store 1 (.r 60) (.r 58)), []⟩])
def pf57_3 : PC := (.ops 9 [⟨0, (some 44), none, (.mov (.r 6)), []⟩, ⟨1, (some 45), none, (.mov (.r 0)), []⟩, ⟨2, (some 46), none, (.nilck (.r 45)), []⟩, ⟨3, (some 47), none, (.faddr 2 (.r 46)), []⟩, ⟨4, (some 48), none, (.load 1 false (.r 47)), []⟩, ⟨5, (some 49), none, (.len false (.r 48)), []⟩, ⟨6, (some 50), none, (.bin .eql (.r 44) (.r 49)), []⟩])
def pf57_4 : PC := (.ops 8 [⟨0, (some 42), none, (.build [(.int .u64 0), (.int .u32 0), (.int .u8 0), (.int .u64 0)] []), []⟩, ⟨1, (some 43), none, (.mov (.r 8)), []⟩, ⟨2, none, none, (.store 4 (.r 4) (.r 42)), []⟩, ⟨3, (some 5), none, (.mov (.r 43)), []⟩])
def pf57_5 : PC := (.ops 7 [⟨0, (some 40), none, (.mov (.r 8)), []⟩, ⟨1, (some 41), none, (.eqv true .ifc (.r 40) (.c .nilIface)), []⟩])
def pf57_6 : PC := (.seq (.seq pf57_3 (.cond (.r 50) pf57_2 .skip)) (.seq pf57_1 (.seq pf57_0 .ret)))
def pf57_7 : PC := (.seq (.seq pf57_5 (.cond (.r 41) (.seq pf57_4 .ret) .skip)) pf57_6)
def pf57_8 : PC := (.ops 6 [⟨0, (some 33), none, (.mov (.r 0)), []⟩, ⟨1, (some 34), none, (.nilck (.r 33)), []⟩, ⟨2, (some 35), none, (.faddr 1 (.r 34)), []⟩, ⟨3, (some 36), none, (.load 1 false (.r 35)), []⟩, ⟨4, (some 37), none, (.call 12 [(.r 36)]), []⟩, ⟨5, (some 32), none, (.mov (.r 37)), []⟩, ⟨6, (some 38), none, (.ext (.r 32) 0), []⟩, ⟨7, (some 39), none, (.ext (.r 32) 1), []⟩, ⟨8, (some 7), none, (.mov (.r 38)), []⟩, ⟨9, (some 8), none, (.mov (.r 39)), []⟩])
def pf57_9 : PC := (.ops 5 [⟨0, (some 30), none, (.build [(.int .u64 0), (.int .u32 0), (.int .u8 0), (.int .u64 0)] []), []⟩, ⟨1, (some 31), none, (.ifc 49 (.c (.int .i64 5))), []⟩, ⟨2, none, none, (.store 4 (.r 4) (.r 30)), []⟩, ⟨3, (some 5), none, (.mov (.r 31)), []⟩])
def pf57_10 : PC := (.ops 4 [⟨0, (some 28), none, (.mov (.r 6)), []⟩, ⟨1, (some 29), none, (.bin .geq (.r 28) (.c (.int .i64 64))), []⟩])
def pf57_11 : PC := (.ops 3 [⟨0, (some 26), none, (.mov (.r 6)), []⟩, ⟨1, (some 27), none, (.bin .add (.r 26) (.c (.int .i64 1))), []⟩, ⟨2, (some 6), none, (.mov (.r 27)), []⟩])
def pf57_12 : PC := (.ops 2 [⟨0, (some 9), none, (.mov (.r 6)), []⟩, ⟨1, (some 10), none, (.mov (.r 0)), []⟩, ⟨2, (some 11), none, (.nilck (.r 10)), []⟩, ⟨3, (some 12), none, (.faddr 2 (.r 11)), []⟩, ⟨4, (some 13), none, (.load 1 false (.r 12)), []⟩, ⟨5, (some 14), none, (.len false (.r 13)), []⟩, ⟨6, (some 15), none, (.bin .lss (.r 9) (.r 14)), []⟩, ⟨7, (some 16), none, (.mov (.r 15)), []⟩, ⟨8, (some 17), (some (16, true)), (.mov (.r 0)), []⟩, ⟨9, (some 18), (some (16, true)), (.nilck (.r 17)), []⟩, ⟨10, (some 19), (some (16, true)), (.faddr 2 (.r 18)), []⟩, ⟨11, (some 20), (some (16, true)), (.load 1 false (.r 19)), []⟩, ⟨12, (some 21), (some (16, true)), (.mov (.r 6)), []⟩, ⟨13, (some 22), (some (16, true)), (.iaddr 5 (.r 20) (.r 21)), []⟩, ⟨14, (some 23), (some (16, true)), (.faddr 0 (.r 22)), []⟩, ⟨15, (some 24), (some (16, true)), (.load 1 false (.r 23)), []⟩, ⟨16, (some 25), none, (.pick (.r 16) (.r 24) (.c (.bool false))), []⟩])
def pf57_13 : PC := (.seq (.seq pf57_12 (.cond (.r 25) .skip (.exit 0))) (.block 1 pf57_11))
def pf57_14 : PC := (.seq (.seq pf57_10 (.cond (.r 29) (.seq pf57_9 .ret) .skip)) (.seq pf57_8 pf57_7))
def pf57_15 : PC := (.ops 1 [⟨0, (some 6), none, (.mov (.c (.int .i64 0))), []⟩])
def pf57_16 : PC := (.ops 0 [⟨0, (some 4), none, (.new [(.int .u64 0), (.int .u32 0), (.int .u8 0), (.int .u64 0)]), []⟩, ⟨1, (some 5), none, (.mov (.c .nilIface)), []⟩])
def pf57 : PF := ⟨2, 74, [(.cell 4 4 true), (.tmp 5)], (.seq pf57_16 (.seq pf57_15 (.seq (.block 0 (.loop pf57_13)) pf57_14)))⟩
theorem prep57 : (Go.Proofs.Tryd.prog.funcs[57]?).bind (prepF Go.Proofs.Tryd.prog) = some pf57 := by kernel_rfl
/-! sigillum/skeleton.Of -/
def pf58_0 : PC := (.ops 1 [⟨0, (some 5), none, (.mov (.r 0)), []⟩, ⟨1, (some 6), none, (.mov (.r 1)), []⟩, ⟨2, (some 7), none, (.build [.pnil, .nilIface] [(0, (1, (.r 5))), (1, (1, (.r 6)))]), []⟩, ⟨3, (some 8), none, (.box (.r 7)), []⟩, ⟨4, (some 4), none, (.mov (.r 8)), []⟩])
def pf58 : PF := ⟨2, 9, [(.tmp 4)], (.seq (.ops 0 [⟨0, (some 4), none, (.mov (.c .pnil)), []⟩]) (.seq pf58_0 .ret))⟩
theorem prep58 : (Go.Proofs.Tryd.prog.funcs[58]?).bind (prepF Go.Proofs.Tryd.prog) = some pf58 := by kernel_rfl
/-! sigillum/segment.Of -/
def pf59_0 : PC := (.ops 1 [⟨0, (some 3), none, (.mov (.r 0)), []⟩, ⟨1, (some 4), none, (.call 66 [(.r 3)]), []⟩, ⟨2, (some 5), none, (.build [.pnil, .snil] [(0, (1, (.r 4)))]), []⟩, ⟨3, (some 6), none, (.box (.r 5)), []⟩, ⟨4, (some 2), none, (.mov (.r 6)), []⟩])
def pf59 : PF := ⟨1, 7, [(.tmp 2)], (.seq (.ops 0 [⟨0, (some 2), none, (.mov (.c .pnil)), []⟩]) (.seq pf59_0 .ret))⟩
theorem prep59 : (Go.Proofs.Tryd.prog.funcs[59]?).bind (prepF Go.Proofs.Tryd.prog) = some pf59 := by kernel_rfl
/-! sigillum/header.Encode -/
def pf63_0 : PC := (.ops 11 [⟨0, (some 47), none, (.mov (.r 4)), []⟩, ⟨1, (some 2), none, (.mov (.r 47)), []⟩, ⟨2, (some 3), none, (.mov (.c .nilIface)), []⟩])
def pf63_1 : PC := (.ops 10 [⟨0, (some 41), none, (.mov (.r 4)), []⟩, ⟨1, (some 42), none, (.faddr 10 (.r 1)), []⟩, ⟨2, (some 43), none, (.load 1 false (.r 42)), []⟩, ⟨3, (some 44), none, (.call 69 [(.r 41), (.r 43)]), []⟩, ⟨4, (some 40), none, (.mov (.r 44)), []⟩, ⟨5, (some 45), none, (.ext (.r 40) 0), []⟩, ⟨6, (some 46), none, (.ext (.r 40) 1), []⟩, ⟨7, (some 4), none, (.mov (.r 45)), []⟩])
def pf63_2 : PC := (.ops 9 [⟨0, (some 36), none, (.mov (.r 4)), []⟩, ⟨1, (some 37), none, (.faddr 9 (.r 1)), []⟩, ⟨2, (some 38), none, (.load 1 false (.r 37)), []⟩, ⟨3, (some 39), none, (.call 67 [(.r 36), (.r 38), (.c (.int .i64 8))]), []⟩, ⟨4, (some 4), none, (.mov (.r 39)), []⟩])
def pf63_3 : PC := (.ops 8 [⟨0, (some 31), none, (.mov (.r 4)), []⟩, ⟨1, (some 32), none, (.faddr 5 (.r 1)), []⟩, ⟨2, (some 33), none, (.load 4 true (.r 32)), []⟩, ⟨3, (some 34), none, (.call 68 [(.r 33)]), []⟩, ⟨4, (some 35), none, (.app 1 1 (.r 31) (.r 34)), []⟩, ⟨5, (some 4), none, (.mov (.r 35)), []⟩])
def pf63_4 : PC := (.seq pf63_3 (.seq pf63_2 (.seq pf63_1 (.seq pf63_0 .ret))))
def pf63_5 : PC := (.ops 7 [⟨0, (some 26), none, (.mov (.r 4)), []⟩, ⟨1, (some 27), none, (.faddr 4 (.r 1)), []⟩, ⟨2, (some 28), none, (.load 1 false (.r 27)), []⟩, ⟨3, (some 29), none, (.cvi .u64 (.r 28)), []⟩, ⟨4, (some 30), none, (.call 67 [(.r 26), (.r 29), (.c (.int .i64 2))]), []⟩, ⟨5, (some 4), none, (.mov (.r 30)), []⟩])
def pf63_6 : PC := (.ops 6 [⟨0, (some 21), none, (.mov (.r 4)), []⟩, ⟨1, (some 22), none, (.faddr 3 (.r 1)), []⟩, ⟨2, (some 23), none, (.load 1 false (.r 22)), []⟩, ⟨3, (some 24), none, (.cvi .u64 (.r 23)), []⟩, ⟨4, (some 25), none, (.call 67 [(.r 21), (.r 24), (.c (.int .i64 2))]), []⟩, ⟨5, (some 4), none, (.mov (.r 25)), []⟩])
def pf63_7 : PC := (.ops 5 [⟨0, (some 16), none, (.mov (.r 4)), []⟩, ⟨1, (some 17), none, (.faddr 2 (.r 1)), []⟩, ⟨2, (some 18), none, (.load 1 false (.r 17)), []⟩, ⟨3, (some 19), none, (.cvi .u64 (.r 18)), []⟩, ⟨4, (some 20), none, (.call 67 [(.r 16), (.r 19), (.c (.int .i64 4))]), []⟩, ⟨5, (some 4), none, (.mov (.r 20)), []⟩])
def pf63_8 : PC := (.ops 4 [⟨0, (some 12), none, (.mov (.r 4)), []⟩, ⟨1, (some 13), none, (.faddr 1 (.r 1)), []⟩, ⟨2, (some 14), none, (.load 1 false (.r 13)), []⟩, ⟨3, (some 15), none, (.call 67 [(.r 12), (.r 14), (.c (.int .i64 6))]), []⟩, ⟨4, (some 4), none, (.mov (.r 15)), []⟩])
def pf63_9 : PC := (.seq pf63_8 (.seq pf63_7 (.seq pf63_6 (.seq pf63_5 pf63_4))))
def pf63_10 : PC := (.ops 3 [⟨0, (some 9), none, (.faddr 0 (.r 1)), []⟩, ⟨1, (some 10), none, (.load 1 false (.r 9)), []⟩, ⟨2, (some 11), none, (.call 67 [(.c .snil), (.r 10), (.c (.int .i64 6))]), []⟩, ⟨3, (some 4), none, (.mov (.r 11)), []⟩])
def pf63_11 : PC := (.ops 2 [⟨0, (some 8), none, (.ifc 49 (.c (.int .i64 8))), []⟩, ⟨1, (some 2), none, (.mov (.c .snil)), []⟩, ⟨2, (some 3), none, (.mov (.r 8)), []⟩])
def pf63_12 : PC := (.ops 1 [⟨0, (some 5), none, (.load 11 true (.r 1)), []⟩, ⟨1, (some 6), none, (.call 39 [(.r 5)]), []⟩, ⟨2, (some 7), none, (.un .not (.r 6)), []⟩])
def pf63_13 : PC := (.seq (.seq pf63_12 (.cond (.r 7) (.seq pf63_11 .ret) .skip)) (.seq pf63_10 pf63_9))
def pf63_14 : PC := (.ops 0 [⟨0, (some 1), none, (.box (.r 0)), []⟩, ⟨1, (some 2), none, (.mov (.c .snil)), []⟩, ⟨2, (some 3), none, (.mov (.c .nilIface)), []⟩])
def pf63 : PF := ⟨1, 48, [(.tmp 2), (.tmp 3)], (.seq pf63_14 pf63_13)⟩
theorem prep63 : (Go.Proofs.Tryd.prog.funcs[63]?).bind (prepF Go.Proofs.Tryd.prog) = some pf63 := by kernel_rfl
/-! sigillum/frag.Split -/
def pf64_0 : PC := (.ops 13 [⟨0, (some 68), none, (.mov (.r 13)), []⟩, ⟨1, (some 10), none, (.mov (.r 68)), []⟩, ⟨2, (some 11), none, (.mov (.c .nilIface)), []⟩])
def pf64_1 : PC := (.ops 11 [⟨0, (some 56), none, (.mov (.r 13)), []⟩, ⟨1, (some 57), none, (.mov (.r 14)), []⟩, ⟨2, (some 58), none, (.mov (.r 1)), []⟩, ⟨3, (some 59), none, (.mov (.r 2)), []⟩, ⟨4, (some 60), none, (.mov (.r 3)), []⟩, ⟨5, (some 61), none, (.mov (.r 14)), []⟩, ⟨6, (some 62), none, (.mov (.r 12)), []⟩, ⟨7, (some 63), none, (.mov (.r 15)), []⟩, ⟨8, (some 64), none, (.app 1 1 (.c .snil) (.r 63)), []⟩, ⟨9, (some 65), none, (.build [(.int .i64 0), (.int .i64 0), (.int .u64 0), (.int .i64 0), (.int .i64 0), .snil] [(0, (1, (.r 58))), (1, (1, (.r 59))), (2, (1, (.r 60))), (3, (1, (.r 61))), (4, (1, (.r 62))), (5, (1, (.r 64)))]), []⟩, ⟨10, (some 66), none, (.iaddr 6 (.r 56) (.r 57)), []⟩, ⟨11, none, none, (.store 6 (.r 66) (.r 65)), []⟩])
def pf64_2 : PC := (.ops 10 [⟨0, (some 41), none, (.mov (.r 0)), []⟩, ⟨1, (some 42), none, (.mov (.r 14)), []⟩, ⟨2, (some 43), none, (.mov (.r 4)), []⟩, ⟨3, (some 44), none, (.bin .mul (.r 42) (.r 43)), []⟩, ⟨4, (some 45), none, (.mov (.r 0)), []⟩, ⟨5, (some 46), none, (.len false (.r 45)), []⟩, ⟨6, (some 47), none, (.mn [(.r 44), (.r 46)]), []⟩, ⟨7, (some 48), none, (.mov (.r 14)), []⟩, ⟨8, (some 49), none, (.bin .add (.r 48) (.c (.int .i64 1))), []⟩, ⟨9, (some 50), none, (.mov (.r 4)), []⟩, ⟨10, (some 51), none, (.bin .mul (.r 49) (.r 50)), []⟩, ⟨11, (some 52), none, (.mov (.r 0)), []⟩, ⟨12, (some 53), none, (.len false (.r 52)), []⟩, ⟨13, (some 54), none, (.mn [(.r 51), (.r 53)]), []⟩, ⟨14, (some 55), none, (.slice 1 (.r 41) (some (.r 47)) (some (.r 54)) none), []⟩, ⟨15, (some 15), none, (.mov (.r 55)), []⟩])
def pf64_3 : PC := (.ops 9 [⟨0, (some 40), none, (.mov (.r 38)), []⟩, ⟨1, (some 14), none, (.mov (.r 40)), []⟩])
def pf64_4 : PC := (.ops 12 [⟨0, (some 67), none, (.bin .add (.r 38) (.c (.int .i64 1))), []⟩, ⟨1, (some 38), none, (.mov (.r 67)), []⟩])
def pf64_5 : PC := (.seq (.cond (.r 39) .skip (.exit 0)) (.seq (.block 1 (.seq pf64_3 (.seq pf64_2 pf64_1))) pf64_4))
def pf64_6 : PC := (.ops 8 [⟨0, (some 39), none, (.bin .lss (.r 38) (.r 37)), []⟩])
def pf64_7 : PC := (.ops 7 [⟨0, (some 36), none, (.mov (.r 13)), []⟩, ⟨1, (some 37), none, (.len false (.r 36)), []⟩, ⟨2, (some 38), none, (.mov (.c (.int .i64 0))), []⟩])
def pf64_8 : PC := (.seq (.seq pf64_7 (.block 0 (.loop (.seq pf64_6 pf64_5)))) (.seq pf64_0 .ret))
def pf64_9 : PC := (.ops 6 [⟨0, (some 34), none, (.mov (.r 12)), []⟩, ⟨1, (some 35), none, (.mks 6 64 [(.int .i64 0), (.int .i64 0), (.int .u64 0), (.int .i64 0), (.int .i64 0), .snil] (.r 34) (.r 34)), []⟩, ⟨2, (some 13), none, (.mov (.r 35)), []⟩])
def pf64_10 : PC := (.ops 5 [⟨0, (some 33), none, (.ifc 49 (.c (.int .i64 13))), []⟩, ⟨1, (some 10), none, (.mov (.c .snil)), []⟩, ⟨2, (some 11), none, (.mov (.r 33)), []⟩])
def pf64_11 : PC := (.ops 4 [⟨0, (some 31), none, (.mov (.r 12)), []⟩, ⟨1, (some 32), none, (.bin .gtr (.r 31) (.c (.int .i64 256))), []⟩])
def pf64_12 : PC := (.seq (.seq pf64_11 (.cond (.r 32) (.seq pf64_10 .ret) .skip)) (.seq pf64_9 pf64_8))
def pf64_13 : PC := (.ops 3 [⟨0, (some 23), none, (.mov (.r 0)), []⟩, ⟨1, (some 24), none, (.len false (.r 23)), []⟩, ⟨2, (some 25), none, (.mov (.r 4)), []⟩, ⟨3, (some 26), none, (.bin .add (.r 24) (.r 25)), []⟩, ⟨4, (some 27), none, (.bin .sub (.r 26) (.c (.int .i64 1))), []⟩, ⟨5, (some 28), none, (.mov (.r 4)), []⟩, ⟨6, (some 29), none, (.bin .quo (.r 27) (.r 28)), []⟩, ⟨7, (some 30), none, (.mx [(.c (.int .i64 1)), (.r 29)]), []⟩, ⟨8, (some 12), none, (.mov (.r 30)), []⟩])
def pf64_14 : PC := (.ops 2 [⟨0, (some 22), none, (.ifc 49 (.c (.int .i64 4))), []⟩, ⟨1, (some 10), none, (.mov (.c .snil)), []⟩, ⟨2, (some 11), none, (.mov (.r 22)), []⟩])
def pf64_15 : PC := (.ops 1 [⟨0, (some 16), none, (.mov (.r 4)), []⟩, ⟨1, (some 17), none, (.bin .lss (.r 16) (.c (.int .i64 1))), []⟩, ⟨2, (some 18), none, (.mov (.r 17)), []⟩, ⟨3, (some 19), (some (18, false)), (.mov (.r 4)), []⟩, ⟨4, (some 20), (some (18, false)), (.bin .gtr (.r 19) (.c (.int .i64 32768))), []⟩, ⟨5, (some 21), none, (.pick (.r 18) (.c (.bool true)) (.r 20)), []⟩])
def pf64_16 : PC := (.seq (.seq pf64_15 (.cond (.r 21) (.seq pf64_14 .ret) .skip)) (.seq pf64_13 pf64_12))
def pf64_17 : PC := (.ops 0 [⟨0, (some 10), none, (.mov (.c .snil)), []⟩, ⟨1, (some 11), none, (.mov (.c .nilIface)), []⟩])
def pf64 : PF := ⟨5, 69, [(.tmp 10), (.tmp 11)], (.seq pf64_17 pf64_16)⟩
theorem prep64 : (Go.Proofs.Tryd.prog.funcs[64]?).bind (prepF Go.Proofs.Tryd.prog) = some pf64 := by kernel_rfl
/-! (ptr sigillum/objects.Table).cap -/
def pf65_0 : PC := (.ops 1 [⟨0, (some 9), none, (.mov (.r 0)), []⟩, ⟨1, (some 10), none, (.nilck (.r 9)), []⟩, ⟨2, (some 11), none, (.faddr 0 (.r 10)), []⟩, ⟨3, (some 12), none, (.load 1 false (.r 11)), []⟩, ⟨4, (some 13), none, (.mov (.r 1)), []⟩, ⟨5, (some 14), none, (.cvi .u32 (.r 13)), []⟩, ⟨6, (some 15), none, (.mov (.r 2)), []⟩, ⟨7, (some 16), none, (.mov (.r 3)), []⟩, ⟨8, (some 17), none, (.build [(.int .u64 0), (.int .u32 0), (.int .u8 0), (.int .u64 0)] [(0, (1, (.r 12))), (1, (1, (.r 14))), (2, (1, (.r 15))), (3, (1, (.r 16)))]), []⟩, ⟨9, none, none, (.store 4 (.r 8) (.r 17)), []⟩])
def pf65_1 : PC := (.ops 0 [⟨0, (some 8), none, (.new [(.int .u64 0), (.int .u32 0), (.int .u8 0), (.int .u64 0)]), []⟩])
def pf65 : PF := ⟨4, 18, [(.cell 8 4 true)], (.seq pf65_1 (.seq pf65_0 .ret))⟩
theorem prep65 : (Go.Proofs.Tryd.prog.funcs[65]?).bind (prepF Go.Proofs.Tryd.prog) = some pf65 := by kernel_rfl
/-! sigillum/pages.Of -/
def pf66_0 : PC := (.ops 2 [⟨0, (some 6), none, (.mov (.r 0)), []⟩, ⟨1, (some 7), none, (.bin .mul (.r 6) (.c (.int .i64 64))), []⟩, ⟨2, (some 8), none, (.mks 1 1 [(.int .u8 0)] (.r 7) (.r 7)), []⟩, ⟨3, (some 9), none, (.mov (.r 0)), []⟩, ⟨4, (some 10), none, (.mks 1 1 [(.bool false)] (.r 9) (.r 9)), []⟩, ⟨5, (some 11), none, (.build [.snil, .snil] [(0, (1, (.r 8))), (1, (1, (.r 10)))]), []⟩, ⟨6, (some 12), none, (.box (.r 11)), []⟩, ⟨7, (some 2), none, (.mov (.r 12)), []⟩])
def pf66_1 : PC := (.ops 1 [⟨0, (some 3), none, (.mov (.r 0)), []⟩, ⟨1, (some 4), none, (.mn [(.r 3), (.c (.int .i64 4096))]), []⟩, ⟨2, (some 5), none, (.mx [(.c (.int .i64 0)), (.r 4)]), []⟩, ⟨3, (some 0), none, (.mov (.r 5)), []⟩])
def pf66 : PF := ⟨1, 13, [(.tmp 2)], (.seq (.ops 0 [⟨0, (some 2), none, (.mov (.c .pnil)), []⟩]) (.seq pf66_1 (.seq pf66_0 .ret)))⟩
theorem prep66 : (Go.Proofs.Tryd.prog.funcs[66]?).bind (prepF Go.Proofs.Tryd.prog) = some pf66 := by kernel_rfl
/-! sigillum/codec.Put -/
def pf67_0 : PC := (.ops 8 [⟨0, (some 32), none, (.mov (.r 7)), []⟩, ⟨1, (some 6), none, (.mov (.r 32)), []⟩])
def pf67_1 : PC := (.ops 7 [⟨0, (some 24), none, (.mov (.r 7)), []⟩, ⟨1, (some 25), none, (.mov (.r 1)), []⟩, ⟨2, (some 26), none, (.mov (.r 8)), []⟩, ⟨3, (some 27), none, (.bin .mul (.c (.int .i64 8)) (.r 26)), []⟩, ⟨4, (some 28), none, (.bin .shr (.r 25) (.r 27)), []⟩, ⟨5, (some 29), none, (.cvi .u8 (.r 28)), []⟩, ⟨6, (some 30), none, (.buildSl 1 1 [(.int .u8 0)] [(0, (1, (.r 29)))]), []⟩, ⟨7, (some 31), none, (.app 1 1 (.r 24) (.r 30)), []⟩, ⟨8, (some 7), none, (.mov (.r 31)), []⟩])
def pf67_2 : PC := (.ops 6 [⟨0, (some 22), none, (.mov (.r 8)), []⟩, ⟨1, (some 23), none, (.bin .sub (.r 22) (.c (.int .i64 1))), []⟩, ⟨2, (some 8), none, (.mov (.r 23)), []⟩])
def pf67_3 : PC := (.ops 5 [⟨0, (some 20), none, (.mov (.r 8)), []⟩, ⟨1, (some 21), none, (.bin .geq (.r 20) (.c (.int .i64 0))), []⟩])
def pf67_4 : PC := (.seq (.seq pf67_3 (.cond (.r 21) .skip (.exit 0))) (.seq (.block 1 pf67_1) pf67_2))
def pf67_5 : PC := (.ops 4 [⟨0, (some 18), none, (.mov (.r 2)), []⟩, ⟨1, (some 19), none, (.bin .sub (.r 18) (.c (.int .i64 1))), []⟩, ⟨2, (some 8), none, (.mov (.r 19)), []⟩])
def pf67_6 : PC := (.ops 3 [⟨0, (some 17), none, (.mov (.r 7)), []⟩, ⟨1, (some 6), none, (.mov (.r 17)), []⟩])
def pf67_7 : PC := (.ops 2 [⟨0, (some 11), none, (.mov (.r 2)), []⟩, ⟨1, (some 12), none, (.bin .lss (.r 11) (.c (.int .i64 1))), []⟩, ⟨2, (some 13), none, (.mov (.r 12)), []⟩, ⟨3, (some 14), (some (13, false)), (.mov (.r 2)), []⟩, ⟨4, (some 15), (some (13, false)), (.bin .gtr (.r 14) (.c (.int .i64 8))), []⟩, ⟨5, (some 16), none, (.pick (.r 13) (.c (.bool true)) (.r 15)), []⟩])
def pf67_8 : PC := (.seq (.seq pf67_5 (.block 0 (.loop pf67_4))) (.seq pf67_0 .ret))
def pf67_9 : PC := (.seq (.seq pf67_7 (.cond (.r 16) (.seq pf67_6 .ret) .skip)) pf67_8)
def pf67_10 : PC := (.ops 1 [⟨0, (some 9), none, (.mov (.r 0)), []⟩, ⟨1, (some 10), none, (.app 1 1 (.c .snil) (.r 9)), []⟩, ⟨2, (some 7), none, (.mov (.r 10)), []⟩])
def pf67 : PF := ⟨3, 33, [(.tmp 6)], (.seq (.ops 0 [⟨0, (some 6), none, (.mov (.c .snil)), []⟩]) (.seq pf67_10 pf67_9))⟩
theorem prep67 : (Go.Proofs.Tryd.prog.funcs[67]?).bind (prepF Go.Proofs.Tryd.prog) = some pf67 := by kernel_rfl
/-! sigillum/caps.Encode -/
def pf68_0 : PC := (.ops 6 [⟨0, (some 20), none, (.mov (.r 3)), []⟩, ⟨1, (some 21), none, (.faddr 3 (.r 1)), []⟩, ⟨2, (some 22), none, (.load 1 false (.r 21)), []⟩, ⟨3, (some 23), none, (.call 67 [(.r 20), (.r 22), (.c (.int .i64 6))]), []⟩, ⟨4, (some 2), none, (.mov (.r 23)), []⟩])
def pf68_1 : PC := (.ops 5 [⟨0, (some 15), none, (.mov (.r 3)), []⟩, ⟨1, (some 16), none, (.faddr 2 (.r 1)), []⟩, ⟨2, (some 17), none, (.load 1 false (.r 16)), []⟩, ⟨3, (some 18), none, (.cvi .u64 (.r 17)), []⟩, ⟨4, (some 19), none, (.call 67 [(.r 15), (.r 18), (.c (.int .i64 1))]), []⟩, ⟨5, (some 3), none, (.mov (.r 19)), []⟩])
def pf68_2 : PC := (.ops 4 [⟨0, (some 10), none, (.mov (.r 3)), []⟩, ⟨1, (some 11), none, (.faddr 1 (.r 1)), []⟩, ⟨2, (some 12), none, (.load 1 false (.r 11)), []⟩, ⟨3, (some 13), none, (.cvi .u64 (.r 12)), []⟩, ⟨4, (some 14), none, (.call 67 [(.r 10), (.r 13), (.c (.int .i64 3))]), []⟩, ⟨5, (some 3), none, (.mov (.r 14)), []⟩])
def pf68_3 : PC := (.ops 3 [⟨0, (some 7), none, (.faddr 0 (.r 1)), []⟩, ⟨1, (some 8), none, (.load 1 false (.r 7)), []⟩, ⟨2, (some 9), none, (.call 67 [(.c .snil), (.r 8), (.c (.int .i64 6))]), []⟩, ⟨3, (some 3), none, (.mov (.r 9)), []⟩])
def pf68_4 : PC := (.seq (.ops 2 [⟨0, (some 2), none, (.mov (.c .snil)), []⟩]) .ret)
def pf68_5 : PC := (.ops 1 [⟨0, (some 4), none, (.load 4 true (.r 1)), []⟩, ⟨1, (some 5), none, (.call 54 [(.r 4)]), []⟩, ⟨2, (some 6), none, (.un .not (.r 5)), []⟩])
def pf68_6 : PC := (.seq pf68_3 (.seq pf68_2 (.seq pf68_1 (.seq pf68_0 .ret))))
def pf68_7 : PC := (.ops 0 [⟨0, (some 1), none, (.box (.r 0)), []⟩, ⟨1, (some 2), none, (.mov (.c .snil)), []⟩])
def pf68 : PF := ⟨1, 24, [(.tmp 2)], (.seq pf68_7 (.seq (.seq pf68_5 (.cond (.r 6) pf68_4 .skip)) pf68_6))⟩
theorem prep68 : (Go.Proofs.Tryd.prog.funcs[68]?).bind (prepF Go.Proofs.Tryd.prog) = some pf68 := by kernel_rfl
/-! sigillum/codec.PutBytes -/
def pf69_0 : PC := (.ops 3 [⟨0, (some 9), none, (.mov (.r 0)), []⟩, ⟨1, (some 10), none, (.mov (.r 1)), []⟩, ⟨2, (some 11), none, (.len false (.r 10)), []⟩, ⟨3, (some 12), none, (.cvi .u64 (.r 11)), []⟩, ⟨4, (some 13), none, (.call 67 [(.r 9), (.r 12), (.c (.int .i64 2))]), []⟩, ⟨5, (some 14), none, (.mov (.r 1)), []⟩, ⟨6, (some 15), none, (.app 1 1 (.r 13) (.r 14)), []⟩, ⟨7, (some 4), none, (.mov (.r 15)), []⟩, ⟨8, (some 5), none, (.mov (.c (.bool true))), []⟩])
def pf69_1 : PC := (.ops 2 [⟨0, (some 4), none, (.mov (.c .snil)), []⟩, ⟨1, (some 5), none, (.mov (.c (.bool false))), []⟩])
def pf69_2 : PC := (.ops 1 [⟨0, (some 6), none, (.mov (.r 1)), []⟩, ⟨1, (some 7), none, (.len false (.r 6)), []⟩, ⟨2, (some 8), none, (.bin .gtr (.r 7) (.c (.int .i64 65535))), []⟩])
def pf69_3 : PC := (.seq (.seq pf69_2 (.cond (.r 8) (.seq pf69_1 .ret) .skip)) (.seq pf69_0 .ret))
def pf69_4 : PC := (.ops 0 [⟨0, (some 4), none, (.mov (.c .snil)), []⟩, ⟨1, (some 5), none, (.mov (.c (.bool false))), []⟩])
def pf69 : PF := ⟨2, 16, [(.tmp 4), (.tmp 5)], (.seq pf69_4 pf69_3)⟩
theorem prep69 : (Go.Proofs.Tryd.prog.funcs[69]?).bind (prepF Go.Proofs.Tryd.prog) = some pf69 := by kernel_rfl

def pfs : List (Nat × PF) := [(2, pf2), (3, pf3), (4, pf4), (5, pf5), (6, pf6), (7, pf7), (8, pf8), (9, pf9), (10, pf10), (11, pf11), (12, pf12), (13, pf13), (14, pf14), (15, pf15), (16, pf16), (17, pf17), (18, pf18), (19, pf19), (20, pf20), (21, pf21), (22, pf22), (23, pf23), (24, pf24), (25, pf25), (26, pf26), (27, pf27), (28, pf28), (29, pf29), (30, pf30), (31, pf31), (32, pf32), (33, pf33), (34, pf34), (36, pf36), (37, pf37), (38, pf38), (39, pf39), (40, pf40), (41, pf41), (42, pf42), (43, pf43), (44, pf44), (45, pf45), (46, pf46), (51, pf51), (52, pf52), (53, pf53), (54, pf54), (55, pf55), (56, pf56), (57, pf57), (58, pf58), (59, pf59), (63, pf63), (64, pf64), (65, pf65), (66, pf66), (67, pf67), (68, pf68), (69, pf69)]

theorem lookup_ok {P : Program} : ∀ {l : List (Nat × PF)}, (∀ x ∈ l, (P.funcs[x.1]?).bind (prepF P) = some x.2) → ∀ f pf, l.lookup f = some pf → ∃ fn, P.funcs[f]? = some fn ∧ prepF P fn = some pf
  | [], _, f, pf, h => by cases h
  | (i, q) :: l, hl, f, pf, h => by
    simp only [List.lookup] at h
    split at h
    · rename_i he
      have he' : f = i := by simpa using he
      subst he'
      simp only [Option.some.injEq] at h
      subst h
      exact Option.bind_eq_some_iff.1 (hl (f, q) (by simp))
    · exact lookup_ok (fun x hx => hl x (by simp [hx])) f pf h

theorem pfs_ok : ∀ f pf, pfs.lookup f = some pf → ∃ fn, Go.Proofs.Tryd.prog.funcs[f]? = some fn ∧ prepF Go.Proofs.Tryd.prog fn = some pf := by
  refine lookup_ok fun x hx => ?_
  simp only [pfs, List.mem_cons, List.not_mem_nil, or_false] at hx
  rcases hx with rfl | rfl | rfl | rfl | rfl | rfl | rfl | rfl | rfl | rfl | rfl | rfl | rfl | rfl | rfl | rfl | rfl | rfl | rfl | rfl | rfl | rfl | rfl | rfl | rfl | rfl | rfl | rfl | rfl | rfl | rfl | rfl | rfl | rfl | rfl | rfl | rfl | rfl | rfl | rfl | rfl | rfl | rfl | rfl | rfl | rfl | rfl | rfl | rfl | rfl | rfl | rfl | rfl | rfl | rfl | rfl | rfl | rfl | rfl | rfl
  · exact prep2
  · exact prep3
  · exact prep4
  · exact prep5
  · exact prep6
  · exact prep7
  · exact prep8
  · exact prep9
  · exact prep10
  · exact prep11
  · exact prep12
  · exact prep13
  · exact prep14
  · exact prep15
  · exact prep16
  · exact prep17
  · exact prep18
  · exact prep19
  · exact prep20
  · exact prep21
  · exact prep22
  · exact prep23
  · exact prep24
  · exact prep25
  · exact prep26
  · exact prep27
  · exact prep28
  · exact prep29
  · exact prep30
  · exact prep31
  · exact prep32
  · exact prep33
  · exact prep34
  · exact prep36
  · exact prep37
  · exact prep38
  · exact prep39
  · exact prep40
  · exact prep41
  · exact prep42
  · exact prep43
  · exact prep44
  · exact prep45
  · exact prep46
  · exact prep51
  · exact prep52
  · exact prep53
  · exact prep54
  · exact prep55
  · exact prep56
  · exact prep57
  · exact prep58
  · exact prep59
  · exact prep63
  · exact prep64
  · exact prep65
  · exact prep66
  · exact prep67
  · exact prep68
  · exact prep69
end Go.Ab
