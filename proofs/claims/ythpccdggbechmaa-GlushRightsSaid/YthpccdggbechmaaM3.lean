/- Texts put to one: Code Lay Base. -/
import Derived.Test.YthpccdggbechmaaM2
import Derived.Test.YthpccdggbechmaaProg
import Derived.KernelRfl
import Derived.Shelf.Lay

/- MADE BY PROGRAM (amgen.py): the compact code of functions, each held against the loaded program by the kernel. -/
set_option maxRecDepth 100000
namespace Go.Proofs.Ythpccdggbechmaa
open Go.Am

/-- slices.IndexFunc[[][]raddle/api.Node,[]raddle/api.Node] -/
def a35 : AFun := { nargs := 2, ps := [0, 1, 4, 5, 7, 8, 9, 16], res := [.var 2], body :=
  (.seq (.region [
    { op := .mov (.const (.int .i64 0)), dst := some 2 }])
  (.seq (.seq (.region [
    { op := .mov (.var 0) },
    { op := .lenL (.loc 0), dst := some 4 },
    { op := .mov (.const (.int .i64 0)), dst := some 5 }])
  (.block 0 (.loop (.seq (.region [
    { op := .bin .lss (.var 5) (.var 4), dst := some 6 }])
  (.seq (.cond (.var 6) .skip (.exit 0))
  (.seq (.block 1 (.seq (.region [
    { op := .mov (.var 5) },
    { op := .mov (.loc 0), dst := some 3 }])
  (.seq (.region [
    { op := .mov (.var 1) },
    { op := .mov (.var 0) },
    { op := .mov (.var 3) },
    { op := .iaddr 1 (.loc 1) (.loc 2) },
    { op := .load 1 false (.loc 3) },
    { op := .callv (.loc 0) [.loc 4], dst := some 7 }])
  (.cond (.var 7) (.seq (.region [
    { op := .mov (.var 3) },
    { op := .mov (.loc 0), dst := some 2 }])
  .ret) .skip))))
  (.region [
    { op := .bin .add (.var 5) (.const (.int .i64 1)) },
    { op := .mov (.loc 0), dst := some 5 }])))))))
  (.seq (.region [
    { op := .mov (.const (.int .i64 (-1))), dst := some 2 }])
  .ret))) }

/-- slices.ContainsFunc[[][]raddle/api.Node,[]raddle/api.Node] -/
def a19 : AFun := { nargs := 2, ps := [0, 1, 4], res := [.var 2], body :=
  (.seq (.region [
    { op := .mov (.const (.bool false)), dst := some 2 }])
  (.seq (.region [
    { op := .mov (.var 0) },
    { op := .mov (.var 1) },
    { op := .call 35 [.loc 0, .loc 1] },
    { op := .bin .geq (.loc 2) (.const (.int .i64 0)) },
    { op := .mov (.loc 3), dst := some 2 }])
  .ret)) }

/-- raddle/syntax.letter -/
def a95 : AFun := { nargs := 1, ps := [0, 2], res := [.var 1], body :=
  (.seq (.region [
    { op := .mov (.const (.bool false)), dst := some 1 }])
  (.seq (.region [
    { op := .mov (.var 0) },
    { op := .bin .geq (.loc 0) (.const (.int .u8 97)) },
    { op := .mov (.loc 1) },
    { op := .mov (.var 0), guard := some (2, true) },
    { op := .bin .leq (.loc 3) (.const (.int .u8 122)), guard := some (2, true) },
    { op := .pick (.loc 2) (.loc 4) (.const (.bool false)) },
    { op := .mov (.loc 5) },
    { op := .mov (.var 0), guard := some (6, false) },
    { op := .bin .geq (.loc 7) (.const (.int .u8 65)), guard := some (6, false) },
    { op := .mov (.loc 8), guard := some (6, false) },
    { op := .mov (.var 0), guard := some (9, true) },
    { op := .bin .leq (.loc 10) (.const (.int .u8 90)), guard := some (9, true) },
    { op := .pick (.loc 9) (.loc 11) (.const (.bool false)), guard := some (6, false) },
    { op := .pick (.loc 6) (.const (.bool true)) (.loc 12) },
    { op := .mov (.loc 13) },
    { op := .mov (.var 0), guard := some (14, false) },
    { op := .bin .eql (.loc 15) (.const (.int .u8 95)), guard := some (14, false) },
    { op := .pick (.loc 14) (.const (.bool true)) (.loc 16) },
    { op := .mov (.loc 17), dst := some 1 }])
  .ret)) }

/-- raddle/syntax.digit -/
def a96 : AFun := { nargs := 1, ps := [0, 2], res := [.var 1], body :=
  (.seq (.region [
    { op := .mov (.const (.bool false)), dst := some 1 }])
  (.seq (.region [
    { op := .mov (.var 0) },
    { op := .bin .geq (.loc 0) (.const (.int .u8 48)) },
    { op := .mov (.loc 1) },
    { op := .mov (.var 0), guard := some (2, true) },
    { op := .bin .leq (.loc 3) (.const (.int .u8 57)), guard := some (2, true) },
    { op := .pick (.loc 2) (.loc 4) (.const (.bool false)) },
    { op := .mov (.loc 5), dst := some 1 }])
  .ret)) }

/-- raddle/syntax.Name -/
def a84 : AFun := { nargs := 1, ps := [0, 2, 3, 5, 6, 7, 24], res := [.var 1], body :=
  (.seq (.region [
    { op := .mov (.const (.bool false)), dst := some 1 }])
  (.seq (.seq (.region [
    { op := .mov (.var 0) },
    { op := .lenS (.loc 0), dst := some 3 },
    { op := .mov (.const (.int .i64 0)), dst := some 4 }])
  (.block 0 (.loop (.seq (.region [
    { op := .bin .lss (.var 4) (.var 3), dst := some 5 }])
  (.seq (.cond (.var 5) .skip (.exit 0))
  (.seq (.block 1 (.seq (.region [
    { op := .mov (.var 4) },
    { op := .mov (.loc 0), dst := some 2 }])
  (.seq (.region [
    { op := .mov (.var 0) },
    { op := .mov (.var 2) },
    { op := .istr (.loc 0) (.loc 1) },
    { op := .call 95 [.loc 2] },
    { op := .un .not (.loc 3) },
    { op := .mov (.loc 4) },
    { op := .mov (.var 2), guard := some (5, true) },
    { op := .bin .eql (.loc 6) (.const (.int .i64 0)), guard := some (5, true) },
    { op := .mov (.loc 7), guard := some (5, true) },
    { op := .mov (.var 0), guard := some (8, false) },
    { op := .mov (.var 2), guard := some (8, false) },
    { op := .istr (.loc 9) (.loc 10), guard := some (8, false) },
    { op := .call 96 [.loc 11], guard := some (8, false) },
    { op := .un .not (.loc 12), guard := some (8, false) },
    { op := .pick (.loc 8) (.const (.bool true)) (.loc 13), guard := some (5, true) },
    { op := .pick (.loc 5) (.loc 14) (.const (.bool false)), dst := some 6 }])
  (.cond (.var 6) (.seq (.region [
    { op := .mov (.const (.bool false)), dst := some 1 }])
  .ret) .skip))))
  (.region [
    { op := .bin .add (.var 4) (.const (.int .i64 1)) },
    { op := .mov (.loc 0), dst := some 4 }])))))))
  (.seq (.region [
    { op := .mov (.var 0) },
    { op := .lenS (.loc 0) },
    { op := .bin .geq (.loc 1) (.const (.int .i64 1)) },
    { op := .mov (.loc 2) },
    { op := .mov (.var 0), guard := some (3, true) },
    { op := .lenS (.loc 4), guard := some (3, true) },
    { op := .bin .leq (.loc 5) (.const (.int .i64 32)), guard := some (3, true) },
    { op := .pick (.loc 3) (.loc 6) (.const (.bool false)) },
    { op := .mov (.loc 7), dst := some 1 }])
  .ret))) }

/-- raddle/syntax.shaped -/
def a82 : AFun := { nargs := 1, ps := [0, 1, 2, 3, 4, 12, 13, 21, 22, 55, 58, 62, 63, 71, 72], res := [.var 2], body :=
  (.seq (.region [
    { op := .box (.var 0), dst := some 1 },
    { op := .mov (.const (.bool false)), dst := some 2 }])
  (.seq (.region [
    { op := .faddr 0 (.var 1) },
    { op := .load 1 false (.loc 0) },
    { op := .build [.int .u8 0, .int .u64 0, .int .u64 0, .int .u64 0, .int .u64 0, .nilsl, .int .i64 0, .int .i64 0, .str []] [(0, 1, .loc 1)] },
    { op := .alloc [.int .u8 0, .int .u64 0, .int .u64 0, .int .u64 0, .int .u64 0, .nilsl, .int .i64 0, .int .i64 0, .str []], dst := some 3 },
    { op := .store 9 (.loc 3) (.loc 2) }])
  (.seq (.region [
    { op := .faddr 5 (.var 1) },
    { op := .load 1 false (.loc 0) },
    { op := .lenL (.loc 1) },
    { op := .mov (.loc 2), dst := some 4 }])
  (.seq (.seq (.region [
    { op := .faddr 0 (.var 1) },
    { op := .load 1 false (.loc 0), dst := some 5 }])
  (.block 0 (.seq (.region [
    { op := .bin .eql (.var 5) (.const (.int .u8 2)) },
    { op := .mov (.loc 0), dst := some 6 }])
  (.cond (.var 6) (.seq (.region [
    { op := .faddr 1 (.var 1) },
    { op := .load 4 true (.loc 0) },
    { op := .faddr 1 (.var 3) },
    { op := .store 4 (.loc 2) (.loc 1) }])
  (.seq (.region [
    { op := .faddr 1 (.var 1) },
    { op := .load 4 true (.loc 0) },
    { op := .build [.int .u64 0, .int .u64 0, .int .u64 0, .int .u64 0] [] },
    { op := .eqs false [.int, .int, .int, .int] true (.loc 1) (.loc 2), dst := some 7 }])
  (.cond (.var 7) (.seq (.region [
    { op := .mov (.const (.bool false)), dst := some 2 }])
  .ret) .skip))) (.seq (.region [
    { op := .bin .eql (.var 5) (.const (.int .u8 5)) },
    { op := .mov (.loc 0), dst := some 8 }])
  (.cond (.var 8) (.seq (.region [
    { op := .faddr 6 (.var 1) },
    { op := .load 1 false (.loc 0) },
    { op := .faddr 7 (.var 1) },
    { op := .load 1 false (.loc 2) },
    { op := .faddr 6 (.var 3) },
    { op := .store 1 (.loc 4) (.loc 1), aft := [3] },
    { op := .faddr 7 (.var 3) },
    { op := .store 1 (.loc 6) (.loc 3) }])
  (.seq (.seq (.region [
    { op := .faddr 6 (.var 1) },
    { op := .load 1 false (.loc 0) },
    { op := .bin .lss (.loc 1) (.const (.int .i64 0)) },
    { op := .mov (.loc 2) },
    { op := .faddr 6 (.var 1), guard := some (3, false) },
    { op := .load 1 false (.loc 4), guard := some (3, false) },
    { op := .bin .gtr (.loc 5) (.const (.int .i64 4096)), guard := some (3, false) },
    { op := .pick (.loc 3) (.const (.bool true)) (.loc 6) },
    { op := .mov (.loc 7) },
    { op := .faddr 7 (.var 1), guard := some (8, false) },
    { op := .load 1 false (.loc 9), guard := some (8, false) },
    { op := .bin .neq (.loc 10) (.const (.int .i64 (-1))), guard := some (8, false) },
    { op := .mov (.loc 11), guard := some (8, false) },
    { op := .faddr 7 (.var 1), guard := some (12, true) },
    { op := .load 1 false (.loc 13), guard := some (12, true) },
    { op := .faddr 6 (.var 1), guard := some (12, true) },
    { op := .load 1 false (.loc 15), guard := some (12, true) },
    { op := .minmax true (.loc 16) (.const (.int .i64 1)), guard := some (12, true) },
    { op := .bin .lss (.loc 14) (.loc 17), guard := some (12, true) },
    { op := .mov (.loc 18), guard := some (12, true) },
    { op := .faddr 7 (.var 1), guard := some (19, false) },
    { op := .load 1 false (.loc 20), guard := some (19, false) },
    { op := .bin .gtr (.loc 21) (.const (.int .i64 4096)), guard := some (19, false) },
    { op := .pick (.loc 19) (.const (.bool true)) (.loc 22), guard := some (12, true) },
    { op := .pick (.loc 12) (.loc 23) (.const (.bool false)), guard := some (8, false) },
    { op := .pick (.loc 8) (.const (.bool true)) (.loc 24), dst := some 9 }])
  (.cond (.var 9) (.seq (.region [
    { op := .mov (.const (.bool false)), dst := some 2 }])
  .ret) .skip))
  (.region [
    { op := .mov (.var 4) },
    { op := .bin .sub (.loc 0) (.const (.int .i64 1)) },
    { op := .mov (.loc 1), dst := some 4 }]))) (.seq (.seq (.region [
    { op := .bin .eql (.var 5) (.const (.int .u8 3)) },
    { op := .mov (.loc 0), dst := some 10 }])
  (.cond (.var 10) .skip (.region [
    { op := .bin .eql (.var 5) (.const (.int .u8 4)) },
    { op := .mov (.loc 0), dst := some 10 }])))
  (.cond (.var 10) (.seq (.seq (.region [
    { op := .mov (.var 4) },
    { op := .bin .lss (.loc 0) (.const (.int .i64 2)), dst := some 11 }])
  (.cond (.var 11) (.seq (.region [
    { op := .mov (.const (.bool false)), dst := some 2 }])
  .ret) .skip))
  (.region [
    { op := .mov (.const (.int .i64 0)), dst := some 4 }])) (.seq (.region [
    { op := .bin .eql (.var 5) (.const (.int .u8 6)) },
    { op := .mov (.loc 0), dst := some 12 }])
  (.cond (.var 12) (.seq (.region [
    { op := .faddr 8 (.var 1) },
    { op := .load 1 false (.loc 0) },
    { op := .faddr 8 (.var 3) },
    { op := .store 1 (.loc 2) (.loc 1) }])
  (.seq (.region [
    { op := .faddr 8 (.var 1) },
    { op := .load 1 false (.loc 0) },
    { op := .call 84 [.loc 1] },
    { op := .un .not (.loc 2), dst := some 13 }])
  (.cond (.var 13) (.seq (.region [
    { op := .mov (.const (.bool false)), dst := some 2 }])
  .ret) .skip))) (.seq (.region [
    { op := .bin .eql (.var 5) (.const (.int .u8 1)) },
    { op := .mov (.loc 0), dst := some 14 }])
  (.cond (.var 14) .skip (.seq (.region [
    { op := .mov (.const (.bool false)), dst := some 2 }])
  .ret)))))))))))))
  (.seq (.region [
    { op := .mov (.var 4) },
    { op := .bin .eql (.loc 0) (.const (.int .i64 0)) },
    { op := .mov (.loc 1) },
    { op := .faddr 1 (.var 1), guard := some (2, true) },
    { op := .load 4 true (.loc 3), guard := some (2, true) },
    { op := .faddr 1 (.var 3), guard := some (2, true) },
    { op := .load 4 true (.loc 5), guard := some (2, true) },
    { op := .eqs false [.int, .int, .int, .int] true (.loc 4) (.loc 6), guard := some (2, true) },
    { op := .pick (.loc 2) (.loc 7) (.const (.bool false)) },
    { op := .mov (.loc 8) },
    { op := .faddr 6 (.var 1), guard := some (9, true) },
    { op := .load 1 false (.loc 10), guard := some (9, true) },
    { op := .faddr 6 (.var 3), guard := some (9, true) },
    { op := .load 1 false (.loc 12), guard := some (9, true) },
    { op := .bin .eql (.loc 11) (.loc 13), guard := some (9, true) },
    { op := .pick (.loc 9) (.loc 14) (.const (.bool false)) },
    { op := .mov (.loc 15) },
    { op := .faddr 7 (.var 1), guard := some (16, true) },
    { op := .load 1 false (.loc 17), guard := some (16, true) },
    { op := .faddr 7 (.var 3), guard := some (16, true) },
    { op := .load 1 false (.loc 19), guard := some (16, true) },
    { op := .bin .eql (.loc 18) (.loc 20), guard := some (16, true) },
    { op := .pick (.loc 16) (.loc 21) (.const (.bool false)) },
    { op := .mov (.loc 22) },
    { op := .faddr 8 (.var 1), guard := some (23, true) },
    { op := .load 1 false (.loc 24), guard := some (23, true) },
    { op := .faddr 8 (.var 3), guard := some (23, true) },
    { op := .load 1 false (.loc 26), guard := some (23, true) },
    { op := .bin .eql (.loc 25) (.loc 27), guard := some (23, true) },
    { op := .pick (.loc 23) (.loc 28) (.const (.bool false)) },
    { op := .mov (.loc 29), dst := some 2 }])
  .ret))))) }

/-- slices.Equal[[]int,int] -/
def a83 : AFun := { nargs := 2, ps := [0, 1, 4, 5, 10, 12, 13, 14, 24], res := [.var 2], body :=
  (.seq (.region [
    { op := .mov (.const (.bool false)), dst := some 2 }])
  (.seq (.seq (.region [
    { op := .mov (.var 0) },
    { op := .lenL (.loc 0) },
    { op := .mov (.var 1) },
    { op := .lenL (.loc 2) },
    { op := .bin .neq (.loc 1) (.loc 3), dst := some 4 }])
  (.cond (.var 4) (.seq (.region [
    { op := .mov (.const (.bool false)), dst := some 2 }])
  .ret) .skip))
  (.seq (.seq (.region [
    { op := .mov (.var 0) },
    { op := .lenL (.loc 0), dst := some 5 },
    { op := .mov (.const (.int .i64 0)), dst := some 6 }])
  (.block 0 (.loop (.seq (.region [
    { op := .bin .lss (.var 6) (.var 5), dst := some 7 }])
  (.seq (.cond (.var 7) .skip (.exit 0))
  (.seq (.block 1 (.seq (.region [
    { op := .mov (.var 6) },
    { op := .mov (.loc 0), dst := some 3 }])
  (.seq (.region [
    { op := .mov (.var 0) },
    { op := .mov (.var 3) },
    { op := .iaddr 1 (.loc 0) (.loc 1) },
    { op := .load 1 false (.loc 2) },
    { op := .mov (.var 1) },
    { op := .mov (.var 3) },
    { op := .iaddr 1 (.loc 4) (.loc 5) },
    { op := .load 1 false (.loc 6) },
    { op := .bin .neq (.loc 3) (.loc 7), dst := some 8 }])
  (.cond (.var 8) (.seq (.region [
    { op := .mov (.const (.bool false)), dst := some 2 }])
  .ret) .skip))))
  (.region [
    { op := .bin .add (.var 6) (.const (.int .i64 1)) },
    { op := .mov (.loc 0), dst := some 6 }])))))))
  (.seq (.region [
    { op := .mov (.const (.bool true)), dst := some 2 }])
  .ret)))) }

/-- raddle/syntax.Right -/
def a62 : AFun := { nargs := 1, ps := [0, 2, 3, 4, 5, 6, 14, 15, 16, 17, 18, 32, 45], res := [.var 1], body :=
  (.seq (.region [
    { op := .mov (.const (.bool false)), dst := some 1 }])
  (.seq (.seq (.region [
    { op := .mov (.var 0) },
    { op := .lenL (.loc 0) },
    { op := .bin .lss (.loc 1) (.const (.int .i64 1)) },
    { op := .mov (.loc 2) },
    { op := .mov (.var 0), guard := some (3, false) },
    { op := .lenL (.loc 4), guard := some (3, false) },
    { op := .bin .gtr (.loc 5) (.const (.int .i64 1024)), guard := some (3, false) },
    { op := .pick (.loc 3) (.const (.bool true)) (.loc 6), dst := some 6 }])
  (.cond (.var 6) (.seq (.region [
    { op := .mov (.const (.bool false)), dst := some 1 }])
  .ret) .skip))
  (.seq (.region [
    { op := .mov (.const (.nilsl)), dst := some 2 }])
  (.seq (.seq (.region [
    { op := .mov (.var 0), dst := some 7 },
    { op := .lenL (.loc 0), dst := some 8 },
    { op := .mov (.const (.int .i64 0)), dst := some 9 }])
  (.block 0 (.loop (.seq (.region [
    { op := .bin .lss (.var 9) (.var 8), dst := some 10 }])
  (.seq (.cond (.var 10) .skip (.exit 0))
  (.seq (.block 1 (.seq (.region [
    { op := .mov (.var 9) },
    { op := .iaddr 9 (.var 7) (.var 9) },
    { op := .load 9 true (.loc 1) },
    { op := .alloc [.int .u8 0, .int .u64 0, .int .u64 0, .int .u64 0, .int .u64 0, .nilsl, .int .i64 0, .int .i64 0, .str []], dst := some 4 },
    { op := .mov (.loc 0), dst := some 3 },
    { op := .store 9 (.loc 3) (.loc 2) }])
  (.seq (.seq (.region [
    { op := .load 9 true (.var 4) },
    { op := .call 82 [.loc 0] },
    { op := .un .not (.loc 1) },
    { op := .mov (.loc 2) },
    { op := .mov (.var 2), guard := some (3, false) },
    { op := .lenL (.loc 4), guard := some (3, false) },
    { op := .faddr 5 (.var 4), guard := some (3, false) },
    { op := .load 1 false (.loc 6), guard := some (3, false) },
    { op := .lenL (.loc 7), guard := some (3, false) },
    { op := .bin .lss (.loc 5) (.loc 8), guard := some (3, false) },
    { op := .pick (.loc 3) (.const (.bool true)) (.loc 9), dst := some 11 }])
  (.cond (.var 11) (.seq (.region [
    { op := .mov (.const (.bool false)), dst := some 1 }])
  .ret) .skip))
  (.seq (.region [
    { op := .mov (.var 2) },
    { op := .lenL (.loc 0) },
    { op := .faddr 5 (.var 4) },
    { op := .load 1 false (.loc 2) },
    { op := .lenL (.loc 3) },
    { op := .bin .sub (.loc 1) (.loc 4) },
    { op := .mov (.loc 5), dst := some 5 }])
  (.seq (.seq (.region [
    { op := .mov (.var 2) },
    { op := .mov (.var 5) },
    { op := .slsl 1 (.loc 0) (some (.loc 1)) none none },
    { op := .faddr 5 (.var 4) },
    { op := .load 1 false (.loc 3) },
    { op := .call 83 [.loc 2, .loc 4] },
    { op := .un .not (.loc 5), dst := some 12 }])
  (.cond (.var 12) (.seq (.region [
    { op := .mov (.const (.bool false)), dst := some 1 }])
  .ret) .skip))
  (.region [
    { op := .mov (.var 2) },
    { op := .mov (.var 5) },
    { op := .slsl 1 (.loc 0) none (some (.loc 1)) none },
    { op := .mov (.var 3) },
    { op := .mkslice 1 1 [.int .i64 0] [(0, 1, .loc 3)] },
    { op := .append 1 8 false (.loc 2) (.loc 4) },
    { op := .mov (.loc 5), dst := some 2 }]))))))
  (.region [
    { op := .bin .add (.var 9) (.const (.int .i64 1)) },
    { op := .mov (.loc 0), dst := some 9 }])))))))
  (.seq (.region [
    { op := .mov (.var 2) },
    { op := .lenL (.loc 0) },
    { op := .bin .eql (.loc 1) (.const (.int .i64 1)) },
    { op := .mov (.loc 2), dst := some 1 }])
  .ret))))) }

/-- raddle/norm.Right -/
def a63 : AFun := { nargs := 1, ps := [0, 2, 3, 5, 7, 8, 9, 10, 28], res := [.var 1], body :=
  (.seq (.region [
    { op := .mov (.const (.bool false)), dst := some 1 }])
  (.seq (.region [
    { op := .mkmap },
    { op := .mov (.loc 0), dst := some 2 }])
  (.seq (.seq (.region [
    { op := .mov (.var 0), dst := some 4 },
    { op := .lenL (.loc 0), dst := some 5 },
    { op := .mov (.const (.int .i64 0)), dst := some 6 }])
  (.block 0 (.loop (.seq (.region [
    { op := .bin .lss (.var 6) (.var 5), dst := some 7 }])
  (.seq (.cond (.var 7) .skip (.exit 0))
  (.seq (.block 1 (.seq (.region [
    { op := .iaddr 2 (.var 4) (.var 6) },
    { op := .load 2 true (.loc 0) },
    { op := .alloc [.str [], .nilsl], dst := some 3 },
    { op := .store 2 (.loc 2) (.loc 1) }])
  (.seq (.seq (.region [
    { op := .mov (.var 2) },
    { op := .faddr 0 (.var 3) },
    { op := .load 1 false (.loc 1) },
    { op := .lookup .str (.bool false) (.loc 0) (.loc 2) false },
    { op := .mov (.loc 3) },
    { op := .faddr 0 (.var 3), guard := some (4, false) },
    { op := .load 1 false (.loc 5), guard := some (4, false) },
    { op := .call 84 [.loc 6], guard := some (4, false) },
    { op := .un .not (.loc 7), guard := some (4, false) },
    { op := .pick (.loc 4) (.const (.bool true)) (.loc 8) },
    { op := .mov (.loc 9) },
    { op := .faddr 1 (.var 3), guard := some (10, false) },
    { op := .load 1 false (.loc 11), guard := some (10, false) },
    { op := .call 62 [.loc 12], guard := some (10, false) },
    { op := .un .not (.loc 13), guard := some (10, false) },
    { op := .pick (.loc 10) (.const (.bool true)) (.loc 14), dst := some 8 }])
  (.cond (.var 8) (.seq (.region [
    { op := .mov (.const (.bool false)), dst := some 1 }])
  .ret) .skip))
  (.region [
    { op := .mov (.var 2) },
    { op := .faddr 0 (.var 3) },
    { op := .load 1 false (.loc 1) },
    { op := .mapset .str (.loc 0) (.loc 2) (.const (.bool true)) }]))))
  (.region [
    { op := .bin .add (.var 6) (.const (.int .i64 1)) },
    { op := .mov (.loc 0), dst := some 6 }])))))))
  (.seq (.region [
    { op := .mov (.const (.bool true)), dst := some 1 }])
  .ret)))) }

/-- (*raddle/norm.expander).name -/
def a85 : AFun := { nargs := 2, ps := [0, 1, 4, 5, 6, 7, 17, 20], res := [.var 2, .var 3], body :=
  (.seq (.region [
    { op := .mov (.const (.int .i64 0)), dst := some 2 },
    { op := .mov (.const (.int .i64 0)), dst := some 3 }])
  (.seq (.region [
    { op := .mov (.var 0) },
    { op := .nilchk (.loc 0) },
    { op := .faddr 0 (.loc 1) },
    { op := .load 1 false (.loc 2) },
    { op := .mov (.var 1) },
    { op := .lookup .str (.nilsl) (.loc 3) (.loc 4) true },
    { op := .mov (.loc 5) },
    { op := .extract 0 (.loc 6) },
    { op := .extract 1 (.loc 6) },
    { op := .mov (.loc 7), dst := some 4 },
    { op := .mov (.loc 8), dst := some 5 }])
  (.seq (.block 0 (.seq (.region [
    { op := .mov (.var 5) },
    { op := .un .not (.loc 0) },
    { op := .mov (.loc 1), dst := some 6 }])
  (.cond (.var 6) (.seq (.region [
    { op := .mov (.const (.int .i64 0)), dst := some 2 },
    { op := .mov (.const (.int .i64 60)), dst := some 3 }])
  .ret) (.seq (.region [
    { op := .mov (.var 0) },
    { op := .nilchk (.loc 0) },
    { op := .faddr 1 (.loc 1) },
    { op := .load 1 false (.loc 2) },
    { op := .mov (.var 1) },
    { op := .lookup .str (.bool false) (.loc 3) (.loc 4) false },
    { op := .mov (.loc 5), dst := some 7 }])
  (.cond (.var 7) (.seq (.region [
    { op := .mov (.const (.int .i64 0)), dst := some 2 },
    { op := .mov (.const (.int .i64 61)), dst := some 3 }])
  .ret) .skip)))))
  (.seq (.region [
    { op := .mov (.var 0) },
    { op := .nilchk (.loc 0) },
    { op := .faddr 1 (.loc 1) },
    { op := .load 1 false (.loc 2) },
    { op := .mov (.var 1) },
    { op := .mapset .str (.loc 3) (.loc 4) (.const (.bool true)) }])
  (.seq (.region [
    { op := .mov (.var 0) },
    { op := .nilchk (.loc 0) },
    { op := .faddr 1 (.loc 1) },
    { op := .load 1 false (.loc 2) },
    { op := .mov (.var 1) },
    { op := .stop }])
  (.seq (.region [
    { op := .mov (.var 0) },
    { op := .mov (.var 4) },
    { op := .call 64 [.loc 0, .loc 1] },
    { op := .extract 0 (.loc 2) },
    { op := .extract 1 (.loc 2) },
    { op := .mov (.loc 3), dst := some 2 },
    { op := .mov (.loc 4), dst := some 3 }])
  .ret)))))) }

/-- slices.Clone[[]int,int] -/
def a97 : AFun := { nargs := 1, ps := [0, 2, 4], res := [.var 1], body :=
  (.seq (.region [
    { op := .mov (.const (.nilsl)), dst := some 1 }])
  (.seq (.seq (.region [
    { op := .mov (.var 0) },
    { op := .eqnil false .slice (.loc 0) (.const (.nilsl)), dst := some 2 }])
  (.cond (.var 2) (.seq (.region [
    { op := .mov (.const (.nilsl)), dst := some 1 }])
  .ret) .skip))
  (.seq (.region [
    { op := .mkslice 1 0 [.int .i64 0] [] },
    { op := .mov (.var 0) },
    { op := .append 1 8 false (.loc 0) (.loc 1) },
    { op := .mov (.loc 2), dst := some 1 }])
  .ret))) }

/-- (*raddle/norm.expander).put -/
def a86 : AFun := { nargs := 3, ps := [0, 1, 2, 4, 6, 7, 8, 9, 15, 21, 22, 23, 24], res := [.var 4, .var 5], body :=
  (.seq (.region [
    { op := .box (.var 1), dst := some 3 },
    { op := .mov (.const (.int .i64 0)), dst := some 4 },
    { op := .mov (.const (.int .i64 0)), dst := some 5 }])
  (.seq (.seq (.region [
    { op := .mov (.var 0) },
    { op := .nilchk (.loc 0) },
    { op := .faddr 2 (.loc 1) },
    { op := .load 1 false (.loc 2) },
    { op := .lenL (.loc 3) },
    { op := .bin .geq (.loc 4) (.const (.int .i64 1024)), dst := some 8 }])
  (.cond (.var 8) (.seq (.region [
    { op := .mov (.const (.int .i64 0)), dst := some 4 },
    { op := .mov (.const (.int .i64 3)), dst := some 5 }])
  .ret) .skip))
  (.seq (.region [
    { op := .faddr 5 (.var 3) },
    { op := .load 1 false (.loc 0) },
    { op := .call 97 [.loc 1] },
    { op := .faddr 5 (.var 3) },
    { op := .store 1 (.loc 3) (.loc 2) }])
  (.seq (.seq (.region [
    { op := .faddr 5 (.var 3) },
    { op := .load 1 false (.loc 0), dst := some 9 },
    { op := .lenL (.loc 1), dst := some 10 },
    { op := .mov (.const (.int .i64 0)), dst := some 11 }])
  (.block 0 (.loop (.seq (.region [
    { op := .bin .lss (.var 11) (.var 10), dst := some 12 }])
  (.seq (.cond (.var 12) .skip (.exit 0))
  (.seq (.block 1 (.seq (.region [
    { op := .mov (.var 11) },
    { op := .iaddr 1 (.var 9) (.var 11) },
    { op := .load 1 false (.loc 1) },
    { op := .mov (.loc 0), dst := some 6 },
    { op := .mov (.loc 2), dst := some 7 }])
  (.region [
    { op := .faddr 5 (.var 3) },
    { op := .load 1 false (.loc 0) },
    { op := .mov (.var 6) },
    { op := .mov (.var 2) },
    { op := .mov (.var 7) },
    { op := .iaddr 1 (.loc 3) (.loc 4) },
    { op := .load 1 false (.loc 5) },
    { op := .iaddr 1 (.loc 1) (.loc 2) },
    { op := .store 1 (.loc 7) (.loc 6) }])))
  (.region [
    { op := .bin .add (.var 11) (.const (.int .i64 1)) },
    { op := .mov (.loc 0), dst := some 11 }])))))))
  (.seq (.region [
    { op := .mov (.var 0) },
    { op := .mov (.var 0) },
    { op := .nilchk (.loc 1) },
    { op := .faddr 2 (.loc 2) },
    { op := .load 1 false (.loc 3) },
    { op := .load 9 true (.var 3) },
    { op := .mkslice 9 1 [.int .u8 0, .int .u64 0, .int .u64 0, .int .u64 0, .int .u64 0, .nilsl, .int .i64 0, .int .i64 0, .str []] [(0, 9, .loc 5)] },
    { op := .append 9 96 false (.loc 4) (.loc 6) },
    { op := .nilchk (.loc 0) },
    { op := .faddr 2 (.loc 8) },
    { op := .store 1 (.loc 9) (.loc 7) }])
  (.seq (.region [
    { op := .mov (.var 0) },
    { op := .nilchk (.loc 0) },
    { op := .faddr 2 (.loc 1) },
    { op := .load 1 false (.loc 2) },
    { op := .lenL (.loc 3) },
    { op := .bin .sub (.loc 4) (.const (.int .i64 1)) },
    { op := .mov (.loc 5), dst := some 4 },
    { op := .mov (.const (.int .i64 0)), dst := some 5 }])
  .ret)))))) }

/-- (*raddle/norm.expander).tree -/
def a64 : AFun := { nargs := 2, ps := [0, 1, 4, 5, 6, 7, 8, 9, 13, 14, 15, 16, 22, 44], res := [.var 2, .var 3], body :=
  (.seq (.region [
    { op := .mov (.const (.int .i64 0)), dst := some 2 },
    { op := .mov (.const (.int .i64 0)), dst := some 3 }])
  (.seq (.region [
    { op := .mov (.var 1) },
    { op := .lenL (.loc 0) },
    { op := .make 1 8 [.int .i64 0] (.loc 1) (.loc 1) },
    { op := .mov (.loc 2), dst := some 4 }])
  (.seq (.seq (.region [
    { op := .mov (.var 1), dst := some 8 },
    { op := .lenL (.loc 0), dst := some 9 },
    { op := .mov (.const (.int .i64 0)), dst := some 10 }])
  (.block 0 (.loop (.seq (.region [
    { op := .bin .lss (.var 10) (.var 9), dst := some 11 }])
  (.seq (.cond (.var 11) .skip (.exit 0))
  (.seq (.block 1 (.seq (.region [
    { op := .mov (.var 10) },
    { op := .iaddr 9 (.var 8) (.var 10) },
    { op := .load 9 true (.loc 1) },
    { op := .alloc [.int .u8 0, .int .u64 0, .int .u64 0, .int .u64 0, .int .u64 0, .nilsl, .int .i64 0, .int .i64 0, .str []], dst := some 6 },
    { op := .mov (.loc 0), dst := some 5 },
    { op := .store 9 (.loc 3) (.loc 2) }])
  (.seq (.region [
    { op := .mov (.const (.int .i64 0)), dst := some 7 }])
  (.seq (.seq (.region [
    { op := .faddr 0 (.var 6) },
    { op := .load 1 false (.loc 0) },
    { op := .bin .eql (.loc 1) (.const (.int .u8 6)), dst := some 12 }])
  (.cond (.var 12) (.region [
    { op := .mov (.var 4) },
    { op := .mov (.var 5) },
    { op := .mov (.var 0) },
    { op := .faddr 8 (.var 6) },
    { op := .load 1 false (.loc 3) },
    { op := .call 85 [.loc 2, .loc 4] },
    { op := .mov (.loc 5) },
    { op := .extract 0 (.loc 6) },
    { op := .extract 1 (.loc 6) },
    { op := .iaddr 1 (.loc 0) (.loc 1) },
    { op := .store 1 (.loc 9) (.loc 7) },
    { op := .mov (.loc 8), dst := some 7 }]) (.region [
    { op := .mov (.var 4) },
    { op := .mov (.var 5) },
    { op := .mov (.var 0) },
    { op := .load 9 true (.var 6) },
    { op := .mov (.var 4) },
    { op := .call 86 [.loc 2, .loc 3, .loc 4] },
    { op := .mov (.loc 5) },
    { op := .extract 0 (.loc 6) },
    { op := .extract 1 (.loc 6) },
    { op := .iaddr 1 (.loc 0) (.loc 1) },
    { op := .store 1 (.loc 9) (.loc 7) },
    { op := .mov (.loc 8), dst := some 7 }])))
  (.seq (.region [
    { op := .mov (.var 7) },
    { op := .bin .neq (.loc 0) (.const (.int .i64 0)), dst := some 13 }])
  (.cond (.var 13) (.seq (.region [
    { op := .mov (.var 7) },
    { op := .mov (.const (.int .i64 0)), dst := some 2 },
    { op := .mov (.loc 0), dst := some 3 }])
  .ret) .skip))))))
  (.region [
    { op := .bin .add (.var 10) (.const (.int .i64 1)) },
    { op := .mov (.loc 0), dst := some 10 }])))))))
  (.seq (.region [
    { op := .mov (.var 4) },
    { op := .mov (.var 1) },
    { op := .lenL (.loc 1) },
    { op := .bin .sub (.loc 2) (.const (.int .i64 1)) },
    { op := .iaddr 1 (.loc 0) (.loc 3) },
    { op := .load 1 false (.loc 4) },
    { op := .mov (.loc 5), dst := some 2 },
    { op := .mov (.const (.int .i64 0)), dst := some 3 }])
  .ret)))) }

/-- raddle/norm.Expand -/
def a53 : AFun := { nargs := 2, ps := [0, 1, 4, 5, 6, 8, 10, 18, 23, 24, 25, 26, 45], res := [.var 2, .var 3], body :=
  (.seq (.region [
    { op := .mov (.const (.nilsl)), dst := some 2 },
    { op := .mov (.const (.int .i64 0)), dst := some 3 }])
  (.seq (.seq (.region [
    { op := .mov (.var 0) },
    { op := .call 62 [.loc 0] },
    { op := .un .not (.loc 1) },
    { op := .mov (.loc 2) },
    { op := .mov (.var 1), guard := some (3, false) },
    { op := .call 63 [.loc 4], guard := some (3, false) },
    { op := .un .not (.loc 5), guard := some (3, false) },
    { op := .pick (.loc 3) (.const (.bool true)) (.loc 6), dst := some 7 }])
  (.cond (.var 7) (.seq (.region [
    { op := .mov (.const (.nilsl)), dst := some 2 },
    { op := .mov (.const (.int .i64 1)), dst := some 3 }])
  .ret) .skip))
  (.seq (.region [
    { op := .mkmap },
    { op := .mkmap },
    { op := .build [.nilmap, .nilmap, .nilsl] [(0, 1, .loc 0), (1, 1, .loc 1)] },
    { op := .box (.loc 2) },
    { op := .mov (.loc 3), dst := some 4 }])
  (.seq (.seq (.region [
    { op := .mov (.var 1), dst := some 8 },
    { op := .lenL (.loc 0), dst := some 9 },
    { op := .mov (.const (.int .i64 0)), dst := some 10 }])
  (.block 0 (.loop (.seq (.region [
    { op := .bin .lss (.var 10) (.var 9), dst := some 11 }])
  (.seq (.cond (.var 11) .skip (.exit 0))
  (.seq (.block 1 (.seq (.region [
    { op := .iaddr 2 (.var 8) (.var 10) },
    { op := .load 2 true (.loc 0) },
    { op := .alloc [.str [], .nilsl], dst := some 5 },
    { op := .store 2 (.loc 2) (.loc 1) }])
  (.region [
    { op := .mov (.var 4) },
    { op := .nilchk (.loc 0) },
    { op := .faddr 0 (.loc 1) },
    { op := .load 1 false (.loc 2) },
    { op := .faddr 0 (.var 5) },
    { op := .load 1 false (.loc 4) },
    { op := .faddr 1 (.var 5) },
    { op := .load 1 false (.loc 6) },
    { op := .mapset .str (.loc 3) (.loc 5) (.loc 7) }])))
  (.region [
    { op := .bin .add (.var 10) (.const (.int .i64 1)) },
    { op := .mov (.loc 0), dst := some 10 }])))))))
  (.seq (.seq (.region [
    { op := .mov (.var 4) },
    { op := .mov (.var 0) },
    { op := .call 64 [.loc 0, .loc 1] },
    { op := .mov (.loc 2) },
    { op := .extract 0 (.loc 3) },
    { op := .extract 1 (.loc 3) },
    { op := .mov (.loc 4) },
    { op := .mov (.loc 5), dst := some 6 }])
  (.seq (.region [
    { op := .mov (.var 6) },
    { op := .bin .neq (.loc 0) (.const (.int .i64 0)), dst := some 12 }])
  (.cond (.var 12) (.seq (.region [
    { op := .mov (.var 6) },
    { op := .mov (.const (.nilsl)), dst := some 2 },
    { op := .mov (.loc 0), dst := some 3 }])
  .ret) .skip)))
  (.seq (.region [
    { op := .mov (.var 4) },
    { op := .nilchk (.loc 0) },
    { op := .faddr 2 (.loc 1) },
    { op := .load 1 false (.loc 2) },
    { op := .mov (.loc 3), dst := some 2 },
    { op := .mov (.const (.int .i64 0)), dst := some 3 }])
  .ret)))))) }

/-- raddle/plan.plain -/
def a36 : AFun := { nargs := 1, ps := [0, 2, 4], res := [.var 1], body :=
  (.seq (.region [
    { op := .mov (.const (.bool false)), dst := some 1 }])
  (.seq (.region [
    { op := .mov (.var 0) },
    { op := .call 53 [.loc 0, .const (.nilsl)] },
    { op := .mov (.loc 1) },
    { op := .extract 0 (.loc 2) },
    { op := .extract 1 (.loc 2) },
    { op := .mov (.loc 3) },
    { op := .mov (.loc 4), dst := some 2 }])
  (.seq (.region [
    { op := .mov (.var 2) },
    { op := .bin .eql (.loc 0) (.const (.int .i64 0)) },
    { op := .mov (.loc 1), dst := some 1 }])
  .ret))) }

/-- raddle/plan.star -/
def a37 : AFun := { nargs := 1, ps := [0, 1, 2], res := [.var 2], body :=
  (.seq (.region [
    { op := .box (.var 0), dst := some 1 },
    { op := .mov (.const (.bool false)), dst := some 2 }])
  (.seq (.region [
    { op := .faddr 6 (.var 1) },
    { op := .load 1 false (.loc 0) },
    { op := .bin .eql (.loc 1) (.const (.int .i64 0)) },
    { op := .mov (.loc 2) },
    { op := .faddr 7 (.var 1), guard := some (3, true) },
    { op := .load 1 false (.loc 4), guard := some (3, true) },
    { op := .bin .eql (.loc 5) (.const (.int .i64 (-1))), guard := some (3, true) },
    { op := .pick (.loc 3) (.loc 6) (.const (.bool false)) },
    { op := .mov (.loc 7), dst := some 2 }])
  .ret)) }

/-- raddle/plan.Right -/
def a21 : AFun := { nargs := 1, ps := [0, 2, 4, 7, 8, 9, 10, 11, 42], res := [.var 1], body :=
  (.seq (.region [
    { op := .mov (.const (.bool false)), dst := some 1 }])
  (.seq (.seq (.region [
    { op := .mov (.var 0) },
    { op := .call 36 [.loc 0] },
    { op := .un .not (.loc 1), dst := some 3 }])
  (.cond (.var 3) (.seq (.region [
    { op := .mov (.const (.bool false)), dst := some 1 }])
  .ret) .skip))
  (.seq (.seq (.region [
    { op := .mov (.var 0), dst := some 4 },
    { op := .lenL (.loc 0), dst := some 5 },
    { op := .mov (.const (.int .i64 0)), dst := some 6 }])
  (.block 0 (.loop (.seq (.region [
    { op := .bin .lss (.var 6) (.var 5), dst := some 7 }])
  (.seq (.cond (.var 7) .skip (.exit 0))
  (.seq (.block 1 (.seq (.region [
    { op := .iaddr 9 (.var 4) (.var 6) },
    { op := .load 9 true (.loc 0) },
    { op := .alloc [.int .u8 0, .int .u64 0, .int .u64 0, .int .u64 0, .int .u64 0, .nilsl, .int .i64 0, .int .i64 0, .str []], dst := some 2 },
    { op := .store 9 (.loc 2) (.loc 1) }])
  (.seq (.region [
    { op := .faddr 0 (.var 2) },
    { op := .load 1 false (.loc 0) },
    { op := .bin .eql (.loc 1) (.const (.int .u8 5)) },
    { op := .mov (.loc 2) },
    { op := .load 9 true (.var 2), guard := some (3, true) },
    { op := .call 37 [.loc 4], guard := some (3, true) },
    { op := .un .not (.loc 5), guard := some (3, true) },
    { op := .pick (.loc 3) (.loc 6) (.const (.bool false)) },
    { op := .mov (.loc 7) },
    { op := .mov (.var 0), guard := some (8, true) },
    { op := .faddr 5 (.var 2), guard := some (8, true) },
    { op := .load 1 false (.loc 10), guard := some (8, true) },
    { op := .iaddr 1 (.loc 11) (.const (.int .i64 0)), guard := some (8, true) },
    { op := .load 1 false (.loc 12), guard := some (8, true) },
    { op := .iaddr 9 (.loc 9) (.loc 13), guard := some (8, true) },
    { op := .faddr 0 (.loc 14), guard := some (8, true) },
    { op := .load 1 false (.loc 15), guard := some (8, true) },
    { op := .bin .neq (.loc 16) (.const (.int .u8 2)), guard := some (8, true) },
    { op := .mov (.loc 17), guard := some (8, true) },
    { op := .faddr 6 (.var 2), guard := some (18, false) },
    { op := .load 1 false (.loc 19), guard := some (18, false) },
    { op := .bin .lss (.loc 20) (.const (.int .i64 1)), guard := some (18, false) },
    { op := .pick (.loc 18) (.const (.bool true)) (.loc 21), guard := some (8, true) },
    { op := .mov (.loc 22), guard := some (8, true) },
    { op := .faddr 7 (.var 2), guard := some (23, false) },
    { op := .load 1 false (.loc 24), guard := some (23, false) },
    { op := .bin .lss (.loc 25) (.const (.int .i64 2)), guard := some (23, false) },
    { op := .pick (.loc 23) (.const (.bool true)) (.loc 26), guard := some (8, true) },
    { op := .pick (.loc 8) (.loc 27) (.const (.bool false)), dst := some 8 }])
  (.cond (.var 8) (.seq (.region [
    { op := .mov (.const (.bool false)), dst := some 1 }])
  .ret) .skip))))
  (.region [
    { op := .bin .add (.var 6) (.const (.int .i64 1)) },
    { op := .mov (.loc 0), dst := some 6 }])))))))
  (.seq (.region [
    { op := .mov (.const (.bool true)), dst := some 1 }])
  .ret)))) }

/-- raddle/glush.Of$1 -/
def a20 : AFun := { nargs := 1, ps := [0, 2], res := [.var 1], body :=
  (.seq (.region [
    { op := .mov (.const (.bool false)), dst := some 1 }])
  (.seq (.region [
    { op := .mov (.var 0) },
    { op := .call 21 [.loc 0] },
    { op := .un .not (.loc 1) },
    { op := .mov (.loc 2), dst := some 1 }])
  .ret)) }

/-- (*raddle/glush.builder).put -/
def a38 : AFun := { nargs := 2, ps := [0, 1, 3, 4, 5], res := [.cell 3 3 true], body :=
  (.seq (.region [
    { op := .box (.var 1), dst := some 2 },
    { op := .alloc [.bool false, .nilsl, .nilsl], dst := some 3 }])
  (.seq (.region [
    { op := .mov (.var 0) },
    { op := .nilchk (.loc 0) },
    { op := .faddr 0 (.loc 1) },
    { op := .load 1 false (.loc 2) },
    { op := .lenL (.loc 3) },
    { op := .mkslice 1 1 [.int .i64 0] [(0, 1, .loc 4)] },
    { op := .mov (.loc 5), dst := some 4 }])
  (.seq (.region [
    { op := .mov (.var 0) },
    { op := .mov (.var 0) },
    { op := .nilchk (.loc 1) },
    { op := .faddr 0 (.loc 2) },
    { op := .load 1 false (.loc 3) },
    { op := .load 9 true (.var 2) },
    { op := .mkslice 9 1 [.int .u64 0, .int .u64 0, .int .u64 0, .int .u64 0, .int .i64 0, .int .i64 0, .int .i64 0, .bool false, .nilsl] [(0, 9, .loc 5)] },
    { op := .append 9 88 false (.loc 4) (.loc 6) },
    { op := .nilchk (.loc 0) },
    { op := .faddr 0 (.loc 8) },
    { op := .store 1 (.loc 9) (.loc 7) }])
  (.seq (.region [
    { op := .mov (.var 4) },
    { op := .mov (.var 4) },
    { op := .build [.bool false, .nilsl, .nilsl] [(1, 1, .loc 0), (2, 1, .loc 1)] },
    { op := .store 3 (.var 3) (.loc 2) }])
  .ret)))) }

/-- slices.Concat[[]int,int] -/
def a42 : AFun := { nargs := 1, ps := [0, 2, 3, 5, 6, 8, 9, 10, 11, 12, 20, 25, 26, 27, 28], res := [.var 1], body :=
  (.seq (.region [
    { op := .mov (.const (.nilsl)), dst := some 1 }])
  (.seq (.region [
    { op := .mov (.const (.int .i64 0)), dst := some 2 }])
  (.seq (.seq (.region [
    { op := .mov (.var 0), dst := some 6 },
    { op := .lenL (.loc 0), dst := some 7 },
    { op := .mov (.const (.int .i64 0)), dst := some 8 }])
  (.block 0 (.loop (.seq (.region [
    { op := .bin .lss (.var 8) (.var 7), dst := some 9 }])
  (.seq (.cond (.var 9) .skip (.exit 0))
  (.seq (.block 1 (.seq (.region [
    { op := .iaddr 1 (.var 6) (.var 8) },
    { op := .load 1 false (.loc 0) },
    { op := .mov (.loc 1), dst := some 3 }])
  (.seq (.region [
    { op := .mov (.var 2) },
    { op := .mov (.var 3) },
    { op := .lenL (.loc 1) },
    { op := .bin .add (.loc 0) (.loc 2) },
    { op := .mov (.loc 3), dst := some 2 }])
  (.seq (.region [
    { op := .mov (.var 2) },
    { op := .bin .lss (.loc 0) (.const (.int .i64 0)), dst := some 10 }])
  (.cond (.var 10) (.region [
    { op := .iface 9 (.const (.str [108, 101, 110, 32, 111, 117, 116, 32, 111, 102, 32, 114, 97, 110, 103, 101])) },
    { op := .stop }]) .skip)))))
  (.region [
    { op := .bin .add (.var 8) (.const (.int .i64 1)) },
    { op := .mov (.loc 0), dst := some 8 }])))))))
  (.seq (.region [
    { op := .mov (.var 2) },
    { op := .call 54 [.const (.nilsl), .loc 0] },
    { op := .mov (.loc 1), dst := some 4 }])
  (.seq (.seq (.region [
    { op := .mov (.var 0), dst := some 11 },
    { op := .lenL (.loc 0), dst := some 12 },
    { op := .mov (.const (.int .i64 0)), dst := some 13 }])
  (.block 2 (.loop (.seq (.region [
    { op := .bin .lss (.var 13) (.var 12), dst := some 14 }])
  (.seq (.cond (.var 14) .skip (.exit 2))
  (.seq (.block 3 (.seq (.region [
    { op := .iaddr 1 (.var 11) (.var 13) },
    { op := .load 1 false (.loc 0) },
    { op := .mov (.loc 1), dst := some 5 }])
  (.region [
    { op := .mov (.var 4) },
    { op := .mov (.var 5) },
    { op := .append 1 8 false (.loc 0) (.loc 1) },
    { op := .mov (.loc 2), dst := some 4 }])))
  (.region [
    { op := .bin .add (.var 13) (.const (.int .i64 1)) },
    { op := .mov (.loc 0), dst := some 13 }])))))))
  (.seq (.region [
    { op := .mov (.var 4) },
    { op := .mov (.loc 0), dst := some 1 }])
  .ret)))))) }

/-- slices.Compact[[]int,int] -/
def a44 : AFun := { nargs := 1, ps := [0, 2, 3, 4, 5, 8, 13, 25, 32, 44], res := [.var 1], body :=
  (.seq (.region [
    { op := .mov (.const (.nilsl)), dst := some 1 }])
  (.seq (.seq (.region [
    { op := .mov (.var 0) },
    { op := .lenL (.loc 0) },
    { op := .bin .lss (.loc 1) (.const (.int .i64 2)), dst := some 5 }])
  (.cond (.var 5) (.seq (.region [
    { op := .mov (.var 0) },
    { op := .mov (.loc 0), dst := some 1 }])
  .ret) .skip))
  (.seq (.seq (.region [
    { op := .mov (.const (.int .i64 1)), dst := some 2 }])
  (.block 0 (.loop (.seq (.seq (.region [
    { op := .mov (.var 2) },
    { op := .mov (.var 0) },
    { op := .lenL (.loc 1) },
    { op := .bin .lss (.loc 0) (.loc 2), dst := some 6 }])
  (.cond (.var 6) .skip (.exit 0)))
  (.seq (.block 1 (.seq (.region [
    { op := .mov (.var 0) },
    { op := .mov (.var 2) },
    { op := .iaddr 1 (.loc 0) (.loc 1) },
    { op := .load 1 false (.loc 2) },
    { op := .mov (.var 0) },
    { op := .mov (.var 2) },
    { op := .bin .sub (.loc 5) (.const (.int .i64 1)) },
    { op := .iaddr 1 (.loc 4) (.loc 6) },
    { op := .load 1 false (.loc 7) },
    { op := .bin .eql (.loc 3) (.loc 8), dst := some 7 }])
  (.cond (.var 7) (.seq (.region [
    { op := .mov (.var 0) },
    { op := .mov (.var 2) },
    { op := .slsl 1 (.loc 0) (some (.loc 1)) none none },
    { op := .mov (.loc 2), dst := some 3 }])
  (.seq (.seq (.region [
    { op := .mov (.const (.int .i64 1)), dst := some 4 }])
  (.block 2 (.loop (.seq (.seq (.region [
    { op := .mov (.var 4) },
    { op := .mov (.var 3) },
    { op := .lenL (.loc 1) },
    { op := .bin .lss (.loc 0) (.loc 2), dst := some 8 }])
  (.cond (.var 8) .skip (.exit 2)))
  (.seq (.block 3 (.seq (.region [
    { op := .mov (.var 3) },
    { op := .mov (.var 4) },
    { op := .iaddr 1 (.loc 0) (.loc 1) },
    { op := .load 1 false (.loc 2) },
    { op := .mov (.var 3) },
    { op := .mov (.var 4) },
    { op := .bin .sub (.loc 5) (.const (.int .i64 1)) },
    { op := .iaddr 1 (.loc 4) (.loc 6) },
    { op := .load 1 false (.loc 7) },
    { op := .bin .neq (.loc 3) (.loc 8), dst := some 9 }])
  (.cond (.var 9) (.seq (.region [
    { op := .mov (.var 0) },
    { op := .mov (.var 2) },
    { op := .mov (.var 3) },
    { op := .mov (.var 4) },
    { op := .iaddr 1 (.loc 2) (.loc 3) },
    { op := .load 1 false (.loc 4) },
    { op := .iaddr 1 (.loc 0) (.loc 1) },
    { op := .store 1 (.loc 6) (.loc 5) }])
  (.region [
    { op := .mov (.var 2) },
    { op := .bin .add (.loc 0) (.const (.int .i64 1)) },
    { op := .mov (.loc 1), dst := some 2 }])) .skip)))
  (.region [
    { op := .mov (.var 4) },
    { op := .bin .add (.loc 0) (.const (.int .i64 1)) },
    { op := .mov (.loc 1), dst := some 4 }]))))))
  (.seq (.region [
    { op := .mov (.var 0) },
    { op := .mov (.var 2) },
    { op := .slsl 1 (.loc 0) (some (.loc 1)) none none },
    { op := .clear [.int .i64 0] (.loc 2) }])
  (.seq (.region [
    { op := .mov (.var 0) },
    { op := .mov (.var 2) },
    { op := .slsl 1 (.loc 0) none (some (.loc 1)) none },
    { op := .mov (.loc 2), dst := some 1 }])
  .ret)))) .skip)))
  (.region [
    { op := .mov (.var 2) },
    { op := .bin .add (.loc 0) (.const (.int .i64 1)) },
    { op := .mov (.loc 1), dst := some 2 }]))))))
  (.seq (.region [
    { op := .mov (.var 0) },
    { op := .mov (.loc 0), dst := some 1 }])
  .ret)))) }

/-- raddle/glush.merge -/
def a23 : AFun := { nargs := 2, ps := [0, 1, 4, 5], res := [.var 2], body :=
  (.seq (.region [
    { op := .mov (.const (.nilsl)), dst := some 2 }])
  (.seq (.region [
    { op := .mov (.var 0) },
    { op := .mov (.var 1) },
    { op := .mkslice 1 2 [.nilsl] [(0, 1, .loc 0), (1, 1, .loc 1)] },
    { op := .call 42 [.loc 2] },
    { op := .mov (.loc 3), dst := some 3 }])
  (.seq (.region [
    { op := .mov (.var 3) },
    { op := .call 43 [.loc 0] }])
  (.seq (.region [
    { op := .mov (.var 3) },
    { op := .call 44 [.loc 0] },
    { op := .mov (.loc 1), dst := some 2 }])
  .ret)))) }

/-- (*raddle/glush.builder).link -/
def a39 : AFun := { nargs := 3, ps := [0, 1, 2, 7, 8, 9, 10, 11], res := [], body :=
  (.seq (.region [
    { op := .mov (.var 1), dst := some 4 },
    { op := .lenL (.loc 0), dst := some 5 },
    { op := .mov (.const (.int .i64 0)), dst := some 6 }])
  (.block 0 (.loop (.seq (.region [
    { op := .bin .lss (.var 6) (.var 5), dst := some 7 }])
  (.seq (.cond (.var 7) .skip (.exit 0))
  (.seq (.block 1 (.seq (.region [
    { op := .iaddr 1 (.var 4) (.var 6) },
    { op := .load 1 false (.loc 0) },
    { op := .mov (.loc 1), dst := some 3 }])
  (.region [
    { op := .mov (.var 0) },
    { op := .nilchk (.loc 0) },
    { op := .faddr 0 (.loc 1) },
    { op := .load 1 false (.loc 2) },
    { op := .mov (.var 3) },
    { op := .mov (.var 0) },
    { op := .nilchk (.loc 5) },
    { op := .faddr 0 (.loc 6) },
    { op := .load 1 false (.loc 7) },
    { op := .mov (.var 3) },
    { op := .iaddr 9 (.loc 8) (.loc 9) },
    { op := .faddr 8 (.loc 10) },
    { op := .load 1 false (.loc 11) },
    { op := .mov (.var 2) },
    { op := .call 23 [.loc 12, .loc 13], aft := [3] },
    { op := .iaddr 9 (.loc 3) (.loc 4) },
    { op := .faddr 8 (.loc 15) },
    { op := .store 1 (.loc 16) (.loc 14) }])))
  (.region [
    { op := .bin .add (.var 6) (.const (.int .i64 1)) },
    { op := .mov (.loc 0), dst := some 6 }]))))))) }

/-- (*raddle/glush.builder).then -/
def a40 : AFun := { nargs := 3, ps := [0, 1, 2, 4, 5, 6, 7, 26, 34], res := [.cell 5 3 true], body :=
  (.seq (.region [
    { op := .box (.var 1), dst := some 3 },
    { op := .box (.var 2), dst := some 4 },
    { op := .alloc [.bool false, .nilsl, .nilsl], dst := some 5 }])
  (.seq (.region [
    { op := .mov (.var 0) },
    { op := .faddr 2 (.var 3) },
    { op := .load 1 false (.loc 1) },
    { op := .faddr 1 (.var 4) },
    { op := .load 1 false (.loc 3) },
    { op := .call 39 [.loc 0, .loc 2, .loc 4] }])
  (.seq (.region [
    { op := .faddr 0 (.var 3) },
    { op := .load 1 false (.loc 0) },
    { op := .mov (.loc 1) },
    { op := .faddr 0 (.var 4), guard := some (2, true) },
    { op := .load 1 false (.loc 3), guard := some (2, true) },
    { op := .pick (.loc 2) (.loc 4) (.const (.bool false)) },
    { op := .faddr 1 (.var 3) },
    { op := .load 1 false (.loc 6) },
    { op := .faddr 2 (.var 4) },
    { op := .load 1 false (.loc 8) },
    { op := .build [.bool false, .nilsl, .nilsl] [(0, 1, .loc 5), (1, 1, .loc 7), (2, 1, .loc 9)] },
    { op := .alloc [.bool false, .nilsl, .nilsl], dst := some 6 },
    { op := .store 3 (.loc 11) (.loc 10) }])
  (.seq (.seq (.region [
    { op := .faddr 0 (.var 3) },
    { op := .load 1 false (.loc 0), dst := some 7 }])
  (.cond (.var 7) (.region [
    { op := .faddr 1 (.var 3) },
    { op := .load 1 false (.loc 0) },
    { op := .faddr 1 (.var 4) },
    { op := .load 1 false (.loc 2) },
    { op := .call 23 [.loc 1, .loc 3] },
    { op := .faddr 1 (.var 6) },
    { op := .store 1 (.loc 5) (.loc 4) }]) .skip))
  (.seq (.seq (.region [
    { op := .faddr 0 (.var 4) },
    { op := .load 1 false (.loc 0), dst := some 8 }])
  (.cond (.var 8) (.region [
    { op := .faddr 2 (.var 3) },
    { op := .load 1 false (.loc 0) },
    { op := .faddr 2 (.var 4) },
    { op := .load 1 false (.loc 2) },
    { op := .call 23 [.loc 1, .loc 3] },
    { op := .faddr 2 (.var 6) },
    { op := .store 1 (.loc 5) (.loc 4) }]) .skip))
  (.seq (.region [
    { op := .load 3 true (.var 6) },
    { op := .store 3 (.var 5) (.loc 0) }])
  .ret)))))) }

/-- raddle/glush.or -/
def a41 : AFun := { nargs := 2, ps := [0, 1, 2, 3, 4], res := [.cell 4 3 true], body :=
  (.seq (.region [
    { op := .box (.var 0), dst := some 2 },
    { op := .box (.var 1), dst := some 3 },
    { op := .alloc [.bool false, .nilsl, .nilsl], dst := some 4 }])
  (.seq (.region [
    { op := .faddr 0 (.var 2) },
    { op := .load 1 false (.loc 0) },
    { op := .mov (.loc 1) },
    { op := .faddr 0 (.var 3), guard := some (2, false) },
    { op := .load 1 false (.loc 3), guard := some (2, false) },
    { op := .pick (.loc 2) (.const (.bool true)) (.loc 4) },
    { op := .faddr 1 (.var 2) },
    { op := .load 1 false (.loc 6) },
    { op := .faddr 1 (.var 3) },
    { op := .load 1 false (.loc 8) },
    { op := .call 23 [.loc 7, .loc 9], aft := [4] },
    { op := .faddr 2 (.var 2) },
    { op := .load 1 false (.loc 11), bef := [10] },
    { op := .faddr 2 (.var 3) },
    { op := .load 1 false (.loc 13), bef := [10] },
    { op := .call 23 [.loc 12, .loc 14], aft := [4] },
    { op := .build [.bool false, .nilsl, .nilsl] [(0, 1, .loc 5), (1, 1, .loc 10), (2, 1, .loc 15)] },
    { op := .store 3 (.var 4) (.loc 16) }])
  .ret)) }

/-- (*raddle/glush.builder).tree -/
def a22 : AFun := { nargs := 3, ps := [0, 1, 2, 6, 7, 9, 10, 11, 12, 13, 15, 17, 21, 22, 23, 24, 34, 45, 46, 47, 48, 53, 54, 55, 56, 72, 80, 100, 104, 132, 154, 163, 164, 165, 166], res := [.cell 3 3 true], body :=
  (.seq (.region [
    { op := .alloc [.bool false, .nilsl, .nilsl], dst := some 3 }])
  (.seq (.region [
    { op := .mov (.var 1) },
    { op := .lenL (.loc 0) },
    { op := .make 1 1 [.bool false] (.loc 1) (.loc 1) },
    { op := .mov (.loc 2), dst := some 4 }])
  (.seq (.seq (.region [
    { op := .mov (.var 1), dst := some 12 },
    { op := .lenL (.loc 0), dst := some 13 },
    { op := .mov (.const (.int .i64 0)), dst := some 14 }])
  (.block 0 (.loop (.seq (.region [
    { op := .bin .lss (.var 14) (.var 13), dst := some 15 }])
  (.seq (.cond (.var 15) .skip (.exit 0))
  (.seq (.block 1 (.seq (.region [
    { op := .iaddr 9 (.var 12) (.var 14) },
    { op := .load 9 true (.loc 0) },
    { op := .alloc [.int .u8 0, .int .u64 0, .int .u64 0, .int .u64 0, .int .u64 0, .nilsl, .int .i64 0, .int .i64 0, .str []], dst := some 5 },
    { op := .store 9 (.loc 2) (.loc 1) }])
  (.seq (.region [
    { op := .faddr 0 (.var 5) },
    { op := .load 1 false (.loc 0) },
    { op := .bin .eql (.loc 1) (.const (.int .u8 5)) },
    { op := .mov (.loc 2) },
    { op := .faddr 7 (.var 5), guard := some (3, true) },
    { op := .load 1 false (.loc 4), guard := some (3, true) },
    { op := .bin .gtr (.loc 5) (.const (.int .i64 0)), guard := some (3, true) },
    { op := .pick (.loc 3) (.loc 6) (.const (.bool false)), dst := some 16 }])
  (.cond (.var 16) (.region [
    { op := .mov (.var 4) },
    { op := .faddr 5 (.var 5) },
    { op := .load 1 false (.loc 1) },
    { op := .iaddr 1 (.loc 2) (.const (.int .i64 0)) },
    { op := .load 1 false (.loc 3) },
    { op := .iaddr 1 (.loc 0) (.loc 4) },
    { op := .store 1 (.loc 5) (.const (.bool true)) }]) .skip))))
  (.region [
    { op := .bin .add (.var 14) (.const (.int .i64 1)) },
    { op := .mov (.loc 0), dst := some 14 }])))))))
  (.seq (.region [
    { op := .mov (.var 1) },
    { op := .lenL (.loc 0) },
    { op := .make 3 56 [.bool false, .nilsl, .nilsl] (.loc 1) (.loc 1) },
    { op := .mov (.loc 2), dst := some 6 }])
  (.seq (.seq (.region [
    { op := .mov (.var 1), dst := some 17 },
    { op := .lenL (.loc 0), dst := some 18 },
    { op := .mov (.const (.int .i64 0)), dst := some 19 }])
  (.block 2 (.loop (.seq (.region [
    { op := .bin .lss (.var 19) (.var 18), dst := some 20 }])
  (.seq (.cond (.var 20) .skip (.exit 2))
  (.seq (.block 3 (.seq (.region [
    { op := .mov (.var 19) },
    { op := .iaddr 9 (.var 17) (.var 19) },
    { op := .load 9 true (.loc 1) },
    { op := .alloc [.int .u8 0, .int .u64 0, .int .u64 0, .int .u64 0, .int .u64 0, .nilsl, .int .i64 0, .int .i64 0, .str []], dst := some 8 },
    { op := .mov (.loc 0), dst := some 7 },
    { op := .store 9 (.loc 3) (.loc 2) }])
  (.block 4 (.seq (.region [
    { op := .faddr 0 (.var 8) },
    { op := .load 1 false (.loc 0) },
    { op := .bin .eql (.loc 1) (.const (.int .u8 1)) },
    { op := .mov (.loc 2), dst := some 25 }])
  (.cond (.var 25) (.region [
    { op := .mov (.var 6) },
    { op := .mov (.var 7) },
    { op := .build [.bool false, .nilsl, .nilsl] [(0, 1, .const (.bool true))] },
    { op := .iaddr 3 (.loc 0) (.loc 1) },
    { op := .store 3 (.loc 3) (.loc 2) }]) (.seq (.region [
    { op := .faddr 0 (.var 8) },
    { op := .load 1 false (.loc 0) },
    { op := .bin .eql (.loc 1) (.const (.int .u8 2)) },
    { op := .mov (.loc 2) },
    { op := .mov (.var 4), guard := some (3, true) },
    { op := .mov (.var 7), guard := some (3, true) },
    { op := .iaddr 1 (.loc 4) (.loc 5), guard := some (3, true) },
    { op := .load 1 false (.loc 6), guard := some (3, true) },
    { op := .un .not (.loc 7), guard := some (3, true) },
    { op := .pick (.loc 3) (.loc 8) (.const (.bool false)) },
    { op := .mov (.loc 9), dst := some 26 }])
  (.cond (.var 26) (.region [
    { op := .mov (.var 6) },
    { op := .mov (.var 7) },
    { op := .mov (.var 0) },
    { op := .faddr 1 (.var 8) },
    { op := .load 4 true (.loc 3) },
    { op := .mov (.var 2) },
    { op := .build [.int .u64 0, .int .u64 0, .int .u64 0, .int .u64 0, .int .i64 0, .int .i64 0, .int .i64 0, .bool false, .nilsl] [(0, 4, .loc 4), (4, 1, .const (.int .i64 1)), (5, 1, .const (.int .i64 1)), (6, 1, .loc 5)] },
    { op := .call 38 [.loc 2, .loc 6] },
    { op := .iaddr 3 (.loc 0) (.loc 1) },
    { op := .store 3 (.loc 8) (.loc 7) }]) (.seq (.region [
    { op := .faddr 0 (.var 8) },
    { op := .load 1 false (.loc 0) },
    { op := .bin .eql (.loc 1) (.const (.int .u8 2)) },
    { op := .mov (.loc 2), dst := some 27 }])
  (.cond (.var 27) .skip (.seq (.region [
    { op := .faddr 0 (.var 8) },
    { op := .load 1 false (.loc 0) },
    { op := .bin .eql (.loc 1) (.const (.int .u8 5)) },
    { op := .mov (.loc 2) },
    { op := .faddr 7 (.var 8), guard := some (3, true) },
    { op := .load 1 false (.loc 4), guard := some (3, true) },
    { op := .bin .gtr (.loc 5) (.const (.int .i64 0)), guard := some (3, true) },
    { op := .pick (.loc 3) (.loc 6) (.const (.bool false)) },
    { op := .mov (.loc 7), dst := some 28 }])
  (.cond (.var 28) (.region [
    { op := .mov (.var 6) },
    { op := .mov (.var 7) },
    { op := .mov (.var 0) },
    { op := .mov (.var 1) },
    { op := .faddr 5 (.var 8) },
    { op := .load 1 false (.loc 4) },
    { op := .iaddr 1 (.loc 5) (.const (.int .i64 0)) },
    { op := .load 1 false (.loc 6) },
    { op := .iaddr 9 (.loc 3) (.loc 7) },
    { op := .faddr 1 (.loc 8) },
    { op := .load 4 true (.loc 9) },
    { op := .faddr 6 (.var 8) },
    { op := .load 1 false (.loc 11) },
    { op := .faddr 7 (.var 8) },
    { op := .load 1 false (.loc 13) },
    { op := .mov (.var 2) },
    { op := .build [.int .u64 0, .int .u64 0, .int .u64 0, .int .u64 0, .int .i64 0, .int .i64 0, .int .i64 0, .bool false, .nilsl] [(0, 4, .loc 10), (4, 1, .loc 12), (5, 1, .loc 14), (6, 1, .loc 15)] },
    { op := .call 38 [.loc 2, .loc 16] },
    { op := .iaddr 3 (.loc 0) (.loc 1) },
    { op := .store 3 (.loc 18) (.loc 17) }]) (.seq (.region [
    { op := .faddr 0 (.var 8) },
    { op := .load 1 false (.loc 0) },
    { op := .bin .eql (.loc 1) (.const (.int .u8 5)) },
    { op := .mov (.loc 2), dst := some 29 }])
  (.cond (.var 29) (.seq (.region [
    { op := .mov (.var 6) },
    { op := .faddr 5 (.var 8) },
    { op := .load 1 false (.loc 1) },
    { op := .iaddr 1 (.loc 2) (.const (.int .i64 0)) },
    { op := .load 1 false (.loc 3) },
    { op := .iaddr 3 (.loc 0) (.loc 4) },
    { op := .load 3 true (.loc 5) },
    { op := .alloc [.bool false, .nilsl, .nilsl], dst := some 9 },
    { op := .store 3 (.loc 7) (.loc 6) }])
  (.seq (.region [
    { op := .mov (.var 0) },
    { op := .faddr 2 (.var 9) },
    { op := .load 1 false (.loc 1) },
    { op := .faddr 1 (.var 9) },
    { op := .load 1 false (.loc 3) },
    { op := .call 39 [.loc 0, .loc 2, .loc 4] }])
  (.seq (.region [
    { op := .faddr 0 (.var 9) },
    { op := .store 1 (.loc 0) (.const (.bool true)) }])
  (.region [
    { op := .mov (.var 6) },
    { op := .mov (.var 7) },
    { op := .load 3 true (.var 9) },
    { op := .iaddr 3 (.loc 0) (.loc 1) },
    { op := .store 3 (.loc 3) (.loc 2) }])))) (.seq (.region [
    { op := .faddr 0 (.var 8) },
    { op := .load 1 false (.loc 0) },
    { op := .bin .eql (.loc 1) (.const (.int .u8 3)) },
    { op := .mov (.loc 2), dst := some 30 }])
  (.cond (.var 30) (.seq (.region [
    { op := .mov (.var 6) },
    { op := .mov (.var 7) },
    { op := .build [.bool false, .nilsl, .nilsl] [(0, 1, .const (.bool true))] },
    { op := .iaddr 3 (.loc 0) (.loc 1) },
    { op := .store 3 (.loc 3) (.loc 2) }])
  (.seq (.region [
    { op := .faddr 5 (.var 8) },
    { op := .load 1 false (.loc 0), dst := some 31 },
    { op := .lenL (.loc 1), dst := some 32 },
    { op := .mov (.const (.int .i64 0)), dst := some 33 }])
  (.block 7 (.loop (.seq (.region [
    { op := .bin .lss (.var 33) (.var 32), dst := some 34 }])
  (.seq (.cond (.var 34) .skip (.exit 7))
  (.seq (.block 8 (.seq (.region [
    { op := .iaddr 1 (.var 31) (.var 33) },
    { op := .load 1 false (.loc 0) },
    { op := .mov (.loc 1), dst := some 10 }])
  (.region [
    { op := .mov (.var 6) },
    { op := .mov (.var 7) },
    { op := .mov (.var 0) },
    { op := .mov (.var 6) },
    { op := .mov (.var 7) },
    { op := .iaddr 3 (.loc 3) (.loc 4) },
    { op := .load 3 true (.loc 5) },
    { op := .mov (.var 6) },
    { op := .mov (.var 10) },
    { op := .iaddr 3 (.loc 7) (.loc 8) },
    { op := .load 3 true (.loc 9) },
    { op := .call 40 [.loc 2, .loc 6, .loc 10] },
    { op := .iaddr 3 (.loc 0) (.loc 1) },
    { op := .store 3 (.loc 12) (.loc 11) }])))
  (.region [
    { op := .bin .add (.var 33) (.const (.int .i64 1)) },
    { op := .mov (.loc 0), dst := some 33 }])))))))) (.seq (.region [
    { op := .faddr 5 (.var 8) },
    { op := .load 1 false (.loc 0), dst := some 21 },
    { op := .lenL (.loc 1), dst := some 22 },
    { op := .mov (.const (.int .i64 0)), dst := some 23 }])
  (.block 5 (.loop (.seq (.region [
    { op := .bin .lss (.var 23) (.var 22), dst := some 24 }])
  (.seq (.cond (.var 24) .skip (.exit 5))
  (.seq (.block 6 (.seq (.region [
    { op := .iaddr 1 (.var 21) (.var 23) },
    { op := .load 1 false (.loc 0) },
    { op := .mov (.loc 1), dst := some 11 }])
  (.region [
    { op := .mov (.var 6) },
    { op := .mov (.var 7) },
    { op := .mov (.var 6) },
    { op := .mov (.var 7) },
    { op := .iaddr 3 (.loc 2) (.loc 3) },
    { op := .load 3 true (.loc 4) },
    { op := .mov (.var 6) },
    { op := .mov (.var 11) },
    { op := .iaddr 3 (.loc 6) (.loc 7) },
    { op := .load 3 true (.loc 8) },
    { op := .call 41 [.loc 5, .loc 9] },
    { op := .iaddr 3 (.loc 0) (.loc 1) },
    { op := .store 3 (.loc 11) (.loc 10) }])))
  (.region [
    { op := .bin .add (.var 23) (.const (.int .i64 1)) },
    { op := .mov (.loc 0), dst := some 23 }]))))))))))))))))))))))
  (.region [
    { op := .bin .add (.var 19) (.const (.int .i64 1)) },
    { op := .mov (.loc 0), dst := some 19 }])))))))
  (.seq (.region [
    { op := .mov (.var 6) },
    { op := .mov (.var 1) },
    { op := .lenL (.loc 1) },
    { op := .bin .sub (.loc 2) (.const (.int .i64 1)) },
    { op := .iaddr 3 (.loc 0) (.loc 3) },
    { op := .load 3 true (.loc 4) },
    { op := .store 3 (.var 3) (.loc 5) }])
  .ret)))))) }

/-- raddle/glush.Of -/
def a10 : AFun := { nargs := 1, ps := [0, 2, 3, 4, 5, 6, 7, 8, 10, 17, 19, 20, 21, 22, 34, 35, 36, 37, 49], res := [.cell 1 2 true, .var 2], body :=
  (.seq (.region [
    { op := .alloc [.nilsl, .nilsl], dst := some 1 },
    { op := .mov (.const (.int .i64 0)), dst := some 2 }])
  (.seq (.seq (.region [
    { op := .mov (.var 0) },
    { op := .lenL (.loc 0) },
    { op := .bin .gtr (.loc 1) (.const (.int .i64 512)) },
    { op := .mov (.loc 2) },
    { op := .mov (.var 0), guard := some (3, false) },
    { op := .call 19 [.loc 4, .const (.fn 20 [] [])], guard := some (3, false) },
    { op := .pick (.loc 3) (.const (.bool true)) (.loc 5), dst := some 9 }])
  (.cond (.var 9) (.seq (.region [
    { op := .build [.nilsl, .nilsl] [] },
    { op := .store 2 (.var 1) (.loc 0) },
    { op := .mov (.const (.int .i64 1)), dst := some 2 }])
  .ret) .skip))
  (.seq (.region [
    { op := .alloc [.nilsl], dst := some 3 }])
  (.seq (.region [
    { op := .mov (.const (.nilsl)), dst := some 4 }])
  (.seq (.seq (.region [
    { op := .mov (.var 0), dst := some 10 },
    { op := .lenL (.loc 0), dst := some 11 },
    { op := .mov (.const (.int .i64 0)), dst := some 12 }])
  (.block 0 (.loop (.seq (.region [
    { op := .bin .lss (.var 12) (.var 11), dst := some 13 }])
  (.seq (.cond (.var 13) .skip (.exit 0))
  (.seq (.block 1 (.seq (.region [
    { op := .mov (.var 12) },
    { op := .iaddr 1 (.var 10) (.var 12) },
    { op := .load 1 false (.loc 1) },
    { op := .mov (.loc 0), dst := some 5 },
    { op := .mov (.loc 2), dst := some 6 }])
  (.seq (.region [
    { op := .mov (.var 6) },
    { op := .mov (.var 5) },
    { op := .call 22 [.var 3, .loc 0, .loc 1] },
    { op := .alloc [.bool false, .nilsl, .nilsl], dst := some 7 },
    { op := .store 3 (.loc 3) (.loc 2) }])
  (.seq (.region [
    { op := .mov (.var 4) },
    { op := .faddr 1 (.var 7) },
    { op := .load 1 false (.loc 1) },
    { op := .call 23 [.loc 0, .loc 2] },
    { op := .mov (.loc 3), dst := some 4 }])
  (.seq (.seq (.region [
    { op := .faddr 2 (.var 7) },
    { op := .load 1 false (.loc 0), dst := some 14 },
    { op := .lenL (.loc 1), dst := some 15 },
    { op := .mov (.const (.int .i64 0)), dst := some 16 }])
  (.block 2 (.loop (.seq (.region [
    { op := .bin .lss (.var 16) (.var 15), dst := some 17 }])
  (.seq (.cond (.var 17) .skip (.exit 2))
  (.seq (.block 3 (.seq (.region [
    { op := .iaddr 1 (.var 14) (.var 16) },
    { op := .load 1 false (.loc 0) },
    { op := .mov (.loc 1), dst := some 8 }])
  (.region [
    { op := .faddr 0 (.var 3) },
    { op := .load 1 false (.loc 0) },
    { op := .mov (.var 8) },
    { op := .iaddr 9 (.loc 1) (.loc 2) },
    { op := .faddr 7 (.loc 3) },
    { op := .store 1 (.loc 4) (.const (.bool true)) }])))
  (.region [
    { op := .bin .add (.var 16) (.const (.int .i64 1)) },
    { op := .mov (.loc 0), dst := some 16 }])))))))
  (.seq (.region [
    { op := .faddr 0 (.var 3) },
    { op := .load 1 false (.loc 0) },
    { op := .lenL (.loc 1) },
    { op := .bin .gtr (.loc 2) (.const (.int .i64 512)), dst := some 18 }])
  (.cond (.var 18) (.seq (.region [
    { op := .build [.nilsl, .nilsl] [] },
    { op := .store 2 (.var 1) (.loc 0) },
    { op := .mov (.const (.int .i64 3)), dst := some 2 }])
  .ret) .skip)))))))
  (.region [
    { op := .bin .add (.var 12) (.const (.int .i64 1)) },
    { op := .mov (.loc 0), dst := some 12 }])))))))
  (.seq (.region [
    { op := .mov (.var 4) },
    { op := .faddr 0 (.var 3) },
    { op := .load 1 false (.loc 1) },
    { op := .build [.nilsl, .nilsl] [(0, 1, .loc 0), (1, 1, .loc 2)] },
    { op := .store 2 (.var 1) (.loc 3) },
    { op := .mov (.const (.int .i64 0)), dst := some 2 }])
  .ret)))))) }

/-- raddle/raddleref09.same -/
def a24 : AFun := { nargs := 2, ps := [0, 1, 4, 5, 10, 14, 25], res := [.var 2], body :=
  (.seq (.region [
    { op := .mov (.const (.bool false)), dst := some 2 }])
  (.seq (.seq (.region [
    { op := .mov (.var 0) },
    { op := .lenL (.loc 0) },
    { op := .mov (.var 1) },
    { op := .lenL (.loc 2) },
    { op := .bin .neq (.loc 1) (.loc 3), dst := some 4 }])
  (.cond (.var 4) (.seq (.region [
    { op := .mov (.const (.bool false)), dst := some 2 }])
  .ret) .skip))
  (.seq (.seq (.region [
    { op := .mov (.const (.int .i64 0)), dst := some 3 }])
  (.block 0 (.loop (.seq (.seq (.region [
    { op := .mov (.var 3) },
    { op := .mov (.var 0) },
    { op := .lenL (.loc 1) },
    { op := .bin .lss (.loc 0) (.loc 2), dst := some 5 }])
  (.cond (.var 5) .skip (.exit 0)))
  (.seq (.block 1 (.seq (.region [
    { op := .mov (.var 0) },
    { op := .mov (.var 3) },
    { op := .iaddr 1 (.loc 0) (.loc 1) },
    { op := .load 1 false (.loc 2) },
    { op := .mov (.var 1) },
    { op := .mov (.var 3) },
    { op := .iaddr 1 (.loc 4) (.loc 5) },
    { op := .load 1 false (.loc 6) },
    { op := .bin .neq (.loc 3) (.loc 7), dst := some 6 }])
  (.cond (.var 6) (.seq (.region [
    { op := .mov (.const (.bool false)), dst := some 2 }])
  .ret) .skip)))
  (.region [
    { op := .mov (.var 3) },
    { op := .bin .add (.loc 0) (.const (.int .i64 1)) },
    { op := .mov (.loc 1), dst := some 3 }]))))))
  (.seq (.region [
    { op := .mov (.const (.bool true)), dst := some 2 }])
  .ret)))) }

/-- raddle/raddleref09.Same -/
def a11 : AFun := { nargs := 2, ps := [0, 1, 2, 3, 4, 5, 6, 7, 22, 27, 80], res := [.var 4], body :=
  (.seq (.region [
    { op := .box (.var 0), dst := some 2 },
    { op := .box (.var 1), dst := some 3 },
    { op := .mov (.const (.bool false)), dst := some 4 }])
  (.seq (.seq (.region [
    { op := .faddr 0 (.var 2) },
    { op := .load 1 false (.loc 0) },
    { op := .faddr 0 (.var 3) },
    { op := .load 1 false (.loc 2) },
    { op := .call 24 [.loc 1, .loc 3] },
    { op := .un .not (.loc 4) },
    { op := .mov (.loc 5) },
    { op := .faddr 1 (.var 2), guard := some (6, false) },
    { op := .load 1 false (.loc 7), guard := some (6, false) },
    { op := .lenL (.loc 8), guard := some (6, false) },
    { op := .faddr 1 (.var 3), guard := some (6, false) },
    { op := .load 1 false (.loc 10), guard := some (6, false) },
    { op := .lenL (.loc 11), guard := some (6, false) },
    { op := .bin .neq (.loc 9) (.loc 12), guard := some (6, false) },
    { op := .pick (.loc 6) (.const (.bool true)) (.loc 13), dst := some 8 }])
  (.cond (.var 8) (.seq (.region [
    { op := .mov (.const (.bool false)), dst := some 4 }])
  .ret) .skip))
  (.seq (.seq (.region [
    { op := .mov (.const (.int .i64 0)), dst := some 5 }])
  (.block 0 (.loop (.seq (.seq (.region [
    { op := .mov (.var 5) },
    { op := .faddr 1 (.var 2) },
    { op := .load 1 false (.loc 1) },
    { op := .lenL (.loc 2) },
    { op := .bin .lss (.loc 0) (.loc 3), dst := some 9 }])
  (.cond (.var 9) .skip (.exit 0)))
  (.seq (.block 1 (.seq (.region [
    { op := .faddr 1 (.var 2) },
    { op := .load 1 false (.loc 0) },
    { op := .mov (.var 5) },
    { op := .iaddr 9 (.loc 1) (.loc 2) },
    { op := .load 9 true (.loc 3) },
    { op := .alloc [.int .u64 0, .int .u64 0, .int .u64 0, .int .u64 0, .int .i64 0, .int .i64 0, .int .i64 0, .bool false, .nilsl], dst := some 6 },
    { op := .store 9 (.loc 5) (.loc 4) }])
  (.seq (.region [
    { op := .faddr 1 (.var 3) },
    { op := .load 1 false (.loc 0) },
    { op := .mov (.var 5) },
    { op := .iaddr 9 (.loc 1) (.loc 2) },
    { op := .load 9 true (.loc 3) },
    { op := .alloc [.int .u64 0, .int .u64 0, .int .u64 0, .int .u64 0, .int .i64 0, .int .i64 0, .int .i64 0, .bool false, .nilsl], dst := some 7 },
    { op := .store 9 (.loc 5) (.loc 4) }])
  (.seq (.region [
    { op := .faddr 0 (.var 6) },
    { op := .load 4 true (.loc 0) },
    { op := .faddr 0 (.var 7) },
    { op := .load 4 true (.loc 2) },
    { op := .eqs true [.int, .int, .int, .int] true (.loc 1) (.loc 3) },
    { op := .mov (.loc 4) },
    { op := .faddr 4 (.var 6), guard := some (5, false) },
    { op := .load 1 false (.loc 6), guard := some (5, false) },
    { op := .faddr 4 (.var 7), guard := some (5, false) },
    { op := .load 1 false (.loc 8), guard := some (5, false) },
    { op := .bin .neq (.loc 7) (.loc 9), guard := some (5, false) },
    { op := .pick (.loc 5) (.const (.bool true)) (.loc 10) },
    { op := .mov (.loc 11) },
    { op := .faddr 5 (.var 6), guard := some (12, false) },
    { op := .load 1 false (.loc 13), guard := some (12, false) },
    { op := .faddr 5 (.var 7), guard := some (12, false) },
    { op := .load 1 false (.loc 15), guard := some (12, false) },
    { op := .bin .neq (.loc 14) (.loc 16), guard := some (12, false) },
    { op := .pick (.loc 12) (.const (.bool true)) (.loc 17) },
    { op := .mov (.loc 18) },
    { op := .faddr 6 (.var 6), guard := some (19, false) },
    { op := .load 1 false (.loc 20), guard := some (19, false) },
    { op := .faddr 6 (.var 7), guard := some (19, false) },
    { op := .load 1 false (.loc 22), guard := some (19, false) },
    { op := .bin .neq (.loc 21) (.loc 23), guard := some (19, false) },
    { op := .pick (.loc 19) (.const (.bool true)) (.loc 24) },
    { op := .mov (.loc 25) },
    { op := .faddr 7 (.var 6), guard := some (26, false) },
    { op := .load 1 false (.loc 27), guard := some (26, false) },
    { op := .faddr 7 (.var 7), guard := some (26, false) },
    { op := .load 1 false (.loc 29), guard := some (26, false) },
    { op := .eqs true [.bool] false (.loc 28) (.loc 30), guard := some (26, false) },
    { op := .pick (.loc 26) (.const (.bool true)) (.loc 31) },
    { op := .mov (.loc 32) },
    { op := .faddr 8 (.var 6), guard := some (33, false) },
    { op := .load 1 false (.loc 34), guard := some (33, false) },
    { op := .faddr 8 (.var 7), guard := some (33, false) },
    { op := .load 1 false (.loc 36), guard := some (33, false) },
    { op := .call 24 [.loc 35, .loc 37], guard := some (33, false) },
    { op := .un .not (.loc 38), guard := some (33, false) },
    { op := .pick (.loc 33) (.const (.bool true)) (.loc 39), dst := some 10 }])
  (.cond (.var 10) (.seq (.region [
    { op := .mov (.const (.bool false)), dst := some 4 }])
  .ret) .skip)))))
  (.region [
    { op := .mov (.var 5) },
    { op := .bin .add (.loc 0) (.const (.int .i64 1)) },
    { op := .mov (.loc 1), dst := some 5 }]))))))
  (.seq (.region [
    { op := .mov (.const (.bool true)), dst := some 4 }])
  .ret)))) }

/-- (*raddle/raddleref04.reader).ends -/
def a50 : AFun := { nargs := 1, ps := [0, 2], res := [.var 1], body :=
  (.seq (.region [
    { op := .mov (.const (.bool false)), dst := some 1 }])
  (.seq (.region [
    { op := .mov (.var 0) },
    { op := .nilchk (.loc 0) },
    { op := .faddr 1 (.loc 1) },
    { op := .load 1 false (.loc 2) },
    { op := .mov (.var 0) },
    { op := .nilchk (.loc 4) },
    { op := .faddr 0 (.loc 5) },
    { op := .load 1 false (.loc 6) },
    { op := .lenS (.loc 7) },
    { op := .bin .geq (.loc 3) (.loc 8) },
    { op := .mov (.loc 9) },
    { op := .mov (.var 0), guard := some (10, false) },
    { op := .nilchk (.loc 11), guard := some (10, false) },
    { op := .faddr 4 (.loc 12), guard := some (10, false) },
    { op := .load 1 false (.loc 13), guard := some (10, false) },
    { op := .bin .neq (.loc 14) (.const (.int .i64 0)), guard := some (10, false) },
    { op := .pick (.loc 10) (.const (.bool true)) (.loc 15) },
    { op := .mov (.loc 16), dst := some 1 }])
  .ret)) }

/-- (*raddle/raddleref04.reader).put -/
def a59 : AFun := { nargs := 2, ps := [0, 1, 3, 4], res := [.var 3], body :=
  (.seq (.region [
    { op := .box (.var 1), dst := some 2 },
    { op := .mov (.const (.int .i64 0)), dst := some 3 }])
  (.seq (.region [
    { op := .mov (.var 0) },
    { op := .mov (.var 0) },
    { op := .nilchk (.loc 1) },
    { op := .faddr 2 (.loc 2) },
    { op := .load 1 false (.loc 3) },
    { op := .load 9 true (.var 2) },
    { op := .mkslice 9 1 [.int .u8 0, .int .u64 0, .int .u64 0, .int .u64 0, .int .u64 0, .nilsl, .int .i64 0, .int .i64 0, .str []] [(0, 9, .loc 5)] },
    { op := .append 9 96 false (.loc 4) (.loc 6) },
    { op := .nilchk (.loc 0) },
    { op := .faddr 2 (.loc 8) },
    { op := .store 1 (.loc 9) (.loc 7) }])
  (.seq (.region [
    { op := .mov (.var 0) },
    { op := .nilchk (.loc 0) },
    { op := .faddr 2 (.loc 1) },
    { op := .load 1 false (.loc 2) },
    { op := .lenL (.loc 3) },
    { op := .bin .sub (.loc 4) (.const (.int .i64 1)) },
    { op := .mov (.loc 5), dst := some 3 }])
  .ret))) }

/-- raddle/raddleref04.digit -/
def a77 : AFun := { nargs := 1, ps := [0, 2], res := [.var 1], body :=
  (.seq (.region [
    { op := .mov (.const (.bool false)), dst := some 1 }])
  (.seq (.region [
    { op := .mov (.var 0) },
    { op := .bin .geq (.loc 0) (.const (.int .u8 48)) },
    { op := .mov (.loc 1) },
    { op := .mov (.var 0), guard := some (2, true) },
    { op := .bin .leq (.loc 3) (.const (.int .u8 57)), guard := some (2, true) },
    { op := .pick (.loc 2) (.loc 4) (.const (.bool false)) },
    { op := .mov (.loc 5), dst := some 1 }])
  .ret)) }

/-- raddle/raddleref01.Has -/
def a47 : AFun := { nargs := 2, ps := [0, 1, 2, 4], res := [.var 3], body :=
  (.seq (.region [
    { op := .box (.var 0), dst := some 2 },
    { op := .mov (.const (.bool false)), dst := some 3 }])
  (.seq (.region [
    { op := .mov (.var 1) },
    { op := .bin .quo (.loc 0) (.const (.int .u8 64)) },
    { op := .iaddra 4 1 (.var 2) (.loc 1) },
    { op := .load 1 false (.loc 2) },
    { op := .mov (.var 1) },
    { op := .bin .rem (.loc 4) (.const (.int .u8 64)) },
    { op := .bin .shr (.loc 3) (.loc 5) },
    { op := .bin .rem (.loc 6) (.const (.int .u64 2)) },
    { op := .bin .eql (.loc 7) (.const (.int .u64 1)) },
    { op := .mov (.loc 8), dst := some 3 }])
  .ret)) }

/-- raddle/raddleref01.with -/
def a27 : AFun := { nargs := 2, ps := [0, 1, 2, 4, 8], res := [.cell 3 4 true], body :=
  (.seq (.region [
    { op := .box (.var 0), dst := some 2 },
    { op := .alloc [.int .u64 0, .int .u64 0, .int .u64 0, .int .u64 0], dst := some 3 }])
  (.seq (.seq (.region [
    { op := .load 4 true (.var 2) },
    { op := .mov (.var 1) },
    { op := .call 47 [.loc 0, .loc 1] },
    { op := .un .not (.loc 2), dst := some 4 }])
  (.cond (.var 4) (.region [
    { op := .mov (.var 1) },
    { op := .bin .quo (.loc 0) (.const (.int .u8 64)) },
    { op := .mov (.var 1) },
    { op := .bin .quo (.loc 2) (.const (.int .u8 64)) },
    { op := .iaddra 4 1 (.var 2) (.loc 3) },
    { op := .load 1 false (.loc 4) },
    { op := .mov (.var 1) },
    { op := .bin .rem (.loc 6) (.const (.int .u8 64)) },
    { op := .bin .shl (.const (.int .u64 1)) (.loc 7) },
    { op := .bin .add (.loc 5) (.loc 8) },
    { op := .iaddra 4 1 (.var 2) (.loc 1) },
    { op := .store 1 (.loc 10) (.loc 9) }]) .skip))
  (.seq (.region [
    { op := .load 4 true (.var 2) },
    { op := .store 4 (.var 3) (.loc 0) }])
  .ret))) }

/-- raddle/raddleref01.Of -/
def a14 : AFun := { nargs := 1, ps := [0, 2, 3, 4, 9], res := [.cell 1 4 true], body :=
  (.seq (.region [
    { op := .alloc [.int .u64 0, .int .u64 0, .int .u64 0, .int .u64 0], dst := some 1 }])
  (.seq (.region [
    { op := .build [.int .u64 0, .int .u64 0, .int .u64 0, .int .u64 0] [] },
    { op := .alloc [.int .u64 0, .int .u64 0, .int .u64 0, .int .u64 0], dst := some 2 },
    { op := .store 4 (.loc 1) (.loc 0) }])
  (.seq (.seq (.region [
    { op := .mov (.const (.int .i64 0)), dst := some 3 }])
  (.block 0 (.loop (.seq (.seq (.region [
    { op := .mov (.var 3) },
    { op := .mov (.var 0) },
    { op := .lenL (.loc 1) },
    { op := .bin .lss (.loc 0) (.loc 2), dst := some 4 }])
  (.cond (.var 4) .skip (.exit 0)))
  (.seq (.block 1 (.region [
    { op := .load 4 true (.var 2) },
    { op := .mov (.var 0) },
    { op := .mov (.var 3) },
    { op := .iaddr 1 (.loc 1) (.loc 2) },
    { op := .load 1 false (.loc 3) },
    { op := .call 27 [.loc 0, .loc 4] },
    { op := .store 4 (.var 2) (.loc 5) }]))
  (.region [
    { op := .mov (.var 3) },
    { op := .bin .add (.loc 0) (.const (.int .i64 1)) },
    { op := .mov (.loc 1), dst := some 3 }]))))))
  (.seq (.region [
    { op := .load 4 true (.var 2) },
    { op := .store 4 (.var 1) (.loc 0) }])
  .ret)))) }

/-- (*raddle/raddleref04.reader).fail -/
def a51 : AFun := { nargs := 3, ps := [0, 1, 2, 10], res := [], body :=
  (.seq (.region [
    { op := .mov (.var 0) },
    { op := .nilchk (.loc 0) },
    { op := .faddr 4 (.loc 1) },
    { op := .load 1 false (.loc 2) },
    { op := .bin .eql (.loc 3) (.const (.int .i64 0)), dst := some 3 }])
  (.cond (.var 3) (.seq (.region [
    { op := .mov (.var 0) },
    { op := .mov (.var 1) },
    { op := .nilchk (.loc 0) },
    { op := .faddr 4 (.loc 2) },
    { op := .store 1 (.loc 3) (.loc 1) }])
  (.region [
    { op := .mov (.var 0) },
    { op := .mov (.var 2) },
    { op := .nilchk (.loc 0) },
    { op := .faddr 5 (.loc 2) },
    { op := .store 1 (.loc 3) (.loc 1) }])) .skip)) }

/-- (*raddle/raddleref04.reader).group -/
def a99 : AFun := { nargs := 1, ps := [0, 2, 3, 8, 39], res := [.var 1], body :=
  (.seq (.region [
    { op := .mov (.const (.int .i64 0)), dst := some 1 }])
  (.seq (.seq (.region [
    { op := .mov (.var 0) },
    { op := .nilchk (.loc 0) },
    { op := .faddr 3 (.loc 1) },
    { op := .load 1 false (.loc 2) },
    { op := .bin .geq (.loc 3) (.const (.int .i64 64)), dst := some 3 }])
  (.cond (.var 3) (.seq (.region [
    { op := .mov (.var 0) },
    { op := .mov (.var 0) },
    { op := .nilchk (.loc 1) },
    { op := .faddr 1 (.loc 2) },
    { op := .load 1 false (.loc 3) },
    { op := .call 51 [.loc 0, .const (.int .i64 46), .loc 4] }])
  (.seq (.region [
    { op := .mov (.const (.int .i64 0)), dst := some 1 }])
  .ret)) .skip))
  (.seq (.region [
    { op := .mov (.var 0) },
    { op := .nilchk (.loc 0) },
    { op := .faddr 1 (.loc 1) },
    { op := .load 1 false (.loc 2) },
    { op := .bin .add (.loc 3) (.const (.int .i64 1)) },
    { op := .nilchk (.loc 0) },
    { op := .faddr 1 (.loc 5) },
    { op := .store 1 (.loc 6) (.loc 4) }])
  (.seq (.region [
    { op := .mov (.var 0) },
    { op := .nilchk (.loc 0) },
    { op := .faddr 3 (.loc 1) },
    { op := .load 1 false (.loc 2) },
    { op := .bin .add (.loc 3) (.const (.int .i64 1)) },
    { op := .nilchk (.loc 0) },
    { op := .faddr 3 (.loc 5) },
    { op := .store 1 (.loc 6) (.loc 4) }])
  (.seq (.region [
    { op := .mov (.var 0) },
    { op := .call 49 [.loc 0] },
    { op := .mov (.loc 1), dst := some 2 }])
  (.seq (.region [
    { op := .mov (.var 0) },
    { op := .nilchk (.loc 0) },
    { op := .faddr 3 (.loc 1) },
    { op := .load 1 false (.loc 2) },
    { op := .bin .sub (.loc 3) (.const (.int .i64 1)) },
    { op := .nilchk (.loc 0) },
    { op := .faddr 3 (.loc 5) },
    { op := .store 1 (.loc 6) (.loc 4) }])
  (.seq (.seq (.region [
    { op := .mov (.var 0) },
    { op := .call 50 [.loc 0], dst := some 4 }])
  (.cond (.var 4) (.seq (.region [
    { op := .mov (.var 0) },
    { op := .mov (.var 0) },
    { op := .nilchk (.loc 1) },
    { op := .faddr 0 (.loc 2) },
    { op := .load 1 false (.loc 3) },
    { op := .lenS (.loc 4) },
    { op := .call 51 [.loc 0, .const (.int .i64 40), .loc 5] }])
  (.seq (.region [
    { op := .mov (.const (.int .i64 0)), dst := some 1 }])
  .ret)) .skip))
  (.seq (.region [
    { op := .mov (.var 0) },
    { op := .nilchk (.loc 0) },
    { op := .faddr 1 (.loc 1) },
    { op := .load 1 false (.loc 2) },
    { op := .bin .add (.loc 3) (.const (.int .i64 1)) },
    { op := .nilchk (.loc 0) },
    { op := .faddr 1 (.loc 5) },
    { op := .store 1 (.loc 6) (.loc 4) }])
  (.seq (.region [
    { op := .mov (.var 2) },
    { op := .mov (.loc 0), dst := some 1 }])
  .ret))))))))) }

/-- raddle/raddleref01.Not -/
def a101 : AFun := { nargs := 1, ps := [0, 1, 2, 3, 4, 7, 14], res := [.cell 2 4 true], body :=
  (.seq (.region [
    { op := .box (.var 0), dst := some 1 },
    { op := .alloc [.int .u64 0, .int .u64 0, .int .u64 0, .int .u64 0], dst := some 2 }])
  (.seq (.region [
    { op := .build [.int .u64 0, .int .u64 0, .int .u64 0, .int .u64 0] [] },
    { op := .alloc [.int .u64 0, .int .u64 0, .int .u64 0, .int .u64 0], dst := some 3 },
    { op := .store 4 (.loc 1) (.loc 0) }])
  (.seq (.seq (.region [
    { op := .mov (.const (.int .i64 0)), dst := some 4 }])
  (.block 0 (.loop (.seq (.seq (.region [
    { op := .mov (.var 4) },
    { op := .bin .lss (.loc 0) (.const (.int .i64 256)), dst := some 5 }])
  (.cond (.var 5) .skip (.exit 0)))
  (.seq (.block 1 (.seq (.region [
    { op := .load 4 true (.var 1) },
    { op := .mov (.var 4) },
    { op := .conv .u8 (.loc 1) },
    { op := .call 47 [.loc 0, .loc 2] },
    { op := .un .not (.loc 3), dst := some 6 }])
  (.cond (.var 6) (.region [
    { op := .load 4 true (.var 3) },
    { op := .mov (.var 4) },
    { op := .conv .u8 (.loc 1) },
    { op := .call 27 [.loc 0, .loc 2] },
    { op := .store 4 (.var 3) (.loc 3) }]) .skip)))
  (.region [
    { op := .mov (.var 4) },
    { op := .bin .add (.loc 0) (.const (.int .i64 1)) },
    { op := .mov (.loc 1), dst := some 4 }]))))))
  (.seq (.region [
    { op := .load 4 true (.var 3) },
    { op := .store 4 (.var 2) (.loc 0) }])
  .ret)))) }

/-- raddle/raddleref04.in -/
def a103 : AFun := { nargs := 2, ps := [0, 1, 4, 5, 9, 16], res := [.var 2], body :=
  (.seq (.region [
    { op := .mov (.const (.bool false)), dst := some 2 }])
  (.seq (.seq (.region [
    { op := .mov (.const (.int .i64 0)), dst := some 3 }])
  (.block 0 (.loop (.seq (.seq (.region [
    { op := .mov (.var 3) },
    { op := .mov (.var 1) },
    { op := .lenS (.loc 1) },
    { op := .bin .lss (.loc 0) (.loc 2), dst := some 4 }])
  (.cond (.var 4) .skip (.exit 0)))
  (.seq (.block 1 (.seq (.region [
    { op := .mov (.var 1) },
    { op := .mov (.var 3) },
    { op := .istr (.loc 0) (.loc 1) },
    { op := .mov (.var 0) },
    { op := .bin .eql (.loc 2) (.loc 3), dst := some 5 }])
  (.cond (.var 5) (.seq (.region [
    { op := .mov (.const (.bool true)), dst := some 2 }])
  .ret) .skip)))
  (.region [
    { op := .mov (.var 3) },
    { op := .bin .add (.loc 0) (.const (.int .i64 1)) },
    { op := .mov (.loc 1), dst := some 3 }]))))))
  (.seq (.region [
    { op := .mov (.const (.bool false)), dst := some 2 }])
  .ret))) }

/-- raddle/raddleref04.special -/
def a104 : AFun := { nargs := 0, ps := [0], res := [.var 0], body :=
  (.seq (.region [
    { op := .mov (.const (.str [])), dst := some 0 }])
  (.seq (.region [
    { op := .mov (.const (.str [124, 42, 43, 63, 123, 125, 40, 41, 91, 93, 46, 92, 47, 36, 94, 34])), dst := some 0 }])
  .ret)) }

/-- raddle/raddleref04.hex -/
def a110 : AFun := { nargs := 1, ps := [0, 2, 4, 13], res := [.var 1], body :=
  (.seq (.region [
    { op := .mov (.const (.int .i64 0)), dst := some 1 }])
  (.seq (.seq (.region [
    { op := .mov (.var 0) },
    { op := .call 77 [.loc 0], dst := some 2 }])
  (.cond (.var 2) (.seq (.region [
    { op := .mov (.var 0) },
    { op := .bin .sub (.loc 0) (.const (.int .u8 48)) },
    { op := .conv .i64 (.loc 1) },
    { op := .mov (.loc 2), dst := some 1 }])
  .ret) .skip))
  (.seq (.seq (.region [
    { op := .mov (.var 0) },
    { op := .bin .geq (.loc 0) (.const (.int .u8 97)) },
    { op := .mov (.loc 1) },
    { op := .mov (.var 0), guard := some (2, true) },
    { op := .bin .leq (.loc 3) (.const (.int .u8 102)), guard := some (2, true) },
    { op := .pick (.loc 2) (.loc 4) (.const (.bool false)), dst := some 3 }])
  (.cond (.var 3) (.seq (.region [
    { op := .mov (.var 0) },
    { op := .bin .sub (.loc 0) (.const (.int .u8 97)) },
    { op := .conv .i64 (.loc 1) },
    { op := .bin .add (.loc 2) (.const (.int .i64 10)) },
    { op := .mov (.loc 3), dst := some 1 }])
  .ret) .skip))
  (.seq (.region [
    { op := .mov (.const (.int .i64 (-1))), dst := some 1 }])
  .ret)))) }

/-- (*raddle/raddleref04.reader).one -/
def a105 : AFun := { nargs := 1, ps := [0, 2, 3, 4, 5, 6, 7, 29, 32, 56, 59, 62, 65, 78, 120, 126], res := [.var 1], body :=
  (.seq (.region [
    { op := .mov (.const (.int .u8 0)), dst := some 1 }])
  (.seq (.region [
    { op := .mov (.var 0) },
    { op := .nilchk (.loc 0) },
    { op := .faddr 0 (.loc 1) },
    { op := .load 1 false (.loc 2) },
    { op := .mov (.var 0) },
    { op := .nilchk (.loc 4) },
    { op := .faddr 1 (.loc 5) },
    { op := .load 1 false (.loc 6) },
    { op := .istr (.loc 3) (.loc 7) },
    { op := .mov (.loc 8), dst := some 2 }])
  (.seq (.region [
    { op := .mov (.var 0) },
    { op := .nilchk (.loc 0) },
    { op := .faddr 1 (.loc 1) },
    { op := .load 1 false (.loc 2) },
    { op := .mov (.loc 3), dst := some 3 }])
  (.seq (.region [
    { op := .mov (.var 0) },
    { op := .nilchk (.loc 0) },
    { op := .faddr 1 (.loc 1) },
    { op := .load 1 false (.loc 2) },
    { op := .bin .add (.loc 3) (.const (.int .i64 1)) },
    { op := .nilchk (.loc 0) },
    { op := .faddr 1 (.loc 5) },
    { op := .store 1 (.loc 6) (.loc 4) }])
  (.seq (.seq (.region [
    { op := .mov (.var 2) },
    { op := .bin .neq (.loc 0) (.const (.int .u8 92)), dst := some 7 }])
  (.cond (.var 7) (.seq (.region [
    { op := .mov (.var 2) },
    { op := .mov (.loc 0), dst := some 1 }])
  .ret) .skip))
  (.seq (.seq (.region [
    { op := .mov (.var 0) },
    { op := .call 50 [.loc 0], dst := some 8 }])
  (.cond (.var 8) (.seq (.region [
    { op := .mov (.var 0) },
    { op := .mov (.var 0) },
    { op := .nilchk (.loc 1) },
    { op := .faddr 0 (.loc 2) },
    { op := .load 1 false (.loc 3) },
    { op := .lenS (.loc 4) },
    { op := .call 51 [.loc 0, .const (.int .i64 40), .loc 5] }])
  (.seq (.region [
    { op := .mov (.const (.int .u8 0)), dst := some 1 }])
  .ret)) .skip))
  (.seq (.region [
    { op := .mov (.var 0) },
    { op := .nilchk (.loc 0) },
    { op := .faddr 0 (.loc 1) },
    { op := .load 1 false (.loc 2) },
    { op := .mov (.var 0) },
    { op := .nilchk (.loc 4) },
    { op := .faddr 1 (.loc 5) },
    { op := .load 1 false (.loc 6) },
    { op := .istr (.loc 3) (.loc 7) },
    { op := .mov (.loc 8), dst := some 4 }])
  (.seq (.region [
    { op := .mov (.var 0) },
    { op := .nilchk (.loc 0) },
    { op := .faddr 1 (.loc 1) },
    { op := .load 1 false (.loc 2) },
    { op := .bin .add (.loc 3) (.const (.int .i64 1)) },
    { op := .nilchk (.loc 0) },
    { op := .faddr 1 (.loc 5) },
    { op := .store 1 (.loc 6) (.loc 4) }])
  (.seq (.block 0 (.seq (.region [
    { op := .mov (.var 4) },
    { op := .bin .eql (.loc 0) (.const (.int .u8 110)) },
    { op := .mov (.loc 1), dst := some 9 }])
  (.cond (.var 9) (.seq (.region [
    { op := .mov (.const (.int .u8 10)), dst := some 1 }])
  .ret) (.seq (.region [
    { op := .mov (.var 4) },
    { op := .bin .eql (.loc 0) (.const (.int .u8 116)) },
    { op := .mov (.loc 1), dst := some 10 }])
  (.cond (.var 10) (.seq (.region [
    { op := .mov (.const (.int .u8 9)), dst := some 1 }])
  .ret) (.seq (.region [
    { op := .mov (.var 4) },
    { op := .bin .eql (.loc 0) (.const (.int .u8 114)) },
    { op := .mov (.loc 1), dst := some 11 }])
  (.cond (.var 11) (.seq (.region [
    { op := .mov (.const (.int .u8 13)), dst := some 1 }])
  .ret) (.seq (.region [
    { op := .mov (.var 4) },
    { op := .bin .eql (.loc 0) (.const (.int .u8 120)) },
    { op := .mov (.loc 1), dst := some 12 }])
  (.cond (.var 12) (.seq (.seq (.region [
    { op := .mov (.var 0) },
    { op := .nilchk (.loc 0) },
    { op := .faddr 1 (.loc 1) },
    { op := .load 1 false (.loc 2) },
    { op := .bin .add (.loc 3) (.const (.int .i64 1)) },
    { op := .mov (.var 0) },
    { op := .nilchk (.loc 5) },
    { op := .faddr 0 (.loc 6) },
    { op := .load 1 false (.loc 7) },
    { op := .lenS (.loc 8) },
    { op := .bin .geq (.loc 4) (.loc 9), dst := some 13 }])
  (.cond (.var 13) (.seq (.region [
    { op := .mov (.var 0) },
    { op := .mov (.var 0) },
    { op := .nilchk (.loc 1) },
    { op := .faddr 0 (.loc 2) },
    { op := .load 1 false (.loc 3) },
    { op := .lenS (.loc 4) },
    { op := .call 51 [.loc 0, .const (.int .i64 40), .loc 5] }])
  (.seq (.region [
    { op := .mov (.const (.int .u8 0)), dst := some 1 }])
  .ret)) .skip))
  (.seq (.region [
    { op := .mov (.var 0) },
    { op := .nilchk (.loc 0) },
    { op := .faddr 0 (.loc 1) },
    { op := .load 1 false (.loc 2) },
    { op := .mov (.var 0) },
    { op := .nilchk (.loc 4) },
    { op := .faddr 1 (.loc 5) },
    { op := .load 1 false (.loc 6) },
    { op := .istr (.loc 3) (.loc 7) },
    { op := .call 110 [.loc 8] },
    { op := .mov (.loc 9), dst := some 5 }])
  (.seq (.region [
    { op := .mov (.var 0) },
    { op := .nilchk (.loc 0) },
    { op := .faddr 0 (.loc 1) },
    { op := .load 1 false (.loc 2) },
    { op := .mov (.var 0) },
    { op := .nilchk (.loc 4) },
    { op := .faddr 1 (.loc 5) },
    { op := .load 1 false (.loc 6) },
    { op := .bin .add (.loc 7) (.const (.int .i64 1)) },
    { op := .istr (.loc 3) (.loc 8) },
    { op := .call 110 [.loc 9] },
    { op := .mov (.loc 10), dst := some 6 }])
  (.seq (.region [
    { op := .mov (.var 0) },
    { op := .mov (.var 0) },
    { op := .nilchk (.loc 1) },
    { op := .faddr 1 (.loc 2) },
    { op := .load 1 false (.loc 3) },
    { op := .bin .add (.loc 4) (.const (.int .i64 2)) },
    { op := .nilchk (.loc 0) },
    { op := .faddr 1 (.loc 6) },
    { op := .store 1 (.loc 7) (.loc 5) }])
  (.seq (.region [
    { op := .mov (.var 5) },
    { op := .bin .geq (.loc 0) (.const (.int .i64 0)) },
    { op := .mov (.loc 1) },
    { op := .mov (.var 6), guard := some (2, true) },
    { op := .bin .geq (.loc 3) (.const (.int .i64 0)), guard := some (2, true) },
    { op := .pick (.loc 2) (.loc 4) (.const (.bool false)), dst := some 14 }])
  (.cond (.var 14) (.seq (.region [
    { op := .mov (.var 5) },
    { op := .bin .mul (.const (.int .i64 16)) (.loc 0) },
    { op := .mov (.var 6) },
    { op := .bin .add (.loc 1) (.loc 2) },
    { op := .conv .u8 (.loc 3) },
    { op := .mov (.loc 4), dst := some 1 }])
  .ret) .skip)))))) (.seq (.region [
    { op := .mov (.var 4) },
    { op := .call 104 [] },
    { op := .call 103 [.loc 0, .loc 1] },
    { op := .mov (.loc 2) },
    { op := .mov (.var 4), guard := some (3, false) },
    { op := .bin .eql (.loc 4) (.const (.int .u8 45)), guard := some (3, false) },
    { op := .pick (.loc 3) (.const (.bool true)) (.loc 5) },
    { op := .mov (.loc 6), dst := some 15 }])
  (.cond (.var 15) (.seq (.region [
    { op := .mov (.var 4) },
    { op := .mov (.loc 0), dst := some 1 }])
  .ret) .skip)))))))))))
  (.seq (.region [
    { op := .mov (.var 0) },
    { op := .mov (.var 3) },
    { op := .call 51 [.loc 0, .const (.int .i64 43), .loc 1] }])
  (.seq (.region [
    { op := .mov (.const (.int .u8 0)), dst := some 1 }])
  .ret))))))))))) }

/-- (*raddle/raddleref04.reader).member -/
def a107 : AFun := { nargs := 1, ps := [0, 2, 4, 21], res := [.var 1], body :=
  (.seq (.region [
    { op := .mov (.const (.int .u8 0)), dst := some 1 }])
  (.seq (.seq (.region [
    { op := .mov (.var 0) },
    { op := .call 50 [.loc 0], dst := some 2 }])
  (.cond (.var 2) (.seq (.region [
    { op := .mov (.var 0) },
    { op := .mov (.var 0) },
    { op := .nilchk (.loc 1) },
    { op := .faddr 0 (.loc 2) },
    { op := .load 1 false (.loc 3) },
    { op := .lenS (.loc 4) },
    { op := .call 51 [.loc 0, .const (.int .i64 40), .loc 5] }])
  (.seq (.region [
    { op := .mov (.const (.int .u8 0)), dst := some 1 }])
  .ret)) .skip))
  (.seq (.seq (.region [
    { op := .mov (.var 0) },
    { op := .nilchk (.loc 0) },
    { op := .faddr 0 (.loc 1) },
    { op := .load 1 false (.loc 2) },
    { op := .mov (.var 0) },
    { op := .nilchk (.loc 4) },
    { op := .faddr 1 (.loc 5) },
    { op := .load 1 false (.loc 6) },
    { op := .istr (.loc 3) (.loc 7) },
    { op := .call 103 [.loc 8, .const (.str [93, 45, 94])], dst := some 3 }])
  (.cond (.var 3) (.seq (.region [
    { op := .mov (.var 0) },
    { op := .mov (.var 0) },
    { op := .nilchk (.loc 1) },
    { op := .faddr 1 (.loc 2) },
    { op := .load 1 false (.loc 3) },
    { op := .call 51 [.loc 0, .const (.int .i64 44), .loc 4] }])
  (.seq (.region [
    { op := .mov (.const (.int .u8 0)), dst := some 1 }])
  .ret)) .skip))
  (.seq (.region [
    { op := .mov (.var 0) },
    { op := .call 105 [.loc 0] },
    { op := .mov (.loc 1), dst := some 1 }])
  .ret)))) }

/-- raddle/raddleref01.Range -/
def a108 : AFun := { nargs := 2, ps := [0, 1, 4, 5, 6, 13], res := [.cell 2 4 true], body :=
  (.seq (.region [
    { op := .alloc [.int .u64 0, .int .u64 0, .int .u64 0, .int .u64 0], dst := some 2 }])
  (.seq (.region [
    { op := .build [.int .u64 0, .int .u64 0, .int .u64 0, .int .u64 0] [] },
    { op := .alloc [.int .u64 0, .int .u64 0, .int .u64 0, .int .u64 0], dst := some 3 },
    { op := .store 4 (.loc 1) (.loc 0) }])
  (.seq (.seq (.region [
    { op := .mov (.var 0) },
    { op := .conv .i64 (.loc 0) },
    { op := .mov (.loc 1), dst := some 4 }])
  (.block 0 (.loop (.seq (.seq (.region [
    { op := .mov (.var 4) },
    { op := .mov (.var 1) },
    { op := .conv .i64 (.loc 1) },
    { op := .bin .leq (.loc 0) (.loc 2), dst := some 5 }])
  (.cond (.var 5) .skip (.exit 0)))
  (.seq (.block 1 (.region [
    { op := .load 4 true (.var 3) },
    { op := .mov (.var 4) },
    { op := .conv .u8 (.loc 1) },
    { op := .call 27 [.loc 0, .loc 2] },
    { op := .store 4 (.var 3) (.loc 3) }]))
  (.region [
    { op := .mov (.var 4) },
    { op := .bin .add (.loc 0) (.const (.int .i64 1)) },
    { op := .mov (.loc 1), dst := some 4 }]))))))
  (.seq (.region [
    { op := .load 4 true (.var 3) },
    { op := .store 4 (.var 2) (.loc 0) }])
  .ret)))) }

/-- raddle/raddleref01.Or -/
def a109 : AFun := { nargs := 1, ps := [0, 2, 3, 4, 5, 8, 14, 23], res := [.cell 1 4 true], body :=
  (.seq (.region [
    { op := .alloc [.int .u64 0, .int .u64 0, .int .u64 0, .int .u64 0], dst := some 1 }])
  (.seq (.region [
    { op := .build [.int .u64 0, .int .u64 0, .int .u64 0, .int .u64 0] [] },
    { op := .alloc [.int .u64 0, .int .u64 0, .int .u64 0, .int .u64 0], dst := some 2 },
    { op := .store 4 (.loc 1) (.loc 0) }])
  (.seq (.seq (.region [
    { op := .mov (.const (.int .i64 0)), dst := some 3 }])
  (.block 0 (.loop (.seq (.seq (.region [
    { op := .mov (.var 3) },
    { op := .bin .lss (.loc 0) (.const (.int .i64 256)), dst := some 5 }])
  (.cond (.var 5) .skip (.exit 0)))
  (.seq (.block 1 (.seq (.region [
    { op := .mov (.const (.int .i64 0)), dst := some 4 }])
  (.block 2 (.loop (.seq (.seq (.region [
    { op := .mov (.var 4) },
    { op := .mov (.var 0) },
    { op := .lenL (.loc 1) },
    { op := .bin .lss (.loc 0) (.loc 2), dst := some 6 }])
  (.cond (.var 6) .skip (.exit 2)))
  (.seq (.block 3 (.seq (.region [
    { op := .mov (.var 0) },
    { op := .mov (.var 4) },
    { op := .iaddr 4 (.loc 0) (.loc 1) },
    { op := .load 4 true (.loc 2) },
    { op := .mov (.var 3) },
    { op := .conv .u8 (.loc 4) },
    { op := .call 47 [.loc 3, .loc 5], dst := some 7 }])
  (.cond (.var 7) (.region [
    { op := .load 4 true (.var 2) },
    { op := .mov (.var 3) },
    { op := .conv .u8 (.loc 1) },
    { op := .call 27 [.loc 0, .loc 2] },
    { op := .store 4 (.var 2) (.loc 3) }]) .skip)))
  (.region [
    { op := .mov (.var 4) },
    { op := .bin .add (.loc 0) (.const (.int .i64 1)) },
    { op := .mov (.loc 1), dst := some 4 }])))))))
  (.region [
    { op := .mov (.var 3) },
    { op := .bin .add (.loc 0) (.const (.int .i64 1)) },
    { op := .mov (.loc 1), dst := some 3 }]))))))
  (.seq (.region [
    { op := .load 4 true (.var 2) },
    { op := .store 4 (.var 1) (.loc 0) }])
  .ret)))) }

/-- (*raddle/raddleref04.reader).class -/
def a100 : AFun := { nargs := 1, ps := [0, 2, 3, 4, 5, 6, 7, 8, 31, 65, 83, 99, 113, 116, 121], res := [.var 1], body :=
  (.seq (.region [
    { op := .mov (.const (.int .i64 0)), dst := some 1 }])
  (.seq (.region [
    { op := .mov (.var 0) },
    { op := .nilchk (.loc 0) },
    { op := .faddr 1 (.loc 1) },
    { op := .load 1 false (.loc 2) },
    { op := .bin .add (.loc 3) (.const (.int .i64 1)) },
    { op := .nilchk (.loc 0) },
    { op := .faddr 1 (.loc 5) },
    { op := .store 1 (.loc 6) (.loc 4) }])
  (.seq (.region [
    { op := .mov (.var 0) },
    { op := .call 50 [.loc 0] },
    { op := .un .not (.loc 1) },
    { op := .mov (.loc 2) },
    { op := .mov (.var 0), guard := some (3, true) },
    { op := .nilchk (.loc 4), guard := some (3, true) },
    { op := .faddr 0 (.loc 5), guard := some (3, true) },
    { op := .load 1 false (.loc 6), guard := some (3, true) },
    { op := .mov (.var 0), guard := some (3, true) },
    { op := .nilchk (.loc 8), guard := some (3, true) },
    { op := .faddr 1 (.loc 9), guard := some (3, true) },
    { op := .load 1 false (.loc 10), guard := some (3, true) },
    { op := .istr (.loc 7) (.loc 11), guard := some (3, true) },
    { op := .bin .eql (.loc 12) (.const (.int .u8 94)), guard := some (3, true) },
    { op := .pick (.loc 3) (.loc 13) (.const (.bool false)) },
    { op := .mov (.loc 14), dst := some 2 }])
  (.seq (.seq (.region [
    { op := .mov (.var 2), dst := some 8 }])
  (.cond (.var 8) (.region [
    { op := .mov (.var 0) },
    { op := .nilchk (.loc 0) },
    { op := .faddr 1 (.loc 1) },
    { op := .load 1 false (.loc 2) },
    { op := .bin .add (.loc 3) (.const (.int .i64 1)) },
    { op := .nilchk (.loc 0) },
    { op := .faddr 1 (.loc 5) },
    { op := .store 1 (.loc 6) (.loc 4) }]) .skip))
  (.seq (.region [
    { op := .mkslice 4 0 [.int .u64 0, .int .u64 0, .int .u64 0, .int .u64 0] [] },
    { op := .mov (.loc 0), dst := some 3 }])
  (.seq (.block 0 (.loop (.seq (.seq (.region [
    { op := .mov (.var 0) },
    { op := .nilchk (.loc 0) },
    { op := .faddr 4 (.loc 1) },
    { op := .load 1 false (.loc 2) },
    { op := .bin .eql (.loc 3) (.const (.int .i64 0)) },
    { op := .mov (.loc 4) },
    { op := .mov (.var 3), guard := some (5, true) },
    { op := .lenL (.loc 6), guard := some (5, true) },
    { op := .bin .eql (.loc 7) (.const (.int .i64 0)), guard := some (5, true) },
    { op := .mov (.loc 8), guard := some (5, true) },
    { op := .mov (.var 0), guard := some (9, false) },
    { op := .call 50 [.loc 10], guard := some (9, false) },
    { op := .pick (.loc 9) (.const (.bool true)) (.loc 11), guard := some (5, true) },
    { op := .mov (.loc 12), guard := some (5, true) },
    { op := .mov (.var 0), guard := some (13, false) },
    { op := .nilchk (.loc 14), guard := some (13, false) },
    { op := .faddr 0 (.loc 15), guard := some (13, false) },
    { op := .load 1 false (.loc 16), guard := some (13, false) },
    { op := .mov (.var 0), guard := some (13, false) },
    { op := .nilchk (.loc 18), guard := some (13, false) },
    { op := .faddr 1 (.loc 19), guard := some (13, false) },
    { op := .load 1 false (.loc 20), guard := some (13, false) },
    { op := .istr (.loc 17) (.loc 21), guard := some (13, false) },
    { op := .bin .neq (.loc 22) (.const (.int .u8 93)), guard := some (13, false) },
    { op := .pick (.loc 13) (.const (.bool true)) (.loc 23), guard := some (5, true) },
    { op := .pick (.loc 5) (.loc 24) (.const (.bool false)), dst := some 9 }])
  (.cond (.var 9) .skip (.exit 0)))
  (.block 1 (.seq (.region [
    { op := .mov (.var 0) },
    { op := .call 107 [.loc 0] },
    { op := .mov (.loc 1), dst := some 4 }])
  (.seq (.region [
    { op := .mov (.var 4) },
    { op := .mov (.loc 0), dst := some 5 }])
  (.seq (.seq (.region [
    { op := .mov (.var 0) },
    { op := .call 50 [.loc 0] },
    { op := .un .not (.loc 1) },
    { op := .mov (.loc 2) },
    { op := .mov (.var 0), guard := some (3, true) },
    { op := .nilchk (.loc 4), guard := some (3, true) },
    { op := .faddr 0 (.loc 5), guard := some (3, true) },
    { op := .load 1 false (.loc 6), guard := some (3, true) },
    { op := .mov (.var 0), guard := some (3, true) },
    { op := .nilchk (.loc 8), guard := some (3, true) },
    { op := .faddr 1 (.loc 9), guard := some (3, true) },
    { op := .load 1 false (.loc 10), guard := some (3, true) },
    { op := .istr (.loc 7) (.loc 11), guard := some (3, true) },
    { op := .bin .eql (.loc 12) (.const (.int .u8 45)), guard := some (3, true) },
    { op := .pick (.loc 3) (.loc 13) (.const (.bool false)), dst := some 10 }])
  (.cond (.var 10) (.seq (.region [
    { op := .mov (.var 0) },
    { op := .nilchk (.loc 0) },
    { op := .faddr 1 (.loc 1) },
    { op := .load 1 false (.loc 2) },
    { op := .bin .add (.loc 3) (.const (.int .i64 1)) },
    { op := .nilchk (.loc 0) },
    { op := .faddr 1 (.loc 5) },
    { op := .store 1 (.loc 6) (.loc 4) }])
  (.seq (.region [
    { op := .mov (.var 0) },
    { op := .nilchk (.loc 0) },
    { op := .faddr 1 (.loc 1) },
    { op := .load 1 false (.loc 2) },
    { op := .mov (.loc 3), dst := some 6 }])
  (.seq (.region [
    { op := .mov (.var 0) },
    { op := .call 107 [.loc 0] },
    { op := .mov (.loc 1), dst := some 5 }])
  (.seq (.region [
    { op := .mov (.var 5) },
    { op := .mov (.var 4) },
    { op := .bin .lss (.loc 0) (.loc 1), dst := some 11 }])
  (.cond (.var 11) (.region [
    { op := .mov (.var 0) },
    { op := .mov (.var 6) },
    { op := .call 51 [.loc 0, .const (.int .i64 44), .loc 1] }]) .skip))))) .skip))
  (.region [
    { op := .mov (.var 3) },
    { op := .mov (.var 4) },
    { op := .mov (.var 5) },
    { op := .call 108 [.loc 1, .loc 2] },
    { op := .mkslice 4 1 [.int .u64 0, .int .u64 0, .int .u64 0, .int .u64 0] [(0, 4, .loc 3)] },
    { op := .append 4 32 false (.loc 0) (.loc 4) },
    { op := .mov (.loc 5), dst := some 3 }]))))))))
  (.seq (.seq (.region [
    { op := .mov (.var 0) },
    { op := .nilchk (.loc 0) },
    { op := .faddr 4 (.loc 1) },
    { op := .load 1 false (.loc 2) },
    { op := .bin .neq (.loc 3) (.const (.int .i64 0)), dst := some 12 }])
  (.cond (.var 12) (.seq (.region [
    { op := .mov (.const (.int .i64 0)), dst := some 1 }])
  .ret) .skip))
  (.seq (.region [
    { op := .mov (.var 3) },
    { op := .call 109 [.loc 0] },
    { op := .alloc [.int .u64 0, .int .u64 0, .int .u64 0, .int .u64 0], dst := some 7 },
    { op := .store 4 (.loc 2) (.loc 1) }])
  (.seq (.seq (.region [
    { op := .mov (.var 2), dst := some 13 }])
  (.cond (.var 13) (.region [
    { op := .load 4 true (.var 7) },
    { op := .call 101 [.loc 0] },
    { op := .store 4 (.var 7) (.loc 1) }]) .skip))
  (.seq (.seq (.region [
    { op := .load 4 true (.var 7) },
    { op := .build [.int .u64 0, .int .u64 0, .int .u64 0, .int .u64 0] [] },
    { op := .eqs false [.int, .int, .int, .int] true (.loc 0) (.loc 1), dst := some 14 }])
  (.cond (.var 14) (.seq (.region [
    { op := .mov (.var 0) },
    { op := .mov (.var 0) },
    { op := .nilchk (.loc 1) },
    { op := .faddr 1 (.loc 2) },
    { op := .load 1 false (.loc 3) },
    { op := .call 51 [.loc 0, .const (.int .i64 44), .loc 4] }])
  (.seq (.region [
    { op := .mov (.const (.int .i64 0)), dst := some 1 }])
  .ret)) .skip))
  (.seq (.region [
    { op := .mov (.var 0) },
    { op := .nilchk (.loc 0) },
    { op := .faddr 1 (.loc 1) },
    { op := .load 1 false (.loc 2) },
    { op := .bin .add (.loc 3) (.const (.int .i64 1)) },
    { op := .nilchk (.loc 0) },
    { op := .faddr 1 (.loc 5) },
    { op := .store 1 (.loc 6) (.loc 4) }])
  (.seq (.region [
    { op := .mov (.var 0) },
    { op := .load 4 true (.var 7) },
    { op := .build [.int .u8 0, .int .u64 0, .int .u64 0, .int .u64 0, .int .u64 0, .nilsl, .int .i64 0, .int .i64 0, .str []] [(0, 1, .const (.int .u8 2)), (1, 4, .loc 1)] },
    { op := .call 59 [.loc 0, .loc 2] },
    { op := .mov (.loc 3), dst := some 1 }])
  .ret)))))))))))) }

/-- raddle/raddleref04.letter -/
def a76 : AFun := { nargs := 1, ps := [0, 2], res := [.var 1], body :=
  (.seq (.region [
    { op := .mov (.const (.bool false)), dst := some 1 }])
  (.seq (.region [
    { op := .mov (.var 0) },
    { op := .bin .geq (.loc 0) (.const (.int .u8 97)) },
    { op := .mov (.loc 1) },
    { op := .mov (.var 0), guard := some (2, true) },
    { op := .bin .leq (.loc 3) (.const (.int .u8 122)), guard := some (2, true) },
    { op := .pick (.loc 2) (.loc 4) (.const (.bool false)) },
    { op := .mov (.loc 5) },
    { op := .mov (.var 0), guard := some (6, false) },
    { op := .bin .geq (.loc 7) (.const (.int .u8 65)), guard := some (6, false) },
    { op := .mov (.loc 8), guard := some (6, false) },
    { op := .mov (.var 0), guard := some (9, true) },
    { op := .bin .leq (.loc 10) (.const (.int .u8 90)), guard := some (9, true) },
    { op := .pick (.loc 9) (.loc 11) (.const (.bool false)), guard := some (6, false) },
    { op := .pick (.loc 6) (.const (.bool true)) (.loc 12) },
    { op := .mov (.loc 13) },
    { op := .mov (.var 0), guard := some (14, false) },
    { op := .bin .eql (.loc 15) (.const (.int .u8 95)), guard := some (14, false) },
    { op := .pick (.loc 14) (.const (.bool true)) (.loc 16) },
    { op := .mov (.loc 17), dst := some 1 }])
  .ret)) }

/-- raddle/raddleref04.Name -/
def a57 : AFun := { nargs := 1, ps := [0, 2, 3, 7, 25], res := [.var 1], body :=
  (.seq (.region [
    { op := .mov (.const (.bool false)), dst := some 1 }])
  (.seq (.seq (.region [
    { op := .mov (.const (.int .i64 0)), dst := some 2 }])
  (.block 0 (.loop (.seq (.seq (.region [
    { op := .mov (.var 2) },
    { op := .mov (.var 0) },
    { op := .lenS (.loc 1) },
    { op := .bin .lss (.loc 0) (.loc 2), dst := some 3 }])
  (.cond (.var 3) .skip (.exit 0)))
  (.seq (.block 1 (.seq (.region [
    { op := .mov (.var 0) },
    { op := .mov (.var 2) },
    { op := .istr (.loc 0) (.loc 1) },
    { op := .call 76 [.loc 2] },
    { op := .un .not (.loc 3) },
    { op := .mov (.loc 4) },
    { op := .mov (.var 2), guard := some (5, true) },
    { op := .bin .eql (.loc 6) (.const (.int .i64 0)), guard := some (5, true) },
    { op := .mov (.loc 7), guard := some (5, true) },
    { op := .mov (.var 0), guard := some (8, false) },
    { op := .mov (.var 2), guard := some (8, false) },
    { op := .istr (.loc 9) (.loc 10), guard := some (8, false) },
    { op := .call 77 [.loc 11], guard := some (8, false) },
    { op := .un .not (.loc 12), guard := some (8, false) },
    { op := .pick (.loc 8) (.const (.bool true)) (.loc 13), guard := some (5, true) },
    { op := .pick (.loc 5) (.loc 14) (.const (.bool false)), dst := some 4 }])
  (.cond (.var 4) (.seq (.region [
    { op := .mov (.const (.bool false)), dst := some 1 }])
  .ret) .skip)))
  (.region [
    { op := .mov (.var 2) },
    { op := .bin .add (.loc 0) (.const (.int .i64 1)) },
    { op := .mov (.loc 1), dst := some 2 }]))))))
  (.seq (.region [
    { op := .mov (.var 0) },
    { op := .lenS (.loc 0) },
    { op := .bin .geq (.loc 1) (.const (.int .i64 1)) },
    { op := .mov (.loc 2) },
    { op := .mov (.var 0), guard := some (3, true) },
    { op := .lenS (.loc 4), guard := some (3, true) },
    { op := .bin .leq (.loc 5) (.const (.int .i64 32)), guard := some (3, true) },
    { op := .pick (.loc 3) (.loc 6) (.const (.bool false)) },
    { op := .mov (.loc 7), dst := some 1 }])
  .ret))) }

/-- (*raddle/raddleref04.reader).name -/
def a102 : AFun := { nargs := 1, ps := [0, 2, 3, 29, 38, 57], res := [.var 1], body :=
  (.seq (.region [
    { op := .mov (.const (.int .i64 0)), dst := some 1 }])
  (.seq (.region [
    { op := .mov (.var 0) },
    { op := .nilchk (.loc 0) },
    { op := .faddr 1 (.loc 1) },
    { op := .load 1 false (.loc 2) },
    { op := .bin .add (.loc 3) (.const (.int .i64 1)) },
    { op := .nilchk (.loc 0) },
    { op := .faddr 1 (.loc 5) },
    { op := .store 1 (.loc 6) (.loc 4) }])
  (.seq (.region [
    { op := .mov (.var 0) },
    { op := .nilchk (.loc 0) },
    { op := .faddr 1 (.loc 1) },
    { op := .load 1 false (.loc 2) },
    { op := .mov (.loc 3), dst := some 2 }])
  (.seq (.block 0 (.loop (.seq (.seq (.region [
    { op := .mov (.var 0) },
    { op := .call 50 [.loc 0] },
    { op := .un .not (.loc 1) },
    { op := .mov (.loc 2) },
    { op := .mov (.var 0), guard := some (3, true) },
    { op := .nilchk (.loc 4), guard := some (3, true) },
    { op := .faddr 0 (.loc 5), guard := some (3, true) },
    { op := .load 1 false (.loc 6), guard := some (3, true) },
    { op := .mov (.var 0), guard := some (3, true) },
    { op := .nilchk (.loc 8), guard := some (3, true) },
    { op := .faddr 1 (.loc 9), guard := some (3, true) },
    { op := .load 1 false (.loc 10), guard := some (3, true) },
    { op := .istr (.loc 7) (.loc 11), guard := some (3, true) },
    { op := .bin .neq (.loc 12) (.const (.int .u8 125)), guard := some (3, true) },
    { op := .pick (.loc 3) (.loc 13) (.const (.bool false)), dst := some 3 }])
  (.cond (.var 3) .skip (.exit 0)))
  (.block 1 (.region [
    { op := .mov (.var 0) },
    { op := .nilchk (.loc 0) },
    { op := .faddr 1 (.loc 1) },
    { op := .load 1 false (.loc 2) },
    { op := .bin .add (.loc 3) (.const (.int .i64 1)) },
    { op := .nilchk (.loc 0) },
    { op := .faddr 1 (.loc 5) },
    { op := .store 1 (.loc 6) (.loc 4) }])))))
  (.seq (.seq (.region [
    { op := .mov (.var 0) },
    { op := .call 50 [.loc 0], dst := some 4 }])
  (.cond (.var 4) (.seq (.region [
    { op := .mov (.var 0) },
    { op := .mov (.var 0) },
    { op := .nilchk (.loc 1) },
    { op := .faddr 0 (.loc 2) },
    { op := .load 1 false (.loc 3) },
    { op := .lenS (.loc 4) },
    { op := .call 51 [.loc 0, .const (.int .i64 40), .loc 5] }])
  (.seq (.region [
    { op := .mov (.const (.int .i64 0)), dst := some 1 }])
  .ret)) .skip))
  (.seq (.seq (.region [
    { op := .mov (.var 0) },
    { op := .nilchk (.loc 0) },
    { op := .faddr 0 (.loc 1) },
    { op := .load 1 false (.loc 2) },
    { op := .mov (.var 2) },
    { op := .mov (.var 0) },
    { op := .nilchk (.loc 5) },
    { op := .faddr 1 (.loc 6) },
    { op := .load 1 false (.loc 7) },
    { op := .slstr (.loc 3) (some (.loc 4)) (some (.loc 8)) },
    { op := .call 57 [.loc 9] },
    { op := .un .not (.loc 10), dst := some 5 }])
  (.cond (.var 5) (.seq (.region [
    { op := .mov (.var 0) },
    { op := .mov (.var 2) },
    { op := .call 51 [.loc 0, .const (.int .i64 41), .loc 1] }])
  (.seq (.region [
    { op := .mov (.const (.int .i64 0)), dst := some 1 }])
  .ret)) .skip))
  (.seq (.region [
    { op := .mov (.var 0) },
    { op := .nilchk (.loc 0) },
    { op := .faddr 1 (.loc 1) },
    { op := .load 1 false (.loc 2) },
    { op := .bin .add (.loc 3) (.const (.int .i64 1)) },
    { op := .nilchk (.loc 0) },
    { op := .faddr 1 (.loc 5) },
    { op := .store 1 (.loc 6) (.loc 4) }])
  (.seq (.region [
    { op := .mov (.var 0) },
    { op := .mov (.var 0) },
    { op := .nilchk (.loc 1) },
    { op := .faddr 0 (.loc 2) },
    { op := .load 1 false (.loc 3) },
    { op := .mov (.var 2) },
    { op := .mov (.var 0) },
    { op := .nilchk (.loc 6) },
    { op := .faddr 1 (.loc 7) },
    { op := .load 1 false (.loc 8) },
    { op := .bin .sub (.loc 9) (.const (.int .i64 1)) },
    { op := .slstr (.loc 4) (some (.loc 5)) (some (.loc 10)) },
    { op := .build [.int .u8 0, .int .u64 0, .int .u64 0, .int .u64 0, .int .u64 0, .nilsl, .int .i64 0, .int .i64 0, .str []] [(0, 1, .const (.int .u8 6)), (8, 1, .loc 11)] },
    { op := .call 59 [.loc 0, .loc 12] },
    { op := .mov (.loc 13), dst := some 1 }])
  .ret)))))))) }

/-- (*raddle/raddleref04.reader).atom -/
def a93 : AFun := { nargs := 1, ps := [0, 2, 3, 4, 14, 19, 24, 40, 72, 85, 105], res := [.var 1], body :=
  (.seq (.region [
    { op := .mov (.const (.int .i64 0)), dst := some 1 }])
  (.seq (.region [
    { op := .mov (.var 0) },
    { op := .nilchk (.loc 0) },
    { op := .faddr 0 (.loc 1) },
    { op := .load 1 false (.loc 2) },
    { op := .mov (.var 0) },
    { op := .nilchk (.loc 4) },
    { op := .faddr 1 (.loc 5) },
    { op := .load 1 false (.loc 6) },
    { op := .istr (.loc 3) (.loc 7) },
    { op := .mov (.loc 8), dst := some 2 }])
  (.seq (.block 0 (.seq (.region [
    { op := .mov (.var 2) },
    { op := .bin .eql (.loc 0) (.const (.int .u8 40)) },
    { op := .mov (.loc 1), dst := some 4 }])
  (.cond (.var 4) (.seq (.region [
    { op := .mov (.var 0) },
    { op := .call 99 [.loc 0] },
    { op := .mov (.loc 1), dst := some 1 }])
  .ret) (.seq (.region [
    { op := .mov (.var 2) },
    { op := .bin .eql (.loc 0) (.const (.int .u8 91)) },
    { op := .mov (.loc 1), dst := some 5 }])
  (.cond (.var 5) (.seq (.region [
    { op := .mov (.var 0) },
    { op := .call 100 [.loc 0] },
    { op := .mov (.loc 1), dst := some 1 }])
  .ret) (.seq (.region [
    { op := .mov (.var 2) },
    { op := .bin .eql (.loc 0) (.const (.int .u8 46)) },
    { op := .mov (.loc 1), dst := some 6 }])
  (.cond (.var 6) (.seq (.region [
    { op := .mov (.var 0) },
    { op := .nilchk (.loc 0) },
    { op := .faddr 1 (.loc 1) },
    { op := .load 1 false (.loc 2) },
    { op := .bin .add (.loc 3) (.const (.int .i64 1)) },
    { op := .nilchk (.loc 0) },
    { op := .faddr 1 (.loc 5) },
    { op := .store 1 (.loc 6) (.loc 4) }])
  (.seq (.region [
    { op := .mov (.var 0) },
    { op := .mkslice 1 1 [.int .u8 0] [(0, 1, .const (.int .u8 10))] },
    { op := .call 14 [.loc 1] },
    { op := .call 101 [.loc 2] },
    { op := .build [.int .u8 0, .int .u64 0, .int .u64 0, .int .u64 0, .int .u64 0, .nilsl, .int .i64 0, .int .i64 0, .str []] [(0, 1, .const (.int .u8 2)), (1, 4, .loc 3)] },
    { op := .call 59 [.loc 0, .loc 4] },
    { op := .mov (.loc 5), dst := some 1 }])
  .ret)) (.seq (.region [
    { op := .mov (.var 2) },
    { op := .bin .eql (.loc 0) (.const (.int .u8 123)) },
    { op := .mov (.loc 1) },
    { op := .mov (.var 0), guard := some (2, true) },
    { op := .nilchk (.loc 3), guard := some (2, true) },
    { op := .faddr 1 (.loc 4), guard := some (2, true) },
    { op := .load 1 false (.loc 5), guard := some (2, true) },
    { op := .bin .add (.loc 6) (.const (.int .i64 1)), guard := some (2, true) },
    { op := .mov (.var 0), guard := some (2, true) },
    { op := .nilchk (.loc 8), guard := some (2, true) },
    { op := .faddr 0 (.loc 9), guard := some (2, true) },
    { op := .load 1 false (.loc 10), guard := some (2, true) },
    { op := .lenS (.loc 11), guard := some (2, true) },
    { op := .bin .geq (.loc 7) (.loc 12), guard := some (2, true) },
    { op := .mov (.loc 13), guard := some (2, true) },
    { op := .mov (.var 0), guard := some (14, false) },
    { op := .nilchk (.loc 15), guard := some (14, false) },
    { op := .faddr 0 (.loc 16), guard := some (14, false) },
    { op := .load 1 false (.loc 17), guard := some (14, false) },
    { op := .mov (.var 0), guard := some (14, false) },
    { op := .nilchk (.loc 19), guard := some (14, false) },
    { op := .faddr 1 (.loc 20), guard := some (14, false) },
    { op := .load 1 false (.loc 21), guard := some (14, false) },
    { op := .bin .add (.loc 22) (.const (.int .i64 1)), guard := some (14, false) },
    { op := .istr (.loc 18) (.loc 23), guard := some (14, false) },
    { op := .call 77 [.loc 24], guard := some (14, false) },
    { op := .un .not (.loc 25), guard := some (14, false) },
    { op := .pick (.loc 14) (.const (.bool true)) (.loc 26), guard := some (2, true) },
    { op := .pick (.loc 2) (.loc 27) (.const (.bool false)) },
    { op := .mov (.loc 28), dst := some 7 }])
  (.cond (.var 7) (.seq (.region [
    { op := .mov (.var 0) },
    { op := .call 102 [.loc 0] },
    { op := .mov (.loc 1), dst := some 1 }])
  .ret) (.seq (.region [
    { op := .mov (.var 2) },
    { op := .bin .eql (.loc 0) (.const (.int .u8 47)) },
    { op := .mov (.loc 1) },
    { op := .mov (.var 2), guard := some (2, false) },
    { op := .bin .eql (.loc 3) (.const (.int .u8 36)), guard := some (2, false) },
    { op := .pick (.loc 2) (.const (.bool true)) (.loc 4) },
    { op := .mov (.loc 5), dst := some 8 }])
  (.cond (.var 8) (.seq (.region [
    { op := .mov (.var 0) },
    { op := .mov (.var 0) },
    { op := .nilchk (.loc 1) },
    { op := .faddr 1 (.loc 2) },
    { op := .load 1 false (.loc 3) },
    { op := .call 51 [.loc 0, .const (.int .i64 42), .loc 4] }])
  (.seq (.region [
    { op := .mov (.const (.int .i64 0)), dst := some 1 }])
  .ret)) (.seq (.region [
    { op := .mov (.var 2) },
    { op := .bin .neq (.loc 0) (.const (.int .u8 92)) },
    { op := .mov (.loc 1) },
    { op := .mov (.var 2), guard := some (2, true) },
    { op := .call 104 [], guard := some (2, true) },
    { op := .call 103 [.loc 3, .loc 4], guard := some (2, true) },
    { op := .pick (.loc 2) (.loc 5) (.const (.bool false)) },
    { op := .mov (.loc 6), dst := some 9 }])
  (.cond (.var 9) (.seq (.region [
    { op := .mov (.var 0) },
    { op := .mov (.var 0) },
    { op := .nilchk (.loc 1) },
    { op := .faddr 1 (.loc 2) },
    { op := .load 1 false (.loc 3) },
    { op := .call 51 [.loc 0, .const (.int .i64 41), .loc 4] }])
  (.seq (.region [
    { op := .mov (.const (.int .i64 0)), dst := some 1 }])
  .ret)) .skip)))))))))))))
  (.seq (.region [
    { op := .mov (.var 0) },
    { op := .call 105 [.loc 0] },
    { op := .mov (.loc 1), dst := some 3 }])
  (.seq (.seq (.region [
    { op := .mov (.var 0) },
    { op := .nilchk (.loc 0) },
    { op := .faddr 4 (.loc 1) },
    { op := .load 1 false (.loc 2) },
    { op := .bin .neq (.loc 3) (.const (.int .i64 0)), dst := some 10 }])
  (.cond (.var 10) (.seq (.region [
    { op := .mov (.const (.int .i64 0)), dst := some 1 }])
  .ret) .skip))
  (.seq (.region [
    { op := .mov (.var 0) },
    { op := .mov (.var 3) },
    { op := .mkslice 1 1 [.int .u8 0] [(0, 1, .loc 1)] },
    { op := .call 14 [.loc 2] },
    { op := .build [.int .u8 0, .int .u64 0, .int .u64 0, .int .u64 0, .int .u64 0, .nilsl, .int .i64 0, .int .i64 0, .str []] [(0, 1, .const (.int .u8 2)), (1, 4, .loc 3)] },
    { op := .call 59 [.loc 0, .loc 4] },
    { op := .mov (.loc 5), dst := some 1 }])
  .ret)))))) }

/-- (*raddle/raddleref04.reader).number -/
def a106 : AFun := { nargs := 1, ps := [0, 2, 3, 4, 23, 70], res := [.var 1], body :=
  (.seq (.region [
    { op := .mov (.const (.int .i64 0)), dst := some 1 }])
  (.seq (.region [
    { op := .mov (.const (.int .i64 0)), dst := some 2 }])
  (.seq (.region [
    { op := .mov (.var 0) },
    { op := .nilchk (.loc 0) },
    { op := .faddr 1 (.loc 1) },
    { op := .load 1 false (.loc 2) },
    { op := .mov (.loc 3), dst := some 3 }])
  (.seq (.block 0 (.loop (.seq (.seq (.region [
    { op := .mov (.var 0) },
    { op := .call 50 [.loc 0] },
    { op := .un .not (.loc 1) },
    { op := .mov (.loc 2) },
    { op := .mov (.var 0), guard := some (3, true) },
    { op := .nilchk (.loc 4), guard := some (3, true) },
    { op := .faddr 0 (.loc 5), guard := some (3, true) },
    { op := .load 1 false (.loc 6), guard := some (3, true) },
    { op := .mov (.var 0), guard := some (3, true) },
    { op := .nilchk (.loc 8), guard := some (3, true) },
    { op := .faddr 1 (.loc 9), guard := some (3, true) },
    { op := .load 1 false (.loc 10), guard := some (3, true) },
    { op := .istr (.loc 7) (.loc 11), guard := some (3, true) },
    { op := .call 77 [.loc 12], guard := some (3, true) },
    { op := .pick (.loc 3) (.loc 13) (.const (.bool false)), dst := some 4 }])
  (.cond (.var 4) .skip (.exit 0)))
  (.block 1 (.seq (.region [
    { op := .mov (.var 2) },
    { op := .bin .mul (.loc 0) (.const (.int .i64 10)) },
    { op := .mov (.var 0) },
    { op := .nilchk (.loc 2) },
    { op := .faddr 0 (.loc 3) },
    { op := .load 1 false (.loc 4) },
    { op := .mov (.var 0) },
    { op := .nilchk (.loc 6) },
    { op := .faddr 1 (.loc 7) },
    { op := .load 1 false (.loc 8) },
    { op := .istr (.loc 5) (.loc 9) },
    { op := .bin .sub (.loc 10) (.const (.int .u8 48)) },
    { op := .conv .i64 (.loc 11) },
    { op := .bin .add (.loc 1) (.loc 12) },
    { op := .minmax false (.loc 13) (.const (.int .i64 1000000)) },
    { op := .mov (.loc 14), dst := some 2 }])
  (.region [
    { op := .mov (.var 0) },
    { op := .nilchk (.loc 0) },
    { op := .faddr 1 (.loc 1) },
    { op := .load 1 false (.loc 2) },
    { op := .bin .add (.loc 3) (.const (.int .i64 1)) },
    { op := .nilchk (.loc 0) },
    { op := .faddr 1 (.loc 5) },
    { op := .store 1 (.loc 6) (.loc 4) }]))))))
  (.seq (.seq (.region [
    { op := .mov (.var 0) },
    { op := .nilchk (.loc 0) },
    { op := .faddr 1 (.loc 1) },
    { op := .load 1 false (.loc 2) },
    { op := .mov (.var 3) },
    { op := .bin .sub (.loc 3) (.loc 4) },
    { op := .bin .gtr (.loc 5) (.const (.int .i64 6)) },
    { op := .mov (.loc 6) },
    { op := .mov (.var 0), guard := some (7, false) },
    { op := .nilchk (.loc 8), guard := some (7, false) },
    { op := .faddr 0 (.loc 9), guard := some (7, false) },
    { op := .load 1 false (.loc 10), guard := some (7, false) },
    { op := .mov (.var 3), guard := some (7, false) },
    { op := .istr (.loc 11) (.loc 12), guard := some (7, false) },
    { op := .bin .eql (.loc 13) (.const (.int .u8 48)), guard := some (7, false) },
    { op := .mov (.loc 14), guard := some (7, false) },
    { op := .mov (.var 0), guard := some (15, true) },
    { op := .nilchk (.loc 16), guard := some (15, true) },
    { op := .faddr 1 (.loc 17), guard := some (15, true) },
    { op := .load 1 false (.loc 18), guard := some (15, true) },
    { op := .mov (.var 3), guard := some (15, true) },
    { op := .bin .sub (.loc 19) (.loc 20), guard := some (15, true) },
    { op := .bin .gtr (.loc 21) (.const (.int .i64 1)), guard := some (15, true) },
    { op := .pick (.loc 15) (.loc 22) (.const (.bool false)), guard := some (7, false) },
    { op := .pick (.loc 7) (.const (.bool true)) (.loc 23), dst := some 5 }])
  (.cond (.var 5) (.seq (.region [
    { op := .mov (.const (.int .i64 (-1))), dst := some 1 }])
  .ret) .skip))
  (.seq (.region [
    { op := .mov (.var 2) },
    { op := .mov (.loc 0), dst := some 1 }])
  .ret)))))) }

/-- (*raddle/raddleref04.reader).bounds -/
def a94 : AFun := { nargs := 1, ps := [0, 2, 3, 4, 5, 6, 35, 57, 61, 63, 80, 116], res := [.var 1, .var 2], body :=
  (.seq (.region [
    { op := .mov (.const (.int .i64 0)), dst := some 1 },
    { op := .mov (.const (.int .i64 0)), dst := some 2 }])
  (.seq (.region [
    { op := .mov (.var 0) },
    { op := .nilchk (.loc 0) },
    { op := .faddr 1 (.loc 1) },
    { op := .load 1 false (.loc 2) },
    { op := .mov (.loc 3), dst := some 3 }])
  (.seq (.region [
    { op := .mov (.var 0) },
    { op := .nilchk (.loc 0) },
    { op := .faddr 1 (.loc 1) },
    { op := .load 1 false (.loc 2) },
    { op := .bin .add (.loc 3) (.const (.int .i64 1)) },
    { op := .nilchk (.loc 0) },
    { op := .faddr 1 (.loc 5) },
    { op := .store 1 (.loc 6) (.loc 4) }])
  (.seq (.region [
    { op := .mov (.var 0) },
    { op := .call 106 [.loc 0] },
    { op := .mov (.loc 1), dst := some 4 }])
  (.seq (.region [
    { op := .mov (.var 4) },
    { op := .mov (.loc 0), dst := some 5 }])
  (.seq (.seq (.region [
    { op := .mov (.var 0) },
    { op := .call 50 [.loc 0] },
    { op := .un .not (.loc 1) },
    { op := .mov (.loc 2) },
    { op := .mov (.var 0), guard := some (3, true) },
    { op := .nilchk (.loc 4), guard := some (3, true) },
    { op := .faddr 0 (.loc 5), guard := some (3, true) },
    { op := .load 1 false (.loc 6), guard := some (3, true) },
    { op := .mov (.var 0), guard := some (3, true) },
    { op := .nilchk (.loc 8), guard := some (3, true) },
    { op := .faddr 1 (.loc 9), guard := some (3, true) },
    { op := .load 1 false (.loc 10), guard := some (3, true) },
    { op := .istr (.loc 7) (.loc 11), guard := some (3, true) },
    { op := .bin .eql (.loc 12) (.const (.int .u8 44)), guard := some (3, true) },
    { op := .pick (.loc 3) (.loc 13) (.const (.bool false)), dst := some 6 }])
  (.cond (.var 6) (.seq (.region [
    { op := .mov (.var 0) },
    { op := .nilchk (.loc 0) },
    { op := .faddr 1 (.loc 1) },
    { op := .load 1 false (.loc 2) },
    { op := .bin .add (.loc 3) (.const (.int .i64 1)) },
    { op := .nilchk (.loc 0) },
    { op := .faddr 1 (.loc 5) },
    { op := .store 1 (.loc 6) (.loc 4) }])
  (.seq (.region [
    { op := .mov (.const (.int .i64 (-1))), dst := some 5 }])
  (.seq (.region [
    { op := .mov (.var 0) },
    { op := .call 50 [.loc 0] },
    { op := .un .not (.loc 1) },
    { op := .mov (.loc 2) },
    { op := .mov (.var 0), guard := some (3, true) },
    { op := .nilchk (.loc 4), guard := some (3, true) },
    { op := .faddr 0 (.loc 5), guard := some (3, true) },
    { op := .load 1 false (.loc 6), guard := some (3, true) },
    { op := .mov (.var 0), guard := some (3, true) },
    { op := .nilchk (.loc 8), guard := some (3, true) },
    { op := .faddr 1 (.loc 9), guard := some (3, true) },
    { op := .load 1 false (.loc 10), guard := some (3, true) },
    { op := .istr (.loc 7) (.loc 11), guard := some (3, true) },
    { op := .call 77 [.loc 12], guard := some (3, true) },
    { op := .pick (.loc 3) (.loc 13) (.const (.bool false)), dst := some 7 }])
  (.cond (.var 7) (.seq (.region [
    { op := .mov (.var 0) },
    { op := .call 106 [.loc 0] },
    { op := .mov (.loc 1), dst := some 5 }])
  (.seq (.region [
    { op := .mov (.var 5) },
    { op := .bin .lss (.loc 0) (.const (.int .i64 0)), dst := some 8 }])
  (.cond (.var 8) (.region [
    { op := .mov (.const (.int .i64 (-1))), dst := some 4 }]) .skip))) .skip)))) .skip))
  (.seq (.seq (.region [
    { op := .mov (.var 0) },
    { op := .call 50 [.loc 0], dst := some 9 }])
  (.cond (.var 9) (.seq (.region [
    { op := .mov (.var 0) },
    { op := .mov (.var 0) },
    { op := .nilchk (.loc 1) },
    { op := .faddr 0 (.loc 2) },
    { op := .load 1 false (.loc 3) },
    { op := .lenS (.loc 4) },
    { op := .call 51 [.loc 0, .const (.int .i64 40), .loc 5] }])
  (.seq (.region [
    { op := .mov (.const (.int .i64 0)), dst := some 1 },
    { op := .mov (.const (.int .i64 0)), dst := some 2 }])
  .ret)) .skip))
  (.seq (.seq (.region [
    { op := .mov (.var 0) },
    { op := .nilchk (.loc 0) },
    { op := .faddr 0 (.loc 1) },
    { op := .load 1 false (.loc 2) },
    { op := .mov (.var 0) },
    { op := .nilchk (.loc 4) },
    { op := .faddr 1 (.loc 5) },
    { op := .load 1 false (.loc 6) },
    { op := .istr (.loc 3) (.loc 7) },
    { op := .bin .neq (.loc 8) (.const (.int .u8 125)), dst := some 10 }])
  (.cond (.var 10) (.seq (.region [
    { op := .mov (.var 0) },
    { op := .mov (.var 0) },
    { op := .nilchk (.loc 1) },
    { op := .faddr 1 (.loc 2) },
    { op := .load 1 false (.loc 3) },
    { op := .call 51 [.loc 0, .const (.int .i64 41), .loc 4] }])
  (.seq (.region [
    { op := .mov (.const (.int .i64 0)), dst := some 1 },
    { op := .mov (.const (.int .i64 0)), dst := some 2 }])
  .ret)) .skip))
  (.seq (.region [
    { op := .mov (.var 0) },
    { op := .nilchk (.loc 0) },
    { op := .faddr 1 (.loc 1) },
    { op := .load 1 false (.loc 2) },
    { op := .bin .add (.loc 3) (.const (.int .i64 1)) },
    { op := .nilchk (.loc 0) },
    { op := .faddr 1 (.loc 5) },
    { op := .store 1 (.loc 6) (.loc 4) }])
  (.seq (.seq (.region [
    { op := .mov (.var 4) },
    { op := .bin .lss (.loc 0) (.const (.int .i64 0)) },
    { op := .mov (.loc 1) },
    { op := .mov (.var 4), guard := some (2, false) },
    { op := .bin .gtr (.loc 3) (.const (.int .i64 4096)), guard := some (2, false) },
    { op := .pick (.loc 2) (.const (.bool true)) (.loc 4) },
    { op := .mov (.loc 5) },
    { op := .mov (.var 5), guard := some (6, false) },
    { op := .bin .gtr (.loc 7) (.const (.int .i64 4096)), guard := some (6, false) },
    { op := .pick (.loc 6) (.const (.bool true)) (.loc 8) },
    { op := .mov (.loc 9) },
    { op := .mov (.var 5), guard := some (10, false) },
    { op := .bin .eql (.loc 11) (.const (.int .i64 0)), guard := some (10, false) },
    { op := .pick (.loc 10) (.const (.bool true)) (.loc 12) },
    { op := .mov (.loc 13) },
    { op := .mov (.var 5), guard := some (14, false) },
    { op := .bin .gtr (.loc 15) (.const (.int .i64 0)), guard := some (14, false) },
    { op := .mov (.loc 16), guard := some (14, false) },
    { op := .mov (.var 5), guard := some (17, true) },
    { op := .mov (.var 4), guard := some (17, true) },
    { op := .bin .lss (.loc 18) (.loc 19), guard := some (17, true) },
    { op := .pick (.loc 17) (.loc 20) (.const (.bool false)), guard := some (14, false) },
    { op := .pick (.loc 14) (.const (.bool true)) (.loc 21), dst := some 11 }])
  (.cond (.var 11) (.region [
    { op := .mov (.var 0) },
    { op := .mov (.var 3) },
    { op := .call 51 [.loc 0, .const (.int .i64 45), .loc 1] }]) .skip))
  (.seq (.region [
    { op := .mov (.var 4) },
    { op := .mov (.var 5) },
    { op := .mov (.loc 0), dst := some 1 },
    { op := .mov (.loc 1), dst := some 2 }])
  .ret))))))))))) }

/-- (*raddle/raddleref04.reader).item -/
def a78 : AFun := { nargs := 1, ps := [0, 2, 3, 4, 5, 6, 11, 22, 32, 42, 52, 90], res := [.var 1], body :=
  (.seq (.region [
    { op := .mov (.const (.int .i64 0)), dst := some 1 }])
  (.seq (.region [
    { op := .mov (.var 0) },
    { op := .call 93 [.loc 0] },
    { op := .mov (.loc 1), dst := some 2 }])
  (.seq (.block 0 (.loop (.seq (.seq (.region [
    { op := .mov (.var 0) },
    { op := .call 50 [.loc 0] },
    { op := .un .not (.loc 1), dst := some 6 }])
  (.cond (.var 6) .skip (.exit 0)))
  (.block 1 (.seq (.region [
    { op := .mov (.const (.int .i64 0)), dst := some 3 },
    { op := .mov (.const (.int .i64 (-1))), dst := some 4 }])
  (.seq (.region [
    { op := .mov (.var 0) },
    { op := .nilchk (.loc 0) },
    { op := .faddr 0 (.loc 1) },
    { op := .load 1 false (.loc 2) },
    { op := .mov (.var 0) },
    { op := .nilchk (.loc 4) },
    { op := .faddr 1 (.loc 5) },
    { op := .load 1 false (.loc 6) },
    { op := .istr (.loc 3) (.loc 7) },
    { op := .mov (.loc 8), dst := some 5 }])
  (.seq (.block 2 (.seq (.region [
    { op := .mov (.var 5) },
    { op := .bin .eql (.loc 0) (.const (.int .u8 42)) },
    { op := .mov (.loc 1), dst := some 7 }])
  (.cond (.var 7) (.region [
    { op := .mov (.var 0) },
    { op := .nilchk (.loc 0) },
    { op := .faddr 1 (.loc 1) },
    { op := .load 1 false (.loc 2) },
    { op := .bin .add (.loc 3) (.const (.int .i64 1)) },
    { op := .nilchk (.loc 0) },
    { op := .faddr 1 (.loc 5) },
    { op := .store 1 (.loc 6) (.loc 4) }]) (.seq (.region [
    { op := .mov (.var 5) },
    { op := .bin .eql (.loc 0) (.const (.int .u8 43)) },
    { op := .mov (.loc 1), dst := some 8 }])
  (.cond (.var 8) (.seq (.region [
    { op := .mov (.const (.int .i64 1)), dst := some 3 }])
  (.region [
    { op := .mov (.var 0) },
    { op := .nilchk (.loc 0) },
    { op := .faddr 1 (.loc 1) },
    { op := .load 1 false (.loc 2) },
    { op := .bin .add (.loc 3) (.const (.int .i64 1)) },
    { op := .nilchk (.loc 0) },
    { op := .faddr 1 (.loc 5) },
    { op := .store 1 (.loc 6) (.loc 4) }])) (.seq (.region [
    { op := .mov (.var 5) },
    { op := .bin .eql (.loc 0) (.const (.int .u8 63)) },
    { op := .mov (.loc 1), dst := some 9 }])
  (.cond (.var 9) (.seq (.region [
    { op := .mov (.const (.int .i64 1)), dst := some 4 }])
  (.region [
    { op := .mov (.var 0) },
    { op := .nilchk (.loc 0) },
    { op := .faddr 1 (.loc 1) },
    { op := .load 1 false (.loc 2) },
    { op := .bin .add (.loc 3) (.const (.int .i64 1)) },
    { op := .nilchk (.loc 0) },
    { op := .faddr 1 (.loc 5) },
    { op := .store 1 (.loc 6) (.loc 4) }])) (.seq (.region [
    { op := .mov (.var 5) },
    { op := .bin .eql (.loc 0) (.const (.int .u8 123)) },
    { op := .mov (.loc 1) },
    { op := .mov (.var 0), guard := some (2, true) },
    { op := .nilchk (.loc 3), guard := some (2, true) },
    { op := .faddr 1 (.loc 4), guard := some (2, true) },
    { op := .load 1 false (.loc 5), guard := some (2, true) },
    { op := .bin .add (.loc 6) (.const (.int .i64 1)), guard := some (2, true) },
    { op := .mov (.var 0), guard := some (2, true) },
    { op := .nilchk (.loc 8), guard := some (2, true) },
    { op := .faddr 0 (.loc 9), guard := some (2, true) },
    { op := .load 1 false (.loc 10), guard := some (2, true) },
    { op := .lenS (.loc 11), guard := some (2, true) },
    { op := .bin .lss (.loc 7) (.loc 12), guard := some (2, true) },
    { op := .pick (.loc 2) (.loc 13) (.const (.bool false)) },
    { op := .mov (.loc 14) },
    { op := .mov (.var 0), guard := some (15, true) },
    { op := .nilchk (.loc 16), guard := some (15, true) },
    { op := .faddr 0 (.loc 17), guard := some (15, true) },
    { op := .load 1 false (.loc 18), guard := some (15, true) },
    { op := .mov (.var 0), guard := some (15, true) },
    { op := .nilchk (.loc 20), guard := some (15, true) },
    { op := .faddr 1 (.loc 21), guard := some (15, true) },
    { op := .load 1 false (.loc 22), guard := some (15, true) },
    { op := .bin .add (.loc 23) (.const (.int .i64 1)), guard := some (15, true) },
    { op := .istr (.loc 19) (.loc 24), guard := some (15, true) },
    { op := .call 77 [.loc 25], guard := some (15, true) },
    { op := .pick (.loc 15) (.loc 26) (.const (.bool false)) },
    { op := .mov (.loc 27), dst := some 10 }])
  (.cond (.var 10) (.region [
    { op := .mov (.var 0) },
    { op := .call 94 [.loc 0] },
    { op := .mov (.loc 1) },
    { op := .extract 0 (.loc 2) },
    { op := .extract 1 (.loc 2) },
    { op := .mov (.loc 3), dst := some 3 },
    { op := .mov (.loc 4), dst := some 4 }]) (.seq (.region [
    { op := .mov (.var 2) },
    { op := .mov (.loc 0), dst := some 1 }])
  .ret))))))))))
  (.seq (.region [
    { op := .mov (.var 0) },
    { op := .nilchk (.loc 0) },
    { op := .faddr 4 (.loc 1) },
    { op := .load 1 false (.loc 2) },
    { op := .bin .eql (.loc 3) (.const (.int .i64 0)), dst := some 11 }])
  (.cond (.var 11) (.region [
    { op := .mov (.var 0) },
    { op := .mov (.var 2) },
    { op := .mkslice 1 1 [.int .i64 0] [(0, 1, .loc 1)] },
    { op := .mov (.var 3) },
    { op := .mov (.var 4) },
    { op := .build [.int .u8 0, .int .u64 0, .int .u64 0, .int .u64 0, .int .u64 0, .nilsl, .int .i64 0, .int .i64 0, .str []] [(0, 1, .const (.int .u8 5)), (5, 1, .loc 2), (6, 1, .loc 3), (7, 1, .loc 4)] },
    { op := .call 59 [.loc 0, .loc 5] },
    { op := .mov (.loc 6), dst := some 2 }]) .skip)))))))))
  (.seq (.region [
    { op := .mov (.var 2) },
    { op := .mov (.loc 0), dst := some 1 }])
  .ret)))) }

/-- (*raddle/raddleref04.reader).row -/
def a58 : AFun := { nargs := 1, ps := [0, 2, 3, 30, 40, 43, 49], res := [.var 1], body :=
  (.seq (.region [
    { op := .mov (.const (.int .i64 0)), dst := some 1 }])
  (.seq (.region [
    { op := .mov (.const (.nilsl)), dst := some 2 }])
  (.seq (.block 0 (.loop (.seq (.seq (.region [
    { op := .mov (.var 0) },
    { op := .call 50 [.loc 0] },
    { op := .un .not (.loc 1) },
    { op := .mov (.loc 2) },
    { op := .mov (.var 0), guard := some (3, true) },
    { op := .nilchk (.loc 4), guard := some (3, true) },
    { op := .faddr 0 (.loc 5), guard := some (3, true) },
    { op := .load 1 false (.loc 6), guard := some (3, true) },
    { op := .mov (.var 0), guard := some (3, true) },
    { op := .nilchk (.loc 8), guard := some (3, true) },
    { op := .faddr 1 (.loc 9), guard := some (3, true) },
    { op := .load 1 false (.loc 10), guard := some (3, true) },
    { op := .istr (.loc 7) (.loc 11), guard := some (3, true) },
    { op := .bin .neq (.loc 12) (.const (.int .u8 124)), guard := some (3, true) },
    { op := .pick (.loc 3) (.loc 13) (.const (.bool false)) },
    { op := .mov (.loc 14) },
    { op := .mov (.var 0), guard := some (15, true) },
    { op := .nilchk (.loc 16), guard := some (15, true) },
    { op := .faddr 0 (.loc 17), guard := some (15, true) },
    { op := .load 1 false (.loc 18), guard := some (15, true) },
    { op := .mov (.var 0), guard := some (15, true) },
    { op := .nilchk (.loc 20), guard := some (15, true) },
    { op := .faddr 1 (.loc 21), guard := some (15, true) },
    { op := .load 1 false (.loc 22), guard := some (15, true) },
    { op := .istr (.loc 19) (.loc 23), guard := some (15, true) },
    { op := .bin .neq (.loc 24) (.const (.int .u8 41)), guard := some (15, true) },
    { op := .pick (.loc 15) (.loc 25) (.const (.bool false)), dst := some 3 }])
  (.cond (.var 3) .skip (.exit 0)))
  (.block 1 (.region [
    { op := .mov (.var 2) },
    { op := .mov (.var 0) },
    { op := .call 78 [.loc 1] },
    { op := .mkslice 1 1 [.int .i64 0] [(0, 1, .loc 2)] },
    { op := .append 1 8 false (.loc 0) (.loc 3) },
    { op := .mov (.loc 4), dst := some 2 }])))))
  (.seq (.seq (.region [
    { op := .mov (.var 0) },
    { op := .nilchk (.loc 0) },
    { op := .faddr 4 (.loc 1) },
    { op := .load 1 false (.loc 2) },
    { op := .bin .neq (.loc 3) (.const (.int .i64 0)), dst := some 4 }])
  (.cond (.var 4) (.seq (.region [
    { op := .mov (.const (.int .i64 0)), dst := some 1 }])
  .ret) .skip))
  (.seq (.seq (.region [
    { op := .mov (.var 2) },
    { op := .lenL (.loc 0) },
    { op := .bin .eql (.loc 1) (.const (.int .i64 0)), dst := some 5 }])
  (.cond (.var 5) (.seq (.region [
    { op := .mov (.var 0) },
    { op := .build [.int .u8 0, .int .u64 0, .int .u64 0, .int .u64 0, .int .u64 0, .nilsl, .int .i64 0, .int .i64 0, .str []] [(0, 1, .const (.int .u8 1))] },
    { op := .call 59 [.loc 0, .loc 1] },
    { op := .mov (.loc 2), dst := some 1 }])
  .ret) .skip))
  (.seq (.seq (.region [
    { op := .mov (.var 2) },
    { op := .lenL (.loc 0) },
    { op := .bin .eql (.loc 1) (.const (.int .i64 1)), dst := some 6 }])
  (.cond (.var 6) (.seq (.region [
    { op := .mov (.var 2) },
    { op := .iaddr 1 (.loc 0) (.const (.int .i64 0)) },
    { op := .load 1 false (.loc 1) },
    { op := .mov (.loc 2), dst := some 1 }])
  .ret) .skip))
  (.seq (.region [
    { op := .mov (.var 0) },
    { op := .mov (.var 2) },
    { op := .build [.int .u8 0, .int .u64 0, .int .u64 0, .int .u64 0, .int .u64 0, .nilsl, .int .i64 0, .int .i64 0, .str []] [(0, 1, .const (.int .u8 3)), (5, 1, .loc 1)] },
    { op := .call 59 [.loc 0, .loc 2] },
    { op := .mov (.loc 3), dst := some 1 }])
  .ret))))))) }

/-- (*raddle/raddleref04.reader).alternative -/
def a49 : AFun := { nargs := 1, ps := [0, 2, 3, 21, 43], res := [.var 1], body :=
  (.seq (.region [
    { op := .mov (.const (.int .i64 0)), dst := some 1 }])
  (.seq (.region [
    { op := .mov (.var 0) },
    { op := .call 58 [.loc 0] },
    { op := .mkslice 1 1 [.int .i64 0] [(0, 1, .loc 1)] },
    { op := .mov (.loc 2), dst := some 2 }])
  (.seq (.block 0 (.loop (.seq (.seq (.region [
    { op := .mov (.var 0) },
    { op := .call 50 [.loc 0] },
    { op := .un .not (.loc 1) },
    { op := .mov (.loc 2) },
    { op := .mov (.var 0), guard := some (3, true) },
    { op := .nilchk (.loc 4), guard := some (3, true) },
    { op := .faddr 0 (.loc 5), guard := some (3, true) },
    { op := .load 1 false (.loc 6), guard := some (3, true) },
    { op := .mov (.var 0), guard := some (3, true) },
    { op := .nilchk (.loc 8), guard := some (3, true) },
    { op := .faddr 1 (.loc 9), guard := some (3, true) },
    { op := .load 1 false (.loc 10), guard := some (3, true) },
    { op := .istr (.loc 7) (.loc 11), guard := some (3, true) },
    { op := .bin .eql (.loc 12) (.const (.int .u8 124)), guard := some (3, true) },
    { op := .pick (.loc 3) (.loc 13) (.const (.bool false)), dst := some 3 }])
  (.cond (.var 3) .skip (.exit 0)))
  (.block 1 (.seq (.region [
    { op := .mov (.var 0) },
    { op := .nilchk (.loc 0) },
    { op := .faddr 1 (.loc 1) },
    { op := .load 1 false (.loc 2) },
    { op := .bin .add (.loc 3) (.const (.int .i64 1)) },
    { op := .nilchk (.loc 0) },
    { op := .faddr 1 (.loc 5) },
    { op := .store 1 (.loc 6) (.loc 4) }])
  (.region [
    { op := .mov (.var 2) },
    { op := .mov (.var 0) },
    { op := .call 58 [.loc 1] },
    { op := .mkslice 1 1 [.int .i64 0] [(0, 1, .loc 2)] },
    { op := .append 1 8 false (.loc 0) (.loc 3) },
    { op := .mov (.loc 4), dst := some 2 }]))))))
  (.seq (.seq (.region [
    { op := .mov (.var 2) },
    { op := .lenL (.loc 0) },
    { op := .bin .eql (.loc 1) (.const (.int .i64 1)) },
    { op := .mov (.loc 2) },
    { op := .mov (.var 0), guard := some (3, false) },
    { op := .nilchk (.loc 4), guard := some (3, false) },
    { op := .faddr 4 (.loc 5), guard := some (3, false) },
    { op := .load 1 false (.loc 6), guard := some (3, false) },
    { op := .bin .neq (.loc 7) (.const (.int .i64 0)), guard := some (3, false) },
    { op := .pick (.loc 3) (.const (.bool true)) (.loc 8), dst := some 4 }])
  (.cond (.var 4) (.seq (.region [
    { op := .mov (.var 2) },
    { op := .iaddr 1 (.loc 0) (.const (.int .i64 0)) },
    { op := .load 1 false (.loc 1) },
    { op := .mov (.loc 2), dst := some 1 }])
  .ret) .skip))
  (.seq (.region [
    { op := .mov (.var 0) },
    { op := .mov (.var 2) },
    { op := .build [.int .u8 0, .int .u64 0, .int .u64 0, .int .u64 0, .int .u64 0, .nilsl, .int .i64 0, .int .i64 0, .str []] [(0, 1, .const (.int .u8 4)), (5, 1, .loc 1)] },
    { op := .call 59 [.loc 0, .loc 2] },
    { op := .mov (.loc 3), dst := some 1 }])
  .ret))))) }

/-- raddle/raddleref04.Parse -/
def a33 : AFun := { nargs := 1, ps := [0, 2, 3, 4, 5, 8, 16, 27, 41], res := [.var 1, .var 2, .var 3], body :=
  (.seq (.region [
    { op := .mov (.const (.nilsl)), dst := some 1 },
    { op := .mov (.const (.int .i64 0)), dst := some 2 },
    { op := .mov (.const (.int .i64 0)), dst := some 3 }])
  (.seq (.seq (.region [
    { op := .mov (.var 0) },
    { op := .lenS (.loc 0) },
    { op := .bin .gtr (.loc 1) (.const (.int .i64 1024)), dst := some 5 }])
  (.cond (.var 5) (.seq (.region [
    { op := .mov (.const (.nilsl)), dst := some 1 },
    { op := .mov (.const (.int .i64 0)), dst := some 2 },
    { op := .mov (.const (.int .i64 3)), dst := some 3 }])
  .ret) .skip))
  (.seq (.region [
    { op := .mov (.var 0) },
    { op := .build [.str [], .int .i64 0, .nilsl, .int .i64 0, .int .i64 0, .int .i64 0] [(0, 1, .loc 0)] },
    { op := .box (.loc 1) },
    { op := .mov (.loc 2), dst := some 4 }])
  (.seq (.region [
    { op := .mov (.var 4) },
    { op := .call 49 [.loc 0] }])
  (.seq (.seq (.region [
    { op := .mov (.var 4) },
    { op := .call 50 [.loc 0] },
    { op := .un .not (.loc 1), dst := some 6 }])
  (.cond (.var 6) (.region [
    { op := .mov (.var 4) },
    { op := .mov (.var 4) },
    { op := .nilchk (.loc 1) },
    { op := .faddr 1 (.loc 2) },
    { op := .load 1 false (.loc 3) },
    { op := .call 51 [.loc 0, .const (.int .i64 41), .loc 4] }]) .skip))
  (.seq (.seq (.region [
    { op := .mov (.var 4) },
    { op := .nilchk (.loc 0) },
    { op := .faddr 4 (.loc 1) },
    { op := .load 1 false (.loc 2) },
    { op := .bin .neq (.loc 3) (.const (.int .i64 0)), dst := some 7 }])
  (.cond (.var 7) (.seq (.region [
    { op := .mov (.var 4) },
    { op := .nilchk (.loc 0) },
    { op := .faddr 5 (.loc 1) },
    { op := .load 1 false (.loc 2) },
    { op := .mov (.var 4) },
    { op := .nilchk (.loc 4) },
    { op := .faddr 4 (.loc 5) },
    { op := .load 1 false (.loc 6) },
    { op := .mov (.const (.nilsl)), dst := some 1 },
    { op := .mov (.loc 3), dst := some 2 },
    { op := .mov (.loc 7), dst := some 3 }])
  .ret) .skip))
  (.seq (.seq (.region [
    { op := .mov (.var 4) },
    { op := .nilchk (.loc 0) },
    { op := .faddr 2 (.loc 1) },
    { op := .load 1 false (.loc 2) },
    { op := .lenL (.loc 3) },
    { op := .bin .gtr (.loc 4) (.const (.int .i64 1024)), dst := some 8 }])
  (.cond (.var 8) (.seq (.region [
    { op := .mov (.const (.nilsl)), dst := some 1 },
    { op := .mov (.const (.int .i64 0)), dst := some 2 },
    { op := .mov (.const (.int .i64 3)), dst := some 3 }])
  .ret) .skip))
  (.seq (.region [
    { op := .mov (.var 4) },
    { op := .nilchk (.loc 0) },
    { op := .faddr 2 (.loc 1) },
    { op := .load 1 false (.loc 2) },
    { op := .mov (.loc 3), dst := some 1 },
    { op := .mov (.const (.int .i64 0)), dst := some 2 },
    { op := .mov (.const (.int .i64 0)), dst := some 3 }])
  .ret)))))))) }

/-- raddle/raddleref04.shape -/
def a45 : AFun := { nargs := 1, ps := [0, 1, 2, 3, 4, 5, 6, 23, 24, 42, 59, 78, 125], res := [.var 2], body :=
  (.seq (.region [
    { op := .box (.var 0), dst := some 1 },
    { op := .mov (.const (.bool false)), dst := some 2 }])
  (.seq (.region [
    { op := .faddr 1 (.var 1) },
    { op := .load 4 true (.loc 0) },
    { op := .build [.int .u64 0, .int .u64 0, .int .u64 0, .int .u64 0] [] },
    { op := .eqs true [.int, .int, .int, .int] true (.loc 1) (.loc 2) },
    { op := .mov (.loc 3), dst := some 3 }])
  (.seq (.region [
    { op := .faddr 6 (.var 1) },
    { op := .load 1 false (.loc 0) },
    { op := .bin .neq (.loc 1) (.const (.int .i64 0)) },
    { op := .mov (.loc 2) },
    { op := .faddr 7 (.var 1), guard := some (3, false) },
    { op := .load 1 false (.loc 4), guard := some (3, false) },
    { op := .bin .neq (.loc 5) (.const (.int .i64 0)), guard := some (3, false) },
    { op := .pick (.loc 3) (.const (.bool true)) (.loc 6) },
    { op := .mov (.loc 7), dst := some 4 }])
  (.seq (.region [
    { op := .faddr 8 (.var 1) },
    { op := .load 1 false (.loc 0) },
    { op := .bin .neq (.loc 1) (.const (.str [])) },
    { op := .mov (.loc 2), dst := some 5 }])
  (.seq (.seq (.region [
    { op := .faddr 0 (.var 1) },
    { op := .load 1 false (.loc 0), dst := some 7 }])
  (.block 0 (.seq (.region [
    { op := .bin .eql (.var 7) (.const (.int .u8 1)) },
    { op := .mov (.loc 0), dst := some 8 }])
  (.cond (.var 8) (.seq (.region [
    { op := .mov (.var 3) },
    { op := .un .not (.loc 0) },
    { op := .mov (.loc 1) },
    { op := .mov (.var 4), guard := some (2, true) },
    { op := .un .not (.loc 3), guard := some (2, true) },
    { op := .pick (.loc 2) (.loc 4) (.const (.bool false)) },
    { op := .mov (.loc 5) },
    { op := .mov (.var 5), guard := some (6, true) },
    { op := .un .not (.loc 7), guard := some (6, true) },
    { op := .pick (.loc 6) (.loc 8) (.const (.bool false)) },
    { op := .mov (.loc 9) },
    { op := .faddr 5 (.var 1), guard := some (10, true) },
    { op := .load 1 false (.loc 11), guard := some (10, true) },
    { op := .lenL (.loc 12), guard := some (10, true) },
    { op := .bin .eql (.loc 13) (.const (.int .i64 0)), guard := some (10, true) },
    { op := .pick (.loc 10) (.loc 14) (.const (.bool false)) },
    { op := .mov (.loc 15), dst := some 2 }])
  .ret) (.seq (.region [
    { op := .bin .eql (.var 7) (.const (.int .u8 2)) },
    { op := .mov (.loc 0), dst := some 9 }])
  (.cond (.var 9) (.seq (.region [
    { op := .mov (.var 3) },
    { op := .mov (.loc 0) },
    { op := .mov (.var 4), guard := some (1, true) },
    { op := .un .not (.loc 2), guard := some (1, true) },
    { op := .pick (.loc 1) (.loc 3) (.const (.bool false)) },
    { op := .mov (.loc 4) },
    { op := .mov (.var 5), guard := some (5, true) },
    { op := .un .not (.loc 6), guard := some (5, true) },
    { op := .pick (.loc 5) (.loc 7) (.const (.bool false)) },
    { op := .mov (.loc 8) },
    { op := .faddr 5 (.var 1), guard := some (9, true) },
    { op := .load 1 false (.loc 10), guard := some (9, true) },
    { op := .lenL (.loc 11), guard := some (9, true) },
    { op := .bin .eql (.loc 12) (.const (.int .i64 0)), guard := some (9, true) },
    { op := .pick (.loc 9) (.loc 13) (.const (.bool false)) },
    { op := .mov (.loc 14), dst := some 2 }])
  .ret) (.seq (.seq (.region [
    { op := .bin .eql (.var 7) (.const (.int .u8 3)) },
    { op := .mov (.loc 0), dst := some 10 }])
  (.cond (.var 10) .skip (.region [
    { op := .bin .eql (.var 7) (.const (.int .u8 4)) },
    { op := .mov (.loc 0), dst := some 10 }])))
  (.cond (.var 10) (.seq (.region [
    { op := .mov (.var 3) },
    { op := .un .not (.loc 0) },
    { op := .mov (.loc 1) },
    { op := .mov (.var 4), guard := some (2, true) },
    { op := .un .not (.loc 3), guard := some (2, true) },
    { op := .pick (.loc 2) (.loc 4) (.const (.bool false)) },
    { op := .mov (.loc 5) },
    { op := .mov (.var 5), guard := some (6, true) },
    { op := .un .not (.loc 7), guard := some (6, true) },
    { op := .pick (.loc 6) (.loc 8) (.const (.bool false)) },
    { op := .mov (.loc 9) },
    { op := .faddr 5 (.var 1), guard := some (10, true) },
    { op := .load 1 false (.loc 11), guard := some (10, true) },
    { op := .lenL (.loc 12), guard := some (10, true) },
    { op := .bin .geq (.loc 13) (.const (.int .i64 2)), guard := some (10, true) },
    { op := .pick (.loc 10) (.loc 14) (.const (.bool false)) },
    { op := .mov (.loc 15), dst := some 2 }])
  .ret) (.seq (.region [
    { op := .bin .eql (.var 7) (.const (.int .u8 5)) },
    { op := .mov (.loc 0), dst := some 11 }])
  (.cond (.var 11) (.seq (.region [
    { op := .faddr 7 (.var 1) },
    { op := .load 1 false (.loc 0) },
    { op := .bin .eql (.loc 1) (.const (.int .i64 (-1))) },
    { op := .mov (.loc 2) },
    { op := .faddr 7 (.var 1), guard := some (3, false) },
    { op := .load 1 false (.loc 4), guard := some (3, false) },
    { op := .bin .geq (.loc 5) (.const (.int .i64 1)), guard := some (3, false) },
    { op := .mov (.loc 6), guard := some (3, false) },
    { op := .faddr 7 (.var 1), guard := some (7, true) },
    { op := .load 1 false (.loc 8), guard := some (7, true) },
    { op := .bin .leq (.loc 9) (.const (.int .i64 4096)), guard := some (7, true) },
    { op := .pick (.loc 7) (.loc 10) (.const (.bool false)), guard := some (3, false) },
    { op := .mov (.loc 11), guard := some (3, false) },
    { op := .faddr 7 (.var 1), guard := some (12, true) },
    { op := .load 1 false (.loc 13), guard := some (12, true) },
    { op := .faddr 6 (.var 1), guard := some (12, true) },
    { op := .load 1 false (.loc 15), guard := some (12, true) },
    { op := .bin .geq (.loc 14) (.loc 16), guard := some (12, true) },
    { op := .pick (.loc 12) (.loc 17) (.const (.bool false)), guard := some (3, false) },
    { op := .pick (.loc 3) (.const (.bool true)) (.loc 18) },
    { op := .mov (.loc 19), dst := some 6 }])
  (.seq (.region [
    { op := .mov (.var 3) },
    { op := .un .not (.loc 0) },
    { op := .mov (.loc 1) },
    { op := .mov (.var 5), guard := some (2, true) },
    { op := .un .not (.loc 3), guard := some (2, true) },
    { op := .pick (.loc 2) (.loc 4) (.const (.bool false)) },
    { op := .mov (.loc 5) },
    { op := .faddr 5 (.var 1), guard := some (6, true) },
    { op := .load 1 false (.loc 7), guard := some (6, true) },
    { op := .lenL (.loc 8), guard := some (6, true) },
    { op := .bin .eql (.loc 9) (.const (.int .i64 1)), guard := some (6, true) },
    { op := .pick (.loc 6) (.loc 10) (.const (.bool false)) },
    { op := .mov (.loc 11) },
    { op := .faddr 6 (.var 1), guard := some (12, true) },
    { op := .load 1 false (.loc 13), guard := some (12, true) },
    { op := .bin .geq (.loc 14) (.const (.int .i64 0)), guard := some (12, true) },
    { op := .pick (.loc 12) (.loc 15) (.const (.bool false)) },
    { op := .mov (.loc 16) },
    { op := .faddr 6 (.var 1), guard := some (17, true) },
    { op := .load 1 false (.loc 18), guard := some (17, true) },
    { op := .bin .leq (.loc 19) (.const (.int .i64 4096)), guard := some (17, true) },
    { op := .pick (.loc 17) (.loc 20) (.const (.bool false)) },
    { op := .mov (.loc 21) },
    { op := .mov (.var 6), guard := some (22, true) },
    { op := .pick (.loc 22) (.loc 23) (.const (.bool false)) },
    { op := .mov (.loc 24), dst := some 2 }])
  .ret)) (.seq (.region [
    { op := .bin .eql (.var 7) (.const (.int .u8 6)) },
    { op := .mov (.loc 0), dst := some 12 }])
  (.cond (.var 12) (.seq (.region [
    { op := .mov (.var 3) },
    { op := .un .not (.loc 0) },
    { op := .mov (.loc 1) },
    { op := .mov (.var 4), guard := some (2, true) },
    { op := .un .not (.loc 3), guard := some (2, true) },
    { op := .pick (.loc 2) (.loc 4) (.const (.bool false)) },
    { op := .mov (.loc 5) },
    { op := .faddr 8 (.var 1), guard := some (6, true) },
    { op := .load 1 false (.loc 7), guard := some (6, true) },
    { op := .call 57 [.loc 8], guard := some (6, true) },
    { op := .pick (.loc 6) (.loc 9) (.const (.bool false)) },
    { op := .mov (.loc 10) },
    { op := .faddr 5 (.var 1), guard := some (11, true) },
    { op := .load 1 false (.loc 12), guard := some (11, true) },
    { op := .lenL (.loc 13), guard := some (11, true) },
    { op := .bin .eql (.loc 14) (.const (.int .i64 0)), guard := some (11, true) },
    { op := .pick (.loc 11) (.loc 15) (.const (.bool false)) },
    { op := .mov (.loc 16), dst := some 2 }])
  .ret) .skip))))))))))))
  (.seq (.region [
    { op := .mov (.const (.bool false)), dst := some 2 }])
  .ret)))))) }

/-- raddle/raddleref04.walk -/
def a46 : AFun := { nargs := 3, ps := [0, 1, 2, 6, 7, 8, 9, 10, 11, 16, 25, 42, 52], res := [.var 3, .var 4], body :=
  (.seq (.region [
    { op := .mov (.const (.nilsl)), dst := some 3 },
    { op := .mov (.const (.bool false)), dst := some 4 }])
  (.seq (.seq (.region [
    { op := .mov (.var 2) },
    { op := .lenL (.loc 0) },
    { op := .mov (.var 0) },
    { op := .lenL (.loc 2) },
    { op := .bin .geq (.loc 1) (.loc 3), dst := some 9 }])
  (.cond (.var 9) (.seq (.region [
    { op := .mov (.var 2) },
    { op := .mov (.loc 0), dst := some 3 },
    { op := .mov (.const (.bool false)), dst := some 4 }])
  .ret) .skip))
  (.seq (.seq (.region [
    { op := .mov (.const (.int .i64 0)), dst := some 5 }])
  (.block 0 (.loop (.seq (.seq (.region [
    { op := .mov (.var 5) },
    { op := .mov (.var 0) },
    { op := .mov (.var 1) },
    { op := .iaddr 9 (.loc 1) (.loc 2) },
    { op := .faddr 5 (.loc 3) },
    { op := .load 1 false (.loc 4) },
    { op := .lenL (.loc 5) },
    { op := .bin .lss (.loc 0) (.loc 6), dst := some 10 }])
  (.cond (.var 10) .skip (.exit 0)))
  (.seq (.block 1 (.seq (.region [
    { op := .mov (.var 0) },
    { op := .mov (.var 1) },
    { op := .iaddr 9 (.loc 0) (.loc 1) },
    { op := .faddr 5 (.loc 2) },
    { op := .load 1 false (.loc 3) },
    { op := .mov (.var 5) },
    { op := .iaddr 1 (.loc 4) (.loc 5) },
    { op := .load 1 false (.loc 6) },
    { op := .mov (.loc 7), dst := some 6 }])
  (.seq (.seq (.region [
    { op := .mov (.var 6) },
    { op := .bin .lss (.loc 0) (.const (.int .i64 0)) },
    { op := .mov (.loc 1) },
    { op := .mov (.var 6), guard := some (2, false) },
    { op := .mov (.var 1), guard := some (2, false) },
    { op := .bin .geq (.loc 3) (.loc 4), guard := some (2, false) },
    { op := .pick (.loc 2) (.const (.bool true)) (.loc 5), dst := some 11 }])
  (.cond (.var 11) (.seq (.region [
    { op := .mov (.var 2) },
    { op := .mov (.loc 0), dst := some 3 },
    { op := .mov (.const (.bool false)), dst := some 4 }])
  .ret) .skip))
  (.seq (.region [
    { op := .mov (.var 0) },
    { op := .mov (.var 6) },
    { op := .mov (.var 2) },
    { op := .call 46 [.loc 0, .loc 1, .loc 2] },
    { op := .mov (.loc 3) },
    { op := .extract 0 (.loc 4) },
    { op := .extract 1 (.loc 4) },
    { op := .mov (.loc 5), dst := some 7 },
    { op := .mov (.loc 6), dst := some 8 }])
  (.seq (.seq (.region [
    { op := .mov (.var 8) },
    { op := .un .not (.loc 0), dst := some 12 }])
  (.cond (.var 12) (.seq (.region [
    { op := .mov (.var 7) },
    { op := .mov (.loc 0), dst := some 3 },
    { op := .mov (.const (.bool false)), dst := some 4 }])
  .ret) .skip))
  (.region [
    { op := .mov (.var 7) },
    { op := .mov (.loc 0), dst := some 2 }]))))))
  (.region [
    { op := .mov (.var 5) },
    { op := .bin .add (.loc 0) (.const (.int .i64 1)) },
    { op := .mov (.loc 1), dst := some 5 }]))))))
  (.seq (.region [
    { op := .mov (.var 2) },
    { op := .mov (.var 1) },
    { op := .mkslice 1 1 [.int .i64 0] [(0, 1, .loc 1)] },
    { op := .append 1 8 false (.loc 0) (.loc 2) },
    { op := .mov (.loc 3), dst := some 3 },
    { op := .mov (.const (.bool true)), dst := some 4 }])
  .ret)))) }

/-- raddle/raddleref04.Right -/
def a26 : AFun := { nargs := 1, ps := [0, 2, 3, 4, 5, 6, 14, 18, 26, 43, 47, 55], res := [.var 1], body :=
  (.seq (.region [
    { op := .mov (.const (.bool false)), dst := some 1 }])
  (.seq (.seq (.region [
    { op := .mov (.var 0) },
    { op := .lenL (.loc 0) },
    { op := .bin .lss (.loc 1) (.const (.int .i64 1)) },
    { op := .mov (.loc 2) },
    { op := .mov (.var 0), guard := some (3, false) },
    { op := .lenL (.loc 4), guard := some (3, false) },
    { op := .bin .gtr (.loc 5) (.const (.int .i64 1024)), guard := some (3, false) },
    { op := .pick (.loc 3) (.const (.bool true)) (.loc 6), dst := some 6 }])
  (.cond (.var 6) (.seq (.region [
    { op := .mov (.const (.bool false)), dst := some 1 }])
  .ret) .skip))
  (.seq (.seq (.region [
    { op := .mov (.const (.int .i64 0)), dst := some 2 }])
  (.block 0 (.loop (.seq (.seq (.region [
    { op := .mov (.var 2) },
    { op := .mov (.var 0) },
    { op := .lenL (.loc 1) },
    { op := .bin .lss (.loc 0) (.loc 2), dst := some 7 }])
  (.cond (.var 7) .skip (.exit 0)))
  (.seq (.block 1 (.seq (.region [
    { op := .mov (.var 0) },
    { op := .mov (.var 2) },
    { op := .iaddr 9 (.loc 0) (.loc 1) },
    { op := .load 9 true (.loc 2) },
    { op := .call 45 [.loc 3] },
    { op := .un .not (.loc 4), dst := some 8 }])
  (.cond (.var 8) (.seq (.region [
    { op := .mov (.const (.bool false)), dst := some 1 }])
  .ret) .skip)))
  (.region [
    { op := .mov (.var 2) },
    { op := .bin .add (.loc 0) (.const (.int .i64 1)) },
    { op := .mov (.loc 1), dst := some 2 }]))))))
  (.seq (.region [
    { op := .mov (.var 0) },
    { op := .mov (.var 0) },
    { op := .lenL (.loc 1) },
    { op := .bin .sub (.loc 2) (.const (.int .i64 1)) },
    { op := .call 46 [.loc 0, .loc 3, .const (.nilsl)] },
    { op := .mov (.loc 4) },
    { op := .extract 0 (.loc 5) },
    { op := .extract 1 (.loc 5) },
    { op := .mov (.loc 6), dst := some 3 },
    { op := .mov (.loc 7), dst := some 4 }])
  (.seq (.seq (.region [
    { op := .mov (.var 4) },
    { op := .un .not (.loc 0) },
    { op := .mov (.loc 1) },
    { op := .mov (.var 3), guard := some (2, false) },
    { op := .lenL (.loc 3), guard := some (2, false) },
    { op := .mov (.var 0), guard := some (2, false) },
    { op := .lenL (.loc 5), guard := some (2, false) },
    { op := .bin .neq (.loc 4) (.loc 6), guard := some (2, false) },
    { op := .pick (.loc 2) (.const (.bool true)) (.loc 7), dst := some 9 }])
  (.cond (.var 9) (.seq (.region [
    { op := .mov (.const (.bool false)), dst := some 1 }])
  .ret) .skip))
  (.seq (.seq (.region [
    { op := .mov (.const (.int .i64 0)), dst := some 5 }])
  (.block 2 (.loop (.seq (.seq (.region [
    { op := .mov (.var 5) },
    { op := .mov (.var 3) },
    { op := .lenL (.loc 1) },
    { op := .bin .lss (.loc 0) (.loc 2), dst := some 10 }])
  (.cond (.var 10) .skip (.exit 2)))
  (.seq (.block 3 (.seq (.region [
    { op := .mov (.var 3) },
    { op := .mov (.var 5) },
    { op := .iaddr 1 (.loc 0) (.loc 1) },
    { op := .load 1 false (.loc 2) },
    { op := .mov (.var 5) },
    { op := .bin .neq (.loc 3) (.loc 4), dst := some 11 }])
  (.cond (.var 11) (.seq (.region [
    { op := .mov (.const (.bool false)), dst := some 1 }])
  .ret) .skip)))
  (.region [
    { op := .mov (.var 5) },
    { op := .bin .add (.loc 0) (.const (.int .i64 1)) },
    { op := .mov (.loc 1), dst := some 5 }]))))))
  (.seq (.region [
    { op := .mov (.const (.bool true)), dst := some 1 }])
  .ret))))))) }

/-- raddle/raddleref06.Plain -/
def a13 : AFun := { nargs := 1, ps := [0, 2, 3, 7, 15], res := [.var 1], body :=
  (.seq (.region [
    { op := .mov (.const (.bool false)), dst := some 1 }])
  (.seq (.seq (.region [
    { op := .mov (.const (.int .i64 0)), dst := some 2 }])
  (.block 0 (.loop (.seq (.seq (.region [
    { op := .mov (.var 2) },
    { op := .mov (.var 0) },
    { op := .lenL (.loc 1) },
    { op := .bin .lss (.loc 0) (.loc 2), dst := some 3 }])
  (.cond (.var 3) .skip (.exit 0)))
  (.seq (.block 1 (.seq (.region [
    { op := .mov (.var 0) },
    { op := .mov (.var 2) },
    { op := .iaddr 9 (.loc 0) (.loc 1) },
    { op := .faddr 0 (.loc 2) },
    { op := .load 1 false (.loc 3) },
    { op := .bin .eql (.loc 4) (.const (.int .u8 6)), dst := some 4 }])
  (.cond (.var 4) (.seq (.region [
    { op := .mov (.const (.bool false)), dst := some 1 }])
  .ret) .skip)))
  (.region [
    { op := .mov (.var 2) },
    { op := .bin .add (.loc 0) (.const (.int .i64 1)) },
    { op := .mov (.loc 1), dst := some 2 }]))))))
  (.seq (.region [
    { op := .mov (.var 0) },
    { op := .call 26 [.loc 0] },
    { op := .mov (.loc 1), dst := some 1 }])
  .ret))) }

/-- (*raddle/raddleref08.planner).put -/
def a61 : AFun := { nargs := 2, ps := [0, 1, 3, 4, 10], res := [.var 3], body :=
  (.seq (.region [
    { op := .box (.var 1), dst := some 2 },
    { op := .mov (.const (.int .i64 0)), dst := some 3 }])
  (.seq (.seq (.region [
    { op := .mov (.var 0) },
    { op := .nilchk (.loc 0) },
    { op := .faddr 2 (.loc 1) },
    { op := .load 1 false (.loc 2) },
    { op := .lenL (.loc 3) },
    { op := .bin .geq (.loc 4) (.const (.int .i64 1024)), dst := some 4 }])
  (.cond (.var 4) (.seq (.region [
    { op := .mov (.var 0) },
    { op := .nilchk (.loc 0) },
    { op := .faddr 3 (.loc 1) },
    { op := .store 1 (.loc 2) (.const (.bool true)) }])
  (.seq (.region [
    { op := .mov (.const (.int .i64 0)), dst := some 3 }])
  .ret)) .skip))
  (.seq (.region [
    { op := .mov (.var 0) },
    { op := .mov (.var 0) },
    { op := .nilchk (.loc 1) },
    { op := .faddr 2 (.loc 2) },
    { op := .load 1 false (.loc 3) },
    { op := .load 9 true (.var 2) },
    { op := .mkslice 9 1 [.int .u8 0, .int .u64 0, .int .u64 0, .int .u64 0, .int .u64 0, .nilsl, .int .i64 0, .int .i64 0, .str []] [(0, 9, .loc 5)] },
    { op := .append 9 96 false (.loc 4) (.loc 6) },
    { op := .nilchk (.loc 0) },
    { op := .faddr 2 (.loc 8) },
    { op := .store 1 (.loc 9) (.loc 7) }])
  (.seq (.region [
    { op := .mov (.var 0) },
    { op := .nilchk (.loc 0) },
    { op := .faddr 2 (.loc 1) },
    { op := .load 1 false (.loc 2) },
    { op := .lenL (.loc 3) },
    { op := .bin .sub (.loc 4) (.const (.int .i64 1)) },
    { op := .mov (.loc 5), dst := some 3 }])
  .ret)))) }

/-- (*raddle/raddleref08.planner).star -/
def a79 : AFun := { nargs := 2, ps := [0, 1, 4, 5], res := [.var 2], body :=
  (.seq (.region [
    { op := .mov (.const (.int .i64 0)), dst := some 2 }])
  (.seq (.region [
    { op := .mov (.var 0) },
    { op := .mov (.var 1) },
    { op := .call 52 [.loc 0, .loc 1] },
    { op := .mov (.loc 2), dst := some 3 }])
  (.seq (.region [
    { op := .mov (.var 0) },
    { op := .mov (.var 3) },
    { op := .mkslice 1 1 [.int .i64 0] [(0, 1, .loc 1)] },
    { op := .build [.int .u8 0, .int .u64 0, .int .u64 0, .int .u64 0, .int .u64 0, .nilsl, .int .i64 0, .int .i64 0, .str []] [(0, 1, .const (.int .u8 5)), (5, 1, .loc 2), (7, 1, .const (.int .i64 (-1)))] },
    { op := .call 61 [.loc 0, .loc 3] },
    { op := .mov (.loc 4), dst := some 2 }])
  .ret))) }

/-- (*raddle/raddleref08.planner).rest -/
def a80 : AFun := { nargs := 3, ps := [0, 1, 2, 6, 7, 8, 9, 16, 28], res := [.var 3], body :=
  (.seq (.region [
    { op := .mov (.const (.int .i64 0)), dst := some 3 }])
  (.seq (.region [
    { op := .mov (.var 0) },
    { op := .build [.int .u8 0, .int .u64 0, .int .u64 0, .int .u64 0, .int .u64 0, .nilsl, .int .i64 0, .int .i64 0, .str []] [(0, 1, .const (.int .u8 1))] },
    { op := .call 61 [.loc 0, .loc 1] },
    { op := .mov (.loc 2), dst := some 4 }])
  (.seq (.seq (.region [
    { op := .mov (.var 0) },
    { op := .nilchk (.loc 0) },
    { op := .faddr 3 (.loc 1) },
    { op := .load 1 false (.loc 2), dst := some 7 }])
  (.cond (.var 7) (.seq (.region [
    { op := .mov (.const (.int .i64 0)), dst := some 3 }])
  .ret) .skip))
  (.seq (.region [
    { op := .mov (.var 0) },
    { op := .mov (.var 1) },
    { op := .call 52 [.loc 0, .loc 1] },
    { op := .mov (.loc 2), dst := some 5 }])
  (.seq (.seq (.region [
    { op := .mov (.var 2) },
    { op := .bin .gtr (.loc 0) (.const (.int .i64 1)) },
    { op := .mov (.loc 1) },
    { op := .mov (.var 0), guard := some (2, true) },
    { op := .nilchk (.loc 3), guard := some (2, true) },
    { op := .faddr 3 (.loc 4), guard := some (2, true) },
    { op := .load 1 false (.loc 5), guard := some (2, true) },
    { op := .un .not (.loc 6), guard := some (2, true) },
    { op := .pick (.loc 2) (.loc 7) (.const (.bool false)), dst := some 8 }])
  (.cond (.var 8) (.seq (.region [
    { op := .mov (.var 0) },
    { op := .mov (.var 1) },
    { op := .mov (.var 2) },
    { op := .bin .sub (.loc 2) (.const (.int .i64 1)) },
    { op := .call 80 [.loc 0, .loc 1, .loc 3] },
    { op := .mov (.loc 4), dst := some 6 }])
  (.region [
    { op := .mov (.var 0) },
    { op := .mov (.var 5) },
    { op := .mov (.var 6) },
    { op := .mkslice 1 2 [.int .i64 0] [(0, 1, .loc 1), (1, 1, .loc 2)] },
    { op := .build [.int .u8 0, .int .u64 0, .int .u64 0, .int .u64 0, .int .u64 0, .nilsl, .int .i64 0, .int .i64 0, .str []] [(0, 1, .const (.int .u8 3)), (5, 1, .loc 3)] },
    { op := .call 61 [.loc 0, .loc 4] },
    { op := .mov (.loc 5), dst := some 5 }])) .skip))
  (.seq (.region [
    { op := .mov (.var 0) },
    { op := .mov (.var 4) },
    { op := .mov (.var 5) },
    { op := .mkslice 1 2 [.int .i64 0] [(0, 1, .loc 1), (1, 1, .loc 2)] },
    { op := .build [.int .u8 0, .int .u64 0, .int .u64 0, .int .u64 0, .int .u64 0, .nilsl, .int .i64 0, .int .i64 0, .str []] [(0, 1, .const (.int .u8 4)), (5, 1, .loc 3)] },
    { op := .call 61 [.loc 0, .loc 4] },
    { op := .mov (.loc 5), dst := some 3 }])
  .ret)))))) }

/-- (*raddle/raddleref08.planner).cat -/
def a81 : AFun := { nargs := 2, ps := [0, 1, 4, 7], res := [.var 2], body :=
  (.seq (.region [
    { op := .mov (.const (.int .i64 0)), dst := some 2 }])
  (.seq (.seq (.region [
    { op := .mov (.var 1) },
    { op := .lenL (.loc 0) },
    { op := .bin .eql (.loc 1) (.const (.int .i64 1)), dst := some 3 }])
  (.cond (.var 3) (.seq (.region [
    { op := .mov (.var 1) },
    { op := .iaddr 1 (.loc 0) (.const (.int .i64 0)) },
    { op := .load 1 false (.loc 1) },
    { op := .mov (.loc 2), dst := some 2 }])
  .ret) .skip))
  (.seq (.region [
    { op := .mov (.var 0) },
    { op := .mov (.var 1) },
    { op := .build [.int .u8 0, .int .u64 0, .int .u64 0, .int .u64 0, .int .u64 0, .nilsl, .int .i64 0, .int .i64 0, .str []] [(0, 1, .const (.int .u8 3)), (5, 1, .loc 1)] },
    { op := .call 61 [.loc 0, .loc 2] },
    { op := .mov (.loc 3), dst := some 2 }])
  .ret))) }

/-- (*raddle/raddleref08.planner).rep -/
def a60 : AFun := { nargs := 2, ps := [0, 1, 3, 4, 5, 6, 7, 8, 9, 10, 11, 12, 13, 36, 39, 58, 85, 116, 127, 138], res := [.var 3], body :=
  (.seq (.region [
    { op := .box (.var 1), dst := some 2 },
    { op := .mov (.const (.int .i64 0)), dst := some 3 }])
  (.seq (.region [
    { op := .faddr 5 (.var 2) },
    { op := .load 1 false (.loc 0) },
    { op := .iaddr 1 (.loc 1) (.const (.int .i64 0)) },
    { op := .load 1 false (.loc 2) },
    { op := .mov (.loc 3), dst := some 4 }])
  (.seq (.region [
    { op := .mov (.var 0) },
    { op := .nilchk (.loc 0) },
    { op := .faddr 0 (.loc 1) },
    { op := .load 1 false (.loc 2) },
    { op := .mov (.var 4) },
    { op := .iaddr 9 (.loc 3) (.loc 4) },
    { op := .faddr 0 (.loc 5) },
    { op := .load 1 false (.loc 6) },
    { op := .bin .eql (.loc 7) (.const (.int .u8 2)) },
    { op := .mov (.loc 8), dst := some 5 }])
  (.seq (.seq (.region [
    { op := .mov (.var 5) },
    { op := .mov (.loc 0) },
    { op := .faddr 7 (.var 2), guard := some (1, true) },
    { op := .load 1 false (.loc 2), guard := some (1, true) },
    { op := .mov (.var 0), guard := some (1, true) },
    { op := .nilchk (.loc 4), guard := some (1, true) },
    { op := .faddr 1 (.loc 5), guard := some (1, true) },
    { op := .load 1 false (.loc 6), guard := some (1, true) },
    { op := .bin .gtr (.loc 3) (.loc 7), guard := some (1, true) },
    { op := .pick (.loc 1) (.loc 8) (.const (.bool false)), dst := some 13 }])
  (.cond (.var 13) (.seq (.region [
    { op := .mov (.const (.int .i64 0)), dst := some 6 }])
  (.seq (.seq (.region [
    { op := .faddr 6 (.var 2) },
    { op := .load 1 false (.loc 0) },
    { op := .bin .eql (.loc 1) (.const (.int .i64 0)), dst := some 14 }])
  (.cond (.var 14) (.region [
    { op := .mov (.var 0) },
    { op := .build [.int .u8 0, .int .u64 0, .int .u64 0, .int .u64 0, .int .u64 0, .nilsl, .int .i64 0, .int .i64 0, .str []] [(0, 1, .const (.int .u8 1))] },
    { op := .call 61 [.loc 0, .loc 1] },
    { op := .mov (.loc 2), dst := some 6 }]) .skip))
  (.seq (.region [
    { op := .mov (.var 0) },
    { op := .mov (.var 4) },
    { op := .call 52 [.loc 0, .loc 1] },
    { op := .mov (.loc 2), dst := some 7 }])
  (.seq (.region [
    { op := .mov (.var 0) },
    { op := .mov (.var 7) },
    { op := .mkslice 1 1 [.int .i64 0] [(0, 1, .loc 1)] },
    { op := .faddr 6 (.var 2) },
    { op := .load 1 false (.loc 3) },
    { op := .minmax true (.loc 4) (.const (.int .i64 1)) },
    { op := .faddr 7 (.var 2) },
    { op := .load 1 false (.loc 6) },
    { op := .build [.int .u8 0, .int .u64 0, .int .u64 0, .int .u64 0, .int .u64 0, .nilsl, .int .i64 0, .int .i64 0, .str []] [(0, 1, .const (.int .u8 5)), (5, 1, .loc 2), (6, 1, .loc 5), (7, 1, .loc 7)] },
    { op := .call 61 [.loc 0, .loc 8] },
    { op := .mov (.loc 9), dst := some 8 }])
  (.seq (.seq (.region [
    { op := .faddr 6 (.var 2) },
    { op := .load 1 false (.loc 0) },
    { op := .bin .gtr (.loc 1) (.const (.int .i64 0)), dst := some 15 }])
  (.cond (.var 15) (.seq (.region [
    { op := .mov (.var 8) },
    { op := .mov (.loc 0), dst := some 3 }])
  .ret) .skip))
  (.seq (.region [
    { op := .mov (.var 0) },
    { op := .mov (.var 6) },
    { op := .mov (.var 8) },
    { op := .mkslice 1 2 [.int .i64 0] [(0, 1, .loc 1), (1, 1, .loc 2)] },
    { op := .build [.int .u8 0, .int .u64 0, .int .u64 0, .int .u64 0, .int .u64 0, .nilsl, .int .i64 0, .int .i64 0, .str []] [(0, 1, .const (.int .u8 4)), (5, 1, .loc 3)] },
    { op := .call 61 [.loc 0, .loc 4] },
    { op := .mov (.loc 5), dst := some 3 }])
  .ret)))))) .skip))
  (.seq (.seq (.region [
    { op := .mov (.var 5) },
    { op := .mov (.loc 0) },
    { op := .faddr 7 (.var 2), guard := some (1, true) },
    { op := .load 1 false (.loc 2), guard := some (1, true) },
    { op := .bin .eql (.loc 3) (.const (.int .i64 (-1))), guard := some (1, true) },
    { op := .pick (.loc 1) (.loc 4) (.const (.bool false)) },
    { op := .mov (.loc 5) },
    { op := .faddr 6 (.var 2), guard := some (6, true) },
    { op := .load 1 false (.loc 7), guard := some (6, true) },
    { op := .mov (.var 0), guard := some (6, true) },
    { op := .nilchk (.loc 9), guard := some (6, true) },
    { op := .faddr 1 (.loc 10), guard := some (6, true) },
    { op := .load 1 false (.loc 11), guard := some (6, true) },
    { op := .bin .gtr (.loc 8) (.loc 12), guard := some (6, true) },
    { op := .pick (.loc 6) (.loc 13) (.const (.bool false)) },
    { op := .mov (.loc 14) },
    { op := .faddr 6 (.var 2), guard := some (15, true) },
    { op := .load 1 false (.loc 16), guard := some (15, true) },
    { op := .bin .gtr (.loc 17) (.const (.int .i64 1)), guard := some (15, true) },
    { op := .pick (.loc 15) (.loc 18) (.const (.bool false)), dst := some 16 }])
  (.cond (.var 16) (.seq (.region [
    { op := .mov (.var 0) },
    { op := .mov (.var 4) },
    { op := .call 52 [.loc 0, .loc 1] },
    { op := .mov (.loc 2), dst := some 9 }])
  (.seq (.region [
    { op := .mov (.var 0) },
    { op := .mov (.var 9) },
    { op := .mkslice 1 1 [.int .i64 0] [(0, 1, .loc 1)] },
    { op := .faddr 6 (.var 2) },
    { op := .load 1 false (.loc 3) },
    { op := .faddr 6 (.var 2) },
    { op := .load 1 false (.loc 5) },
    { op := .build [.int .u8 0, .int .u64 0, .int .u64 0, .int .u64 0, .int .u64 0, .nilsl, .int .i64 0, .int .i64 0, .str []] [(0, 1, .const (.int .u8 5)), (5, 1, .loc 2), (6, 1, .loc 4), (7, 1, .loc 6)] },
    { op := .call 61 [.loc 0, .loc 7] },
    { op := .mov (.loc 8), dst := some 10 }])
  (.seq (.region [
    { op := .mov (.var 0) },
    { op := .mov (.var 10) },
    { op := .mov (.var 0) },
    { op := .mov (.var 4) },
    { op := .call 79 [.loc 2, .loc 3] },
    { op := .mkslice 1 2 [.int .i64 0] [(0, 1, .loc 1), (1, 1, .loc 4)] },
    { op := .build [.int .u8 0, .int .u64 0, .int .u64 0, .int .u64 0, .int .u64 0, .nilsl, .int .i64 0, .int .i64 0, .str []] [(0, 1, .const (.int .u8 3)), (5, 1, .loc 5)] },
    { op := .call 61 [.loc 0, .loc 6] },
    { op := .mov (.loc 7), dst := some 3 }])
  .ret))) .skip))
  (.seq (.region [
    { op := .mov (.const (.nilsl)), dst := some 11 }])
  (.seq (.seq (.region [
    { op := .mov (.const (.int .i64 0)), dst := some 12 }])
  (.block 0 (.loop (.seq (.seq (.region [
    { op := .mov (.var 12) },
    { op := .faddr 6 (.var 2) },
    { op := .load 1 false (.loc 1) },
    { op := .bin .lss (.loc 0) (.loc 2) },
    { op := .mov (.loc 3) },
    { op := .mov (.var 0), guard := some (4, true) },
    { op := .nilchk (.loc 5), guard := some (4, true) },
    { op := .faddr 3 (.loc 6), guard := some (4, true) },
    { op := .load 1 false (.loc 7), guard := some (4, true) },
    { op := .un .not (.loc 8), guard := some (4, true) },
    { op := .pick (.loc 4) (.loc 9) (.const (.bool false)), dst := some 17 }])
  (.cond (.var 17) .skip (.exit 0)))
  (.seq (.block 1 (.region [
    { op := .mov (.var 11) },
    { op := .mov (.var 0) },
    { op := .mov (.var 4) },
    { op := .call 52 [.loc 1, .loc 2] },
    { op := .mkslice 1 1 [.int .i64 0] [(0, 1, .loc 3)] },
    { op := .append 1 8 false (.loc 0) (.loc 4) },
    { op := .mov (.loc 5), dst := some 11 }]))
  (.region [
    { op := .mov (.var 12) },
    { op := .bin .add (.loc 0) (.const (.int .i64 1)) },
    { op := .mov (.loc 1), dst := some 12 }]))))))
  (.seq (.seq (.region [
    { op := .faddr 7 (.var 2) },
    { op := .load 1 false (.loc 0) },
    { op := .bin .eql (.loc 1) (.const (.int .i64 (-1))), dst := some 18 }])
  (.cond (.var 18) (.region [
    { op := .mov (.var 11) },
    { op := .mov (.var 0) },
    { op := .mov (.var 4) },
    { op := .call 79 [.loc 1, .loc 2] },
    { op := .mkslice 1 1 [.int .i64 0] [(0, 1, .loc 3)] },
    { op := .append 1 8 false (.loc 0) (.loc 4) },
    { op := .mov (.loc 5), dst := some 11 }]) (.seq (.region [
    { op := .faddr 7 (.var 2) },
    { op := .load 1 false (.loc 0) },
    { op := .faddr 6 (.var 2) },
    { op := .load 1 false (.loc 2) },
    { op := .bin .gtr (.loc 1) (.loc 3), dst := some 19 }])
  (.cond (.var 19) (.region [
    { op := .mov (.var 11) },
    { op := .mov (.var 0) },
    { op := .mov (.var 4) },
    { op := .faddr 7 (.var 2) },
    { op := .load 1 false (.loc 3) },
    { op := .faddr 6 (.var 2) },
    { op := .load 1 false (.loc 5) },
    { op := .bin .sub (.loc 4) (.loc 6) },
    { op := .call 80 [.loc 1, .loc 2, .loc 7] },
    { op := .mkslice 1 1 [.int .i64 0] [(0, 1, .loc 8)] },
    { op := .append 1 8 false (.loc 0) (.loc 9) },
    { op := .mov (.loc 10), dst := some 11 }]) .skip))))
  (.seq (.region [
    { op := .mov (.var 0) },
    { op := .mov (.var 11) },
    { op := .call 81 [.loc 0, .loc 1] },
    { op := .mov (.loc 2), dst := some 3 }])
  .ret))))))))) }

/-- (*raddle/raddleref08.planner).plan -/
def a52 : AFun := { nargs := 2, ps := [0, 1, 4, 5, 6, 7, 18, 21, 29], res := [.var 2], body :=
  (.seq (.region [
    { op := .mov (.const (.int .i64 0)), dst := some 2 }])
  (.seq (.region [
    { op := .mov (.var 0) },
    { op := .nilchk (.loc 0) },
    { op := .faddr 0 (.loc 1) },
    { op := .load 1 false (.loc 2) },
    { op := .mov (.var 1) },
    { op := .iaddr 9 (.loc 3) (.loc 4) },
    { op := .load 9 true (.loc 5) },
    { op := .alloc [.int .u8 0, .int .u64 0, .int .u64 0, .int .u64 0, .int .u64 0, .nilsl, .int .i64 0, .int .i64 0, .str []], dst := some 3 },
    { op := .store 9 (.loc 7) (.loc 6) }])
  (.seq (.seq (.region [
    { op := .mov (.var 0) },
    { op := .nilchk (.loc 0) },
    { op := .faddr 3 (.loc 1) },
    { op := .load 1 false (.loc 2), dst := some 6 }])
  (.cond (.var 6) (.seq (.region [
    { op := .mov (.const (.int .i64 0)), dst := some 2 }])
  .ret) .skip))
  (.seq (.seq (.region [
    { op := .faddr 0 (.var 3) },
    { op := .load 1 false (.loc 0) },
    { op := .bin .eql (.loc 1) (.const (.int .u8 5)), dst := some 7 }])
  (.cond (.var 7) (.seq (.region [
    { op := .mov (.var 0) },
    { op := .load 9 true (.var 3) },
    { op := .call 60 [.loc 0, .loc 1] },
    { op := .mov (.loc 2), dst := some 2 }])
  .ret) .skip))
  (.seq (.region [
    { op := .mov (.const (.nilsl)), dst := some 4 }])
  (.seq (.seq (.region [
    { op := .mov (.const (.int .i64 0)), dst := some 5 }])
  (.block 0 (.loop (.seq (.seq (.region [
    { op := .mov (.var 5) },
    { op := .faddr 5 (.var 3) },
    { op := .load 1 false (.loc 1) },
    { op := .lenL (.loc 2) },
    { op := .bin .lss (.loc 0) (.loc 3), dst := some 8 }])
  (.cond (.var 8) .skip (.exit 0)))
  (.seq (.block 1 (.region [
    { op := .mov (.var 4) },
    { op := .mov (.var 0) },
    { op := .faddr 5 (.var 3) },
    { op := .load 1 false (.loc 2) },
    { op := .mov (.var 5) },
    { op := .iaddr 1 (.loc 3) (.loc 4) },
    { op := .load 1 false (.loc 5) },
    { op := .call 52 [.loc 1, .loc 6] },
    { op := .mkslice 1 1 [.int .i64 0] [(0, 1, .loc 7)] },
    { op := .append 1 8 false (.loc 0) (.loc 8) },
    { op := .mov (.loc 9), dst := some 4 }]))
  (.region [
    { op := .mov (.var 5) },
    { op := .bin .add (.loc 0) (.const (.int .i64 1)) },
    { op := .mov (.loc 1), dst := some 5 }]))))))
  (.seq (.region [
    { op := .mov (.var 4) },
    { op := .faddr 5 (.var 3) },
    { op := .store 1 (.loc 1) (.loc 0) }])
  (.seq (.region [
    { op := .mov (.var 0) },
    { op := .load 9 true (.var 3) },
    { op := .call 61 [.loc 0, .loc 1] },
    { op := .mov (.loc 2), dst := some 2 }])
  .ret)))))))) }

/-- raddle/raddleref08.Tree -/
def a34 : AFun := { nargs := 2, ps := [0, 1, 4, 5, 6, 17, 38], res := [.var 2, .var 3], body :=
  (.seq (.region [
    { op := .mov (.const (.nilsl)), dst := some 2 },
    { op := .mov (.const (.int .i64 0)), dst := some 3 }])
  (.seq (.seq (.region [
    { op := .mov (.var 0) },
    { op := .call 13 [.loc 0] },
    { op := .un .not (.loc 1) },
    { op := .mov (.loc 2) },
    { op := .mov (.var 1), guard := some (3, false) },
    { op := .bin .lss (.loc 4) (.const (.int .i64 1)), guard := some (3, false) },
    { op := .pick (.loc 3) (.const (.bool true)) (.loc 5) },
    { op := .mov (.loc 6) },
    { op := .mov (.var 1), guard := some (7, false) },
    { op := .bin .gtr (.loc 8) (.const (.int .i64 4096)), guard := some (7, false) },
    { op := .pick (.loc 7) (.const (.bool true)) (.loc 9), dst := some 5 }])
  (.cond (.var 5) (.seq (.region [
    { op := .mov (.const (.nilsl)), dst := some 2 },
    { op := .mov (.const (.int .i64 1)), dst := some 3 }])
  .ret) .skip))
  (.seq (.region [
    { op := .mov (.var 0) },
    { op := .mov (.var 1) },
    { op := .build [.nilsl, .int .i64 0, .nilsl, .bool false] [(0, 1, .loc 0), (1, 1, .loc 1)] },
    { op := .box (.loc 2) },
    { op := .mov (.loc 3), dst := some 4 }])
  (.seq (.region [
    { op := .mov (.var 4) },
    { op := .mov (.var 0) },
    { op := .lenL (.loc 1) },
    { op := .bin .sub (.loc 2) (.const (.int .i64 1)) },
    { op := .call 52 [.loc 0, .loc 3] }])
  (.seq (.seq (.region [
    { op := .mov (.var 4) },
    { op := .nilchk (.loc 0) },
    { op := .faddr 3 (.loc 1) },
    { op := .load 1 false (.loc 2) },
    { op := .mov (.loc 3) },
    { op := .mov (.var 4), guard := some (4, false) },
    { op := .nilchk (.loc 5), guard := some (4, false) },
    { op := .faddr 2 (.loc 6), guard := some (4, false) },
    { op := .load 1 false (.loc 7), guard := some (4, false) },
    { op := .call 26 [.loc 8], guard := some (4, false) },
    { op := .un .not (.loc 9), guard := some (4, false) },
    { op := .pick (.loc 4) (.const (.bool true)) (.loc 10), dst := some 6 }])
  (.cond (.var 6) (.seq (.region [
    { op := .mov (.const (.nilsl)), dst := some 2 },
    { op := .mov (.const (.int .i64 3)), dst := some 3 }])
  .ret) .skip))
  (.seq (.region [
    { op := .mov (.var 4) },
    { op := .nilchk (.loc 0) },
    { op := .faddr 2 (.loc 1) },
    { op := .load 1 false (.loc 2) },
    { op := .mov (.loc 3), dst := some 2 },
    { op := .mov (.const (.int .i64 0)), dst := some 3 }])
  .ret)))))) }

/-- raddle/raddlelaw09.of -/
def a17 : AFun := { nargs := 2, ps := [0, 1, 4, 5, 8], res := [.var 2], body :=
  (.seq (.region [
    { op := .mov (.const (.nilsl)), dst := some 2 }])
  (.seq (.region [
    { op := .mov (.var 0) },
    { op := .call 33 [.loc 0] },
    { op := .mov (.loc 1) },
    { op := .extract 0 (.loc 2) },
    { op := .extract 1 (.loc 2) },
    { op := .extract 2 (.loc 2) },
    { op := .mov (.loc 3), dst := some 3 },
    { op := .mov (.loc 4) },
    { op := .mov (.loc 5) }])
  (.seq (.region [
    { op := .mov (.var 3) },
    { op := .mov (.var 1) },
    { op := .call 34 [.loc 0, .loc 1] },
    { op := .mov (.loc 2) },
    { op := .extract 0 (.loc 3) },
    { op := .extract 1 (.loc 3) },
    { op := .mov (.loc 4), dst := some 4 },
    { op := .mov (.loc 5) }])
  (.seq (.region [
    { op := .mov (.var 4) },
    { op := .mov (.loc 0), dst := some 2 }])
  .ret)))) }

/-- raddle/raddlelaw09.shown$1 -/
def a18 : AFun := { nargs := 1, ps := [0, 2], res := [.cell 1 4 true], body :=
  (.seq (.region [
    { op := .alloc [.int .u64 0, .int .u64 0, .int .u64 0, .int .u64 0], dst := some 1 }])
  (.seq (.region [
    { op := .mov (.var 0) },
    { op := .mkslice 1 1 [.int .u8 0] [(0, 1, .loc 0)] },
    { op := .call 14 [.loc 1] },
    { op := .store 4 (.var 1) (.loc 2) }])
  .ret)) }

/-- raddle/raddlelaw09.shown -/
def a8 : AFun := { nargs := 0, ps := [0, 1, 2, 3, 4], res := [.var 0], body :=
  (.seq (.region [
    { op := .mov (.const (.bool false)), dst := some 0 }])
  (.seq (.region [
    { op := .call 17 [.const (.str [97, 98, 42]), .const (.int .i64 3)] },
    { op := .call 17 [.const (.str [99, 123, 50, 44, 57, 125]), .const (.int .i64 3)] },
    { op := .mkslice 1 2 [.nilsl] [(0, 1, .loc 0), (1, 1, .loc 1)] },
    { op := .call 10 [.loc 2] },
    { op := .mov (.loc 3) },
    { op := .extract 0 (.loc 4) },
    { op := .extract 1 (.loc 4) },
    { op := .alloc [.nilsl, .nilsl], dst := some 1 },
    { op := .store 2 (.loc 7) (.loc 5) },
    { op := .mov (.loc 6), dst := some 2 }])
  (.seq (.region [
    { op := .mov (.const (.fn 18 [] [])), dst := some 3 }])
  (.seq (.region [
    { op := .mkslice 1 2 [.int .i64 0] [(0, 1, .const (.int .i64 0)), (1, 1, .const (.int .i64 2))] },
    { op := .mov (.var 3) },
    { op := .callv (.loc 1) [.const (.int .u8 97)] },
    { op := .mkslice 1 1 [.int .i64 0] [(0, 1, .const (.int .i64 1))] },
    { op := .build [.int .u64 0, .int .u64 0, .int .u64 0, .int .u64 0, .int .i64 0, .int .i64 0, .int .i64 0, .bool false, .nilsl] [(0, 4, .loc 2), (4, 1, .const (.int .i64 1)), (5, 1, .const (.int .i64 1)), (7, 1, .const (.bool true)), (8, 1, .loc 3)] },
    { op := .mov (.var 3) },
    { op := .callv (.loc 5) [.const (.int .u8 98)] },
    { op := .mkslice 1 1 [.int .i64 0] [(0, 1, .const (.int .i64 1))] },
    { op := .build [.int .u64 0, .int .u64 0, .int .u64 0, .int .u64 0, .int .i64 0, .int .i64 0, .int .i64 0, .bool false, .nilsl] [(0, 4, .loc 6), (4, 1, .const (.int .i64 1)), (5, 1, .const (.int .i64 1)), (7, 1, .const (.bool true)), (8, 1, .loc 7)] },
    { op := .mov (.var 3) },
    { op := .callv (.loc 9) [.const (.int .u8 99)] },
    { op := .build [.int .u64 0, .int .u64 0, .int .u64 0, .int .u64 0, .int .i64 0, .int .i64 0, .int .i64 0, .bool false, .nilsl] [(0, 4, .loc 10), (4, 1, .const (.int .i64 2)), (5, 1, .const (.int .i64 9)), (6, 1, .const (.int .i64 1)), (7, 1, .const (.bool true))] },
    { op := .mkslice 9 3 [.int .u64 0, .int .u64 0, .int .u64 0, .int .u64 0, .int .i64 0, .int .i64 0, .int .i64 0, .bool false, .nilsl] [(0, 9, .loc 4), (9, 9, .loc 8), (18, 9, .loc 11)] },
    { op := .build [.nilsl, .nilsl] [(0, 1, .loc 0), (1, 1, .loc 12)] },
    { op := .alloc [.nilsl, .nilsl], dst := some 4 },
    { op := .store 2 (.loc 14) (.loc 13) }])
  (.seq (.region [
    { op := .mov (.var 2) },
    { op := .bin .eql (.loc 0) (.const (.int .i64 0)) },
    { op := .mov (.loc 1) },
    { op := .load 2 true (.var 1), guard := some (2, true) },
    { op := .load 2 true (.var 4), guard := some (2, true) },
    { op := .call 11 [.loc 3, .loc 4], guard := some (2, true) },
    { op := .pick (.loc 2) (.loc 5) (.const (.bool false)) },
    { op := .mov (.loc 6), dst := some 0 }])
  .ret))))) }

/-- raddle/raddlelaw09.few -/
def a9 : AFun := { nargs := 1, ps := [0, 2, 3, 4, 5, 6, 7, 8, 9, 19], res := [.var 1], body :=
  (.seq (.region [
    { op := .mov (.const (.nilsl)), dst := some 1 }])
  (.seq (.region [
    { op := .mov (.const (.nilsl)), dst := some 2 }])
  (.seq (.seq (.region [
    { op := .mov (.var 0), dst := some 5 },
    { op := .lenL (.loc 0), dst := some 6 },
    { op := .mov (.const (.int .i64 0)), dst := some 7 }])
  (.block 0 (.loop (.seq (.region [
    { op := .bin .lss (.var 7) (.var 6), dst := some 8 }])
  (.seq (.cond (.var 8) .skip (.exit 0))
  (.seq (.block 1 (.seq (.region [
    { op := .mov (.var 7) },
    { op := .iaddr 1 (.var 5) (.var 7) },
    { op := .load 1 false (.loc 1) },
    { op := .mov (.loc 0), dst := some 3 },
    { op := .mov (.loc 2), dst := some 4 }])
  (.seq (.region [
    { op := .mov (.var 3) },
    { op := .bin .lss (.loc 0) (.const (.int .i64 6)) },
    { op := .mov (.loc 1) },
    { op := .mov (.var 4), guard := some (2, true) },
    { op := .lenL (.loc 3), guard := some (2, true) },
    { op := .bin .leq (.loc 4) (.const (.int .i64 200)), guard := some (2, true) },
    { op := .pick (.loc 2) (.loc 5) (.const (.bool false)), dst := some 9 }])
  (.cond (.var 9) (.region [
    { op := .mov (.var 2) },
    { op := .mov (.var 4) },
    { op := .mkslice 1 1 [.nilsl] [(0, 1, .loc 1)] },
    { op := .append 1 24 false (.loc 0) (.loc 2) },
    { op := .mov (.loc 3), dst := some 2 }]) .skip))))
  (.region [
    { op := .bin .add (.var 7) (.const (.int .i64 1)) },
    { op := .mov (.loc 0), dst := some 7 }])))))))
  (.seq (.region [
    { op := .mov (.var 2) },
    { op := .mov (.loc 0), dst := some 1 }])
  .ret)))) }

/-- raddle/raddlelaw09.GlushApart -/
def a3 : AFun := { nargs := 1, ps := [0, 2, 3, 4, 5, 6, 7, 8, 9, 10, 11, 12, 14, 16, 17, 19, 29, 31, 32, 33, 34, 45, 50, 51, 52, 53, 66, 67, 68, 69, 73, 74, 75, 76], res := [.var 1], body :=
  (.seq (.region [
    { op := .mov (.const (.bool false)), dst := some 1 }])
  (.seq (.region [
    { op := .call 8 [] },
    { op := .mov (.loc 0), dst := some 2 }])
  (.seq (.region [
    { op := .mov (.var 0) },
    { op := .call 9 [.loc 0] },
    { op := .mov (.loc 1), dst := some 3 }])
  (.seq (.region [
    { op := .mov (.var 3) },
    { op := .call 10 [.loc 0] },
    { op := .mov (.loc 1) },
    { op := .extract 0 (.loc 2) },
    { op := .extract 1 (.loc 2) },
    { op := .alloc [.nilsl, .nilsl], dst := some 4 },
    { op := .store 2 (.loc 5) (.loc 3) },
    { op := .mov (.loc 4), dst := some 5 }])
  (.seq (.seq (.region [
    { op := .mov (.var 5) },
    { op := .bin .neq (.loc 0) (.const (.int .i64 0)), dst := some 16 }])
  (.cond (.var 16) (.seq (.region [
    { op := .mov (.var 2) },
    { op := .mov (.loc 0), dst := some 1 }])
  .ret) .skip))
  (.seq (.region [
    { op := .alloc [.nilsl, .nilsl], dst := some 6 }])
  (.seq (.seq (.region [
    { op := .mov (.var 3), dst := some 17 },
    { op := .lenL (.loc 0), dst := some 18 },
    { op := .mov (.const (.int .i64 0)), dst := some 19 }])
  (.block 0 (.loop (.seq (.region [
    { op := .bin .lss (.var 19) (.var 18), dst := some 20 }])
  (.seq (.cond (.var 20) .skip (.exit 0))
  (.seq (.block 1 (.seq (.region [
    { op := .mov (.var 19) },
    { op := .iaddr 1 (.var 17) (.var 19) },
    { op := .load 1 false (.loc 1) },
    { op := .mov (.loc 0), dst := some 7 },
    { op := .mov (.loc 2), dst := some 8 }])
  (.seq (.region [
    { op := .mov (.var 8) },
    { op := .mkslice 1 1 [.nilsl] [(0, 1, .loc 0)] },
    { op := .call 10 [.loc 1] },
    { op := .mov (.loc 2) },
    { op := .extract 0 (.loc 3) },
    { op := .extract 1 (.loc 3) },
    { op := .alloc [.nilsl, .nilsl], dst := some 9 },
    { op := .store 2 (.loc 6) (.loc 4) },
    { op := .mov (.loc 5), dst := some 10 }])
  (.seq (.seq (.region [
    { op := .mov (.var 10) },
    { op := .bin .neq (.loc 0) (.const (.int .i64 0)), dst := some 21 }])
  (.cond (.var 21) (.seq (.region [
    { op := .mov (.const (.bool false)), dst := some 1 }])
  .ret) .skip))
  (.seq (.region [
    { op := .faddr 1 (.var 6) },
    { op := .load 1 false (.loc 0) },
    { op := .lenL (.loc 1) },
    { op := .mov (.loc 2), dst := some 11 }])
  (.seq (.seq (.region [
    { op := .faddr 0 (.var 9) },
    { op := .load 1 false (.loc 0), dst := some 22 },
    { op := .lenL (.loc 1), dst := some 23 },
    { op := .mov (.const (.int .i64 0)), dst := some 24 }])
  (.block 2 (.loop (.seq (.region [
    { op := .bin .lss (.var 24) (.var 23), dst := some 25 }])
  (.seq (.cond (.var 25) .skip (.exit 2))
  (.seq (.block 3 (.seq (.region [
    { op := .iaddr 1 (.var 22) (.var 24) },
    { op := .load 1 false (.loc 0) },
    { op := .mov (.loc 1), dst := some 12 }])
  (.region [
    { op := .faddr 0 (.var 6) },
    { op := .load 1 false (.loc 0) },
    { op := .mov (.var 12) },
    { op := .mov (.var 11) },
    { op := .bin .add (.loc 2) (.loc 3) },
    { op := .mkslice 1 1 [.int .i64 0] [(0, 1, .loc 4)] },
    { op := .append 1 8 false (.loc 1) (.loc 5) },
    { op := .faddr 0 (.var 6) },
    { op := .store 1 (.loc 7) (.loc 6) }])))
  (.region [
    { op := .bin .add (.var 24) (.const (.int .i64 1)) },
    { op := .mov (.loc 0), dst := some 24 }])))))))
  (.seq (.region [
    { op := .faddr 1 (.var 9) },
    { op := .load 1 false (.loc 0), dst := some 26 },
    { op := .lenL (.loc 1), dst := some 27 },
    { op := .mov (.const (.int .i64 0)), dst := some 28 }])
  (.block 4 (.loop (.seq (.region [
    { op := .bin .lss (.var 28) (.var 27), dst := some 29 }])
  (.seq (.cond (.var 29) .skip (.exit 4))
  (.seq (.block 5 (.seq (.region [
    { op := .iaddr 9 (.var 26) (.var 28) },
    { op := .load 9 true (.loc 0) },
    { op := .alloc [.int .u64 0, .int .u64 0, .int .u64 0, .int .u64 0, .int .i64 0, .int .i64 0, .int .i64 0, .bool false, .nilsl], dst := some 13 },
    { op := .store 9 (.loc 2) (.loc 1) }])
  (.seq (.region [
    { op := .mov (.const (.nilsl)), dst := some 14 }])
  (.seq (.seq (.region [
    { op := .faddr 8 (.var 13) },
    { op := .load 1 false (.loc 0), dst := some 30 },
    { op := .lenL (.loc 1), dst := some 31 },
    { op := .mov (.const (.int .i64 0)), dst := some 32 }])
  (.block 6 (.loop (.seq (.region [
    { op := .bin .lss (.var 32) (.var 31), dst := some 33 }])
  (.seq (.cond (.var 33) .skip (.exit 6))
  (.seq (.block 7 (.seq (.region [
    { op := .iaddr 1 (.var 30) (.var 32) },
    { op := .load 1 false (.loc 0) },
    { op := .mov (.loc 1), dst := some 15 }])
  (.region [
    { op := .mov (.var 14) },
    { op := .mov (.var 15) },
    { op := .mov (.var 11) },
    { op := .bin .add (.loc 1) (.loc 2) },
    { op := .mkslice 1 1 [.int .i64 0] [(0, 1, .loc 3)] },
    { op := .append 1 8 false (.loc 0) (.loc 4) },
    { op := .mov (.loc 5), dst := some 14 }])))
  (.region [
    { op := .bin .add (.var 32) (.const (.int .i64 1)) },
    { op := .mov (.loc 0), dst := some 32 }])))))))
  (.seq (.region [
    { op := .mov (.var 14) },
    { op := .mov (.var 7) },
    { op := .faddr 8 (.var 13) },
    { op := .store 1 (.loc 2) (.loc 0) },
    { op := .faddr 6 (.var 13) },
    { op := .store 1 (.loc 4) (.loc 1) }])
  (.region [
    { op := .faddr 1 (.var 6) },
    { op := .load 1 false (.loc 0) },
    { op := .load 9 true (.var 13) },
    { op := .mkslice 9 1 [.int .u64 0, .int .u64 0, .int .u64 0, .int .u64 0, .int .i64 0, .int .i64 0, .int .i64 0, .bool false, .nilsl] [(0, 9, .loc 2)] },
    { op := .append 9 88 false (.loc 1) (.loc 3) },
    { op := .faddr 1 (.var 6) },
    { op := .store 1 (.loc 5) (.loc 4) }]))))))
  (.region [
    { op := .bin .add (.var 28) (.const (.int .i64 1)) },
    { op := .mov (.loc 0), dst := some 28 }])))))))))))))
  (.region [
    { op := .bin .add (.var 19) (.const (.int .i64 1)) },
    { op := .mov (.loc 0), dst := some 19 }])))))))
  (.seq (.region [
    { op := .mov (.var 2) },
    { op := .mov (.loc 0) },
    { op := .load 2 true (.var 4), guard := some (1, true) },
    { op := .load 2 true (.var 6), guard := some (1, true) },
    { op := .call 11 [.loc 2, .loc 3], guard := some (1, true) },
    { op := .pick (.loc 1) (.loc 4) (.const (.bool false)) },
    { op := .mov (.loc 5), dst := some 1 }])
  .ret)))))))) }

/-- raddle/raddleref08.counted -/
def a25 : AFun := { nargs := 2, ps := [0, 1, 3, 4], res := [.var 3], body :=
  (.seq (.region [
    { op := .box (.var 1), dst := some 2 },
    { op := .mov (.const (.bool false)), dst := some 3 }])
  (.seq (.region [
    { op := .mov (.var 0) },
    { op := .faddr 5 (.var 2) },
    { op := .load 1 false (.loc 1) },
    { op := .iaddr 1 (.loc 2) (.const (.int .i64 0)) },
    { op := .load 1 false (.loc 3) },
    { op := .iaddr 9 (.loc 0) (.loc 4) },
    { op := .faddr 0 (.loc 5) },
    { op := .load 1 false (.loc 6) },
    { op := .bin .eql (.loc 7) (.const (.int .u8 2)) },
    { op := .mov (.loc 8) },
    { op := .faddr 6 (.var 2), guard := some (9, true) },
    { op := .load 1 false (.loc 10), guard := some (9, true) },
    { op := .bin .geq (.loc 11) (.const (.int .i64 1)), guard := some (9, true) },
    { op := .pick (.loc 9) (.loc 12) (.const (.bool false)) },
    { op := .mov (.loc 13) },
    { op := .faddr 7 (.var 2), guard := some (14, true) },
    { op := .load 1 false (.loc 15), guard := some (14, true) },
    { op := .bin .geq (.loc 16) (.const (.int .i64 2)), guard := some (14, true) },
    { op := .pick (.loc 14) (.loc 17) (.const (.bool false)) },
    { op := .mov (.loc 18), dst := some 3 }])
  .ret)) }

/-- raddle/raddleref08.Right -/
def a12 : AFun := { nargs := 1, ps := [0, 2, 3, 4, 7, 11, 36], res := [.var 1], body :=
  (.seq (.region [
    { op := .mov (.const (.bool false)), dst := some 1 }])
  (.seq (.seq (.region [
    { op := .mov (.var 0) },
    { op := .call 13 [.loc 0] },
    { op := .un .not (.loc 1), dst := some 4 }])
  (.cond (.var 4) (.seq (.region [
    { op := .mov (.const (.bool false)), dst := some 1 }])
  .ret) .skip))
  (.seq (.seq (.region [
    { op := .mov (.const (.int .i64 0)), dst := some 2 }])
  (.block 0 (.loop (.seq (.seq (.region [
    { op := .mov (.var 2) },
    { op := .mov (.var 0) },
    { op := .lenL (.loc 1) },
    { op := .bin .lss (.loc 0) (.loc 2), dst := some 5 }])
  (.cond (.var 5) .skip (.exit 0)))
  (.seq (.block 1 (.seq (.region [
    { op := .mov (.var 0) },
    { op := .mov (.var 2) },
    { op := .iaddr 9 (.loc 0) (.loc 1) },
    { op := .load 9 true (.loc 2) },
    { op := .alloc [.int .u8 0, .int .u64 0, .int .u64 0, .int .u64 0, .int .u64 0, .nilsl, .int .i64 0, .int .i64 0, .str []], dst := some 3 },
    { op := .store 9 (.loc 4) (.loc 3) }])
  (.seq (.region [
    { op := .faddr 0 (.var 3) },
    { op := .load 1 false (.loc 0) },
    { op := .bin .eql (.loc 1) (.const (.int .u8 5)) },
    { op := .mov (.loc 2) },
    { op := .faddr 6 (.var 3), guard := some (3, true) },
    { op := .load 1 false (.loc 4), guard := some (3, true) },
    { op := .bin .neq (.loc 5) (.const (.int .i64 0)), guard := some (3, true) },
    { op := .mov (.loc 6), guard := some (3, true) },
    { op := .faddr 7 (.var 3), guard := some (7, false) },
    { op := .load 1 false (.loc 8), guard := some (7, false) },
    { op := .bin .neq (.loc 9) (.const (.int .i64 (-1))), guard := some (7, false) },
    { op := .pick (.loc 7) (.const (.bool true)) (.loc 10), guard := some (3, true) },
    { op := .pick (.loc 3) (.loc 11) (.const (.bool false)) },
    { op := .mov (.loc 12) },
    { op := .mov (.var 0), guard := some (13, true) },
    { op := .load 9 true (.var 3), guard := some (13, true) },
    { op := .call 25 [.loc 14, .loc 15], guard := some (13, true) },
    { op := .un .not (.loc 16), guard := some (13, true) },
    { op := .pick (.loc 13) (.loc 17) (.const (.bool false)), dst := some 6 }])
  (.cond (.var 6) (.seq (.region [
    { op := .mov (.const (.bool false)), dst := some 1 }])
  .ret) .skip))))
  (.region [
    { op := .mov (.var 2) },
    { op := .bin .add (.loc 0) (.const (.int .i64 1)) },
    { op := .mov (.loc 1), dst := some 2 }]))))))
  (.seq (.region [
    { op := .mov (.const (.bool true)), dst := some 1 }])
  .ret)))) }

/-- raddle/raddlelaw09.GlushStar -/
def a4 : AFun := { nargs := 1, ps := [0, 2, 3, 4, 5, 6, 7, 8, 9, 10, 11, 12, 14, 16, 18, 32, 42, 85, 87, 88, 89, 90, 101, 102, 103, 104, 111, 112, 113, 114, 118, 123, 124, 125, 126, 132, 167], res := [.var 1], body :=
  (.seq (.region [
    { op := .mov (.const (.bool false)), dst := some 1 }])
  (.seq (.region [
    { op := .call 8 [] },
    { op := .mov (.loc 0), dst := some 2 }])
  (.seq (.seq (.region [
    { op := .mov (.var 0) },
    { op := .lenL (.loc 0) },
    { op := .bin .gtr (.loc 1) (.const (.int .i64 200)) },
    { op := .mov (.loc 2) },
    { op := .mov (.var 0), guard := some (3, false) },
    { op := .call 12 [.loc 4], guard := some (3, false) },
    { op := .un .not (.loc 5), guard := some (3, false) },
    { op := .pick (.loc 3) (.const (.bool true)) (.loc 6) },
    { op := .mov (.loc 7) },
    { op := .mov (.var 0), guard := some (8, false) },
    { op := .call 13 [.loc 9], guard := some (8, false) },
    { op := .un .not (.loc 10), guard := some (8, false) },
    { op := .pick (.loc 8) (.const (.bool true)) (.loc 11), dst := some 15 }])
  (.cond (.var 15) (.seq (.region [
    { op := .mov (.var 2) },
    { op := .mov (.loc 0), dst := some 1 }])
  .ret) .skip))
  (.seq (.region [
    { op := .mov (.var 0) },
    { op := .mov (.var 0) },
    { op := .lenL (.loc 1) },
    { op := .bin .sub (.loc 2) (.const (.int .i64 1)) },
    { op := .iaddr 9 (.loc 0) (.loc 3) },
    { op := .load 9 true (.loc 4) },
    { op := .alloc [.int .u8 0, .int .u64 0, .int .u64 0, .int .u64 0, .int .u64 0, .nilsl, .int .i64 0, .int .i64 0, .str []], dst := some 3 },
    { op := .store 9 (.loc 6) (.loc 5) }])
  (.seq (.seq (.region [
    { op := .faddr 0 (.var 3) },
    { op := .load 1 false (.loc 0) },
    { op := .bin .eql (.loc 1) (.const (.int .u8 2)), dst := some 16 }])
  (.cond (.var 16) (.seq (.region [
    { op := .mov (.var 2) },
    { op := .mov (.loc 0), dst := some 1 }])
  .ret) .skip))
  (.seq (.region [
    { op := .mov (.var 0) },
    { op := .mkslice 1 1 [.nilsl] [(0, 1, .loc 0)] },
    { op := .call 10 [.loc 1] },
    { op := .mov (.loc 2) },
    { op := .extract 0 (.loc 3) },
    { op := .extract 1 (.loc 3) },
    { op := .alloc [.nilsl, .nilsl], dst := some 4 },
    { op := .store 2 (.loc 6) (.loc 4) },
    { op := .mov (.loc 5), dst := some 5 }])
  (.seq (.region [
    { op := .mkslice 9 0 [.int .u8 0, .int .u64 0, .int .u64 0, .int .u64 0, .int .u64 0, .nilsl, .int .i64 0, .int .i64 0, .str []] [] },
    { op := .mov (.var 0) },
    { op := .append 9 96 false (.loc 0) (.loc 1) },
    { op := .mov (.var 0) },
    { op := .lenL (.loc 3) },
    { op := .bin .sub (.loc 4) (.const (.int .i64 1)) },
    { op := .mkslice 1 1 [.int .i64 0] [(0, 1, .loc 5)] },
    { op := .build [.int .u8 0, .int .u64 0, .int .u64 0, .int .u64 0, .int .u64 0, .nilsl, .int .i64 0, .int .i64 0, .str []] [(0, 1, .const (.int .u8 5)), (5, 1, .loc 6), (7, 1, .const (.int .i64 (-1)))] },
    { op := .mkslice 9 1 [.int .u8 0, .int .u64 0, .int .u64 0, .int .u64 0, .int .u64 0, .nilsl, .int .i64 0, .int .i64 0, .str []] [(0, 9, .loc 7)] },
    { op := .append 9 96 false (.loc 2) (.loc 8) },
    { op := .mkslice 1 1 [.nilsl] [(0, 1, .loc 9)] },
    { op := .call 10 [.loc 10] },
    { op := .mov (.loc 11) },
    { op := .extract 0 (.loc 12) },
    { op := .extract 1 (.loc 12) },
    { op := .alloc [.nilsl, .nilsl], dst := some 6 },
    { op := .store 2 (.loc 15) (.loc 13) },
    { op := .mov (.loc 14), dst := some 7 }])
  (.seq (.seq (.region [
    { op := .mov (.var 5) },
    { op := .mov (.var 7) },
    { op := .bin .neq (.loc 0) (.loc 1) },
    { op := .mov (.loc 2) },
    { op := .faddr 1 (.var 4), guard := some (3, false) },
    { op := .load 1 false (.loc 4), guard := some (3, false) },
    { op := .lenL (.loc 5), guard := some (3, false) },
    { op := .faddr 1 (.var 6), guard := some (3, false) },
    { op := .load 1 false (.loc 7), guard := some (3, false) },
    { op := .lenL (.loc 8), guard := some (3, false) },
    { op := .bin .neq (.loc 6) (.loc 9), guard := some (3, false) },
    { op := .pick (.loc 3) (.const (.bool true)) (.loc 10) },
    { op := .mov (.loc 11) },
    { op := .faddr 0 (.var 4), guard := some (12, false) },
    { op := .load 1 false (.loc 13), guard := some (12, false) },
    { op := .lenL (.loc 14), guard := some (12, false) },
    { op := .faddr 0 (.var 6), guard := some (12, false) },
    { op := .load 1 false (.loc 16), guard := some (12, false) },
    { op := .lenL (.loc 17), guard := some (12, false) },
    { op := .bin .neq (.loc 15) (.loc 18), guard := some (12, false) },
    { op := .pick (.loc 12) (.const (.bool true)) (.loc 19), dst := some 17 }])
  (.cond (.var 17) (.seq (.region [
    { op := .mov (.const (.bool false)), dst := some 1 }])
  .ret) .skip))
  (.seq (.seq (.region [
    { op := .faddr 1 (.var 4) },
    { op := .load 1 false (.loc 0), dst := some 18 },
    { op := .lenL (.loc 1), dst := some 19 },
    { op := .mov (.const (.int .i64 0)), dst := some 20 }])
  (.block 0 (.loop (.seq (.region [
    { op := .bin .lss (.var 20) (.var 19), dst := some 21 }])
  (.seq (.cond (.var 21) .skip (.exit 0))
  (.seq (.block 1 (.seq (.region [
    { op := .mov (.var 20) },
    { op := .iaddr 9 (.var 18) (.var 20) },
    { op := .load 9 true (.loc 1) },
    { op := .alloc [.int .u64 0, .int .u64 0, .int .u64 0, .int .u64 0, .int .i64 0, .int .i64 0, .int .i64 0, .bool false, .nilsl], dst := some 9 },
    { op := .mov (.loc 0), dst := some 8 },
    { op := .store 9 (.loc 3) (.loc 2) }])
  (.seq (.region [
    { op := .faddr 1 (.var 6) },
    { op := .load 1 false (.loc 0) },
    { op := .mov (.var 8) },
    { op := .iaddr 9 (.loc 1) (.loc 2) },
    { op := .load 9 true (.loc 3) },
    { op := .alloc [.int .u64 0, .int .u64 0, .int .u64 0, .int .u64 0, .int .i64 0, .int .i64 0, .int .i64 0, .bool false, .nilsl], dst := some 10 },
    { op := .store 9 (.loc 5) (.loc 4) }])
  (.seq (.region [
    { op := .mkmap },
    { op := .mov (.loc 0), dst := some 11 }])
  (.seq (.seq (.region [
    { op := .faddr 8 (.var 9) },
    { op := .load 1 false (.loc 0), dst := some 22 },
    { op := .lenL (.loc 1), dst := some 23 },
    { op := .mov (.const (.int .i64 0)), dst := some 24 }])
  (.block 2 (.loop (.seq (.region [
    { op := .bin .lss (.var 24) (.var 23), dst := some 25 }])
  (.seq (.cond (.var 25) .skip (.exit 2))
  (.seq (.block 3 (.seq (.region [
    { op := .iaddr 1 (.var 22) (.var 24) },
    { op := .load 1 false (.loc 0) },
    { op := .mov (.loc 1), dst := some 12 }])
  (.region [
    { op := .mov (.var 11) },
    { op := .mov (.var 12) },
    { op := .mapset .int (.loc 0) (.loc 1) (.const (.bool true)) }])))
  (.region [
    { op := .bin .add (.var 24) (.const (.int .i64 1)) },
    { op := .mov (.loc 0), dst := some 24 }])))))))
  (.seq (.seq (.region [
    { op := .faddr 0 (.var 4) },
    { op := .load 1 false (.loc 0), dst := some 26 },
    { op := .lenL (.loc 1), dst := some 27 },
    { op := .mov (.const (.int .i64 0)), dst := some 28 }])
  (.block 4 (.loop (.seq (.region [
    { op := .bin .lss (.var 28) (.var 27), dst := some 29 }])
  (.seq (.cond (.var 29) .skip (.exit 4))
  (.seq (.block 5 (.seq (.region [
    { op := .iaddr 1 (.var 26) (.var 28) },
    { op := .load 1 false (.loc 0) },
    { op := .mov (.loc 1), dst := some 13 }])
  (.seq (.region [
    { op := .faddr 7 (.var 9) },
    { op := .load 1 false (.loc 0), dst := some 30 }])
  (.cond (.var 30) (.region [
    { op := .mov (.var 11) },
    { op := .mov (.var 13) },
    { op := .mapset .int (.loc 0) (.loc 1) (.const (.bool true)) }]) .skip))))
  (.region [
    { op := .bin .add (.var 28) (.const (.int .i64 1)) },
    { op := .mov (.loc 0), dst := some 28 }])))))))
  (.seq (.seq (.region [
    { op := .faddr 8 (.var 10) },
    { op := .load 1 false (.loc 0), dst := some 31 },
    { op := .lenL (.loc 1), dst := some 32 },
    { op := .mov (.const (.int .i64 0)), dst := some 33 }])
  (.block 6 (.loop (.seq (.region [
    { op := .bin .lss (.var 33) (.var 32), dst := some 34 }])
  (.seq (.cond (.var 34) .skip (.exit 6))
  (.seq (.block 7 (.seq (.region [
    { op := .iaddr 1 (.var 31) (.var 33) },
    { op := .load 1 false (.loc 0) },
    { op := .mov (.loc 1), dst := some 14 }])
  (.seq (.region [
    { op := .mov (.var 11) },
    { op := .mov (.var 14) },
    { op := .lookup .int (.bool false) (.loc 0) (.loc 1) false },
    { op := .un .not (.loc 2), dst := some 35 }])
  (.cond (.var 35) (.seq (.region [
    { op := .mov (.const (.bool false)), dst := some 1 }])
  .ret) .skip))))
  (.region [
    { op := .bin .add (.var 33) (.const (.int .i64 1)) },
    { op := .mov (.loc 0), dst := some 33 }])))))))
  (.seq (.region [
    { op := .faddr 7 (.var 9) },
    { op := .load 1 false (.loc 0) },
    { op := .faddr 7 (.var 10) },
    { op := .load 1 false (.loc 2) },
    { op := .eqs true [.bool] false (.loc 1) (.loc 3) },
    { op := .mov (.loc 4) },
    { op := .mov (.var 11), guard := some (5, false) },
    { op := .lenM (.loc 6), guard := some (5, false) },
    { op := .faddr 8 (.var 10), guard := some (5, false) },
    { op := .load 1 false (.loc 8), guard := some (5, false) },
    { op := .lenL (.loc 9), guard := some (5, false) },
    { op := .bin .neq (.loc 7) (.loc 10), guard := some (5, false) },
    { op := .pick (.loc 5) (.const (.bool true)) (.loc 11) },
    { op := .mov (.loc 12) },
    { op := .faddr 4 (.var 9), guard := some (13, false) },
    { op := .load 1 false (.loc 14), guard := some (13, false) },
    { op := .faddr 4 (.var 10), guard := some (13, false) },
    { op := .load 1 false (.loc 16), guard := some (13, false) },
    { op := .bin .neq (.loc 15) (.loc 17), guard := some (13, false) },
    { op := .pick (.loc 13) (.const (.bool true)) (.loc 18) },
    { op := .mov (.loc 19) },
    { op := .faddr 5 (.var 9), guard := some (20, false) },
    { op := .load 1 false (.loc 21), guard := some (20, false) },
    { op := .faddr 5 (.var 10), guard := some (20, false) },
    { op := .load 1 false (.loc 23), guard := some (20, false) },
    { op := .bin .neq (.loc 22) (.loc 24), guard := some (20, false) },
    { op := .pick (.loc 20) (.const (.bool true)) (.loc 25) },
    { op := .mov (.loc 26) },
    { op := .faddr 0 (.var 9), guard := some (27, false) },
    { op := .load 4 true (.loc 28), guard := some (27, false) },
    { op := .faddr 0 (.var 10), guard := some (27, false) },
    { op := .load 4 true (.loc 30), guard := some (27, false) },
    { op := .eqs true [.int, .int, .int, .int] true (.loc 29) (.loc 31), guard := some (27, false) },
    { op := .pick (.loc 27) (.const (.bool true)) (.loc 32), dst := some 36 }])
  (.cond (.var 36) (.seq (.region [
    { op := .mov (.const (.bool false)), dst := some 1 }])
  .ret) .skip)))))))))
  (.region [
    { op := .bin .add (.var 20) (.const (.int .i64 1)) },
    { op := .mov (.loc 0), dst := some 20 }])))))))
  (.seq (.region [
    { op := .mov (.var 2) },
    { op := .mov (.loc 0), dst := some 1 }])
  .ret)))))))))) }

/-- raddle/raddlelaw09.GlushWord -/
def a5 : AFun := { nargs := 1, ps := [0, 2, 3, 4, 5, 6, 7, 8, 9, 10, 11, 12, 13, 22, 24, 25, 26, 27, 75, 77, 78, 79, 80, 138], res := [.var 1], body :=
  (.seq (.region [
    { op := .mov (.const (.bool false)), dst := some 1 }])
  (.seq (.region [
    { op := .call 8 [] },
    { op := .mov (.loc 0), dst := some 2 }])
  (.seq (.region [
    { op := .mov (.var 0) },
    { op := .mov (.var 0) },
    { op := .lenL (.loc 1) },
    { op := .minmax false (.loc 2) (.const (.int .i64 60)) },
    { op := .slsl 1 (.loc 0) none (some (.loc 3)) none },
    { op := .mov (.loc 4), dst := some 3 }])
  (.seq (.seq (.region [
    { op := .mov (.var 3) },
    { op := .lenL (.loc 0) },
    { op := .bin .lss (.loc 1) (.const (.int .i64 2)), dst := some 13 }])
  (.cond (.var 13) (.seq (.region [
    { op := .mov (.var 2) },
    { op := .mov (.loc 0), dst := some 1 }])
  .ret) .skip))
  (.seq (.region [
    { op := .mov (.const (.nilsl)), dst := some 4 }])
  (.seq (.region [
    { op := .mov (.const (.nilsl)), dst := some 5 }])
  (.seq (.seq (.region [
    { op := .mov (.var 3), dst := some 14 },
    { op := .lenL (.loc 0), dst := some 15 },
    { op := .mov (.const (.int .i64 0)), dst := some 16 }])
  (.block 0 (.loop (.seq (.region [
    { op := .bin .lss (.var 16) (.var 15), dst := some 17 }])
  (.seq (.cond (.var 17) .skip (.exit 0))
  (.seq (.block 1 (.seq (.region [
    { op := .mov (.var 16) },
    { op := .iaddr 1 (.var 14) (.var 16) },
    { op := .load 1 false (.loc 1) },
    { op := .mov (.loc 0), dst := some 6 },
    { op := .mov (.loc 2), dst := some 7 }])
  (.seq (.region [
    { op := .mov (.var 4) },
    { op := .mov (.var 7) },
    { op := .mkslice 1 1 [.int .u8 0] [(0, 1, .loc 1)] },
    { op := .call 14 [.loc 2] },
    { op := .build [.int .u8 0, .int .u64 0, .int .u64 0, .int .u64 0, .int .u64 0, .nilsl, .int .i64 0, .int .i64 0, .str []] [(0, 1, .const (.int .u8 2)), (1, 4, .loc 3)] },
    { op := .mkslice 9 1 [.int .u8 0, .int .u64 0, .int .u64 0, .int .u64 0, .int .u64 0, .nilsl, .int .i64 0, .int .i64 0, .str []] [(0, 9, .loc 4)] },
    { op := .append 9 96 false (.loc 0) (.loc 5) },
    { op := .mov (.loc 6), dst := some 4 }])
  (.region [
    { op := .mov (.var 5) },
    { op := .mov (.var 6) },
    { op := .mkslice 1 1 [.int .i64 0] [(0, 1, .loc 1)] },
    { op := .append 1 8 false (.loc 0) (.loc 2) },
    { op := .mov (.loc 3), dst := some 5 }]))))
  (.region [
    { op := .bin .add (.var 16) (.const (.int .i64 1)) },
    { op := .mov (.loc 0), dst := some 16 }])))))))
  (.seq (.region [
    { op := .mov (.var 4) },
    { op := .mov (.var 5) },
    { op := .build [.int .u8 0, .int .u64 0, .int .u64 0, .int .u64 0, .int .u64 0, .nilsl, .int .i64 0, .int .i64 0, .str []] [(0, 1, .const (.int .u8 3)), (5, 1, .loc 1)] },
    { op := .mkslice 9 1 [.int .u8 0, .int .u64 0, .int .u64 0, .int .u64 0, .int .u64 0, .nilsl, .int .i64 0, .int .i64 0, .str []] [(0, 9, .loc 2)] },
    { op := .append 9 96 false (.loc 0) (.loc 3) },
    { op := .mkslice 1 1 [.nilsl] [(0, 1, .loc 4)] },
    { op := .call 10 [.loc 5] },
    { op := .mov (.loc 6) },
    { op := .extract 0 (.loc 7) },
    { op := .extract 1 (.loc 7) },
    { op := .alloc [.nilsl, .nilsl], dst := some 8 },
    { op := .store 2 (.loc 10) (.loc 8) },
    { op := .mov (.loc 9), dst := some 9 }])
  (.seq (.seq (.region [
    { op := .mov (.var 9) },
    { op := .bin .neq (.loc 0) (.const (.int .i64 0)) },
    { op := .mov (.loc 1) },
    { op := .faddr 1 (.var 8), guard := some (2, false) },
    { op := .load 1 false (.loc 3), guard := some (2, false) },
    { op := .lenL (.loc 4), guard := some (2, false) },
    { op := .mov (.var 3), guard := some (2, false) },
    { op := .lenL (.loc 6), guard := some (2, false) },
    { op := .bin .neq (.loc 5) (.loc 7), guard := some (2, false) },
    { op := .pick (.loc 2) (.const (.bool true)) (.loc 8) },
    { op := .mov (.loc 9) },
    { op := .faddr 0 (.var 8), guard := some (10, false) },
    { op := .load 1 false (.loc 11), guard := some (10, false) },
    { op := .lenL (.loc 12), guard := some (10, false) },
    { op := .bin .neq (.loc 13) (.const (.int .i64 1)), guard := some (10, false) },
    { op := .pick (.loc 10) (.const (.bool true)) (.loc 14) },
    { op := .mov (.loc 15) },
    { op := .faddr 0 (.var 8), guard := some (16, false) },
    { op := .load 1 false (.loc 17), guard := some (16, false) },
    { op := .iaddr 1 (.loc 18) (.const (.int .i64 0)), guard := some (16, false) },
    { op := .load 1 false (.loc 19), guard := some (16, false) },
    { op := .bin .neq (.loc 20) (.const (.int .i64 0)), guard := some (16, false) },
    { op := .pick (.loc 16) (.const (.bool true)) (.loc 21), dst := some 18 }])
  (.cond (.var 18) (.seq (.region [
    { op := .mov (.const (.bool false)), dst := some 1 }])
  .ret) .skip))
  (.seq (.seq (.region [
    { op := .faddr 1 (.var 8) },
    { op := .load 1 false (.loc 0), dst := some 19 },
    { op := .lenL (.loc 1), dst := some 20 },
    { op := .mov (.const (.int .i64 0)), dst := some 21 }])
  (.block 2 (.loop (.seq (.region [
    { op := .bin .lss (.var 21) (.var 20), dst := some 22 }])
  (.seq (.cond (.var 22) .skip (.exit 2))
  (.seq (.block 3 (.seq (.region [
    { op := .mov (.var 21) },
    { op := .iaddr 9 (.var 19) (.var 21) },
    { op := .load 9 true (.loc 1) },
    { op := .alloc [.int .u64 0, .int .u64 0, .int .u64 0, .int .u64 0, .int .i64 0, .int .i64 0, .int .i64 0, .bool false, .nilsl], dst := some 11 },
    { op := .mov (.loc 0), dst := some 10 },
    { op := .store 9 (.loc 3) (.loc 2) }])
  (.seq (.region [
    { op := .mov (.var 10) },
    { op := .mov (.var 3) },
    { op := .lenL (.loc 1) },
    { op := .bin .sub (.loc 2) (.const (.int .i64 1)) },
    { op := .bin .eql (.loc 0) (.loc 3) },
    { op := .mov (.loc 4), dst := some 12 }])
  (.seq (.region [
    { op := .faddr 0 (.var 11) },
    { op := .load 4 true (.loc 0) },
    { op := .mov (.var 3) },
    { op := .mov (.var 10) },
    { op := .iaddr 1 (.loc 2) (.loc 3) },
    { op := .load 1 false (.loc 4) },
    { op := .mkslice 1 1 [.int .u8 0] [(0, 1, .loc 5)] },
    { op := .call 14 [.loc 6], aft := [1] },
    { op := .eqs true [.int, .int, .int, .int] true (.loc 1) (.loc 7) },
    { op := .mov (.loc 8) },
    { op := .faddr 4 (.var 11), guard := some (9, false) },
    { op := .load 1 false (.loc 10), guard := some (9, false) },
    { op := .bin .neq (.loc 11) (.const (.int .i64 1)), guard := some (9, false) },
    { op := .pick (.loc 9) (.const (.bool true)) (.loc 12) },
    { op := .mov (.loc 13) },
    { op := .faddr 5 (.var 11), guard := some (14, false) },
    { op := .load 1 false (.loc 15), guard := some (14, false) },
    { op := .bin .neq (.loc 16) (.const (.int .i64 1)), guard := some (14, false) },
    { op := .pick (.loc 14) (.const (.bool true)) (.loc 17) },
    { op := .mov (.loc 18) },
    { op := .faddr 7 (.var 11), guard := some (19, false) },
    { op := .load 1 false (.loc 20), guard := some (19, false) },
    { op := .mov (.var 12), guard := some (19, false) },
    { op := .eqs true [.bool] false (.loc 21) (.loc 22), guard := some (19, false) },
    { op := .pick (.loc 19) (.const (.bool true)) (.loc 23) },
    { op := .mov (.loc 24) },
    { op := .faddr 8 (.var 11), guard := some (25, false) },
    { op := .load 1 false (.loc 26), guard := some (25, false) },
    { op := .lenL (.loc 27), guard := some (25, false) },
    { op := .mov (.var 3), guard := some (25, false) },
    { op := .lenL (.loc 29), guard := some (25, false) },
    { op := .bin .sub (.loc 30) (.const (.int .i64 1)), guard := some (25, false) },
    { op := .mov (.var 10), guard := some (25, false) },
    { op := .bin .sub (.loc 31) (.loc 32), guard := some (25, false) },
    { op := .minmax false (.loc 33) (.const (.int .i64 1)), guard := some (25, false) },
    { op := .bin .neq (.loc 28) (.loc 34), guard := some (25, false) },
    { op := .pick (.loc 25) (.const (.bool true)) (.loc 35) },
    { op := .mov (.loc 36) },
    { op := .mov (.var 12), guard := some (37, false) },
    { op := .un .not (.loc 38), guard := some (37, false) },
    { op := .mov (.loc 39), guard := some (37, false) },
    { op := .faddr 8 (.var 11), guard := some (40, true) },
    { op := .load 1 false (.loc 41), guard := some (40, true) },
    { op := .iaddr 1 (.loc 42) (.const (.int .i64 0)), guard := some (40, true) },
    { op := .load 1 false (.loc 43), guard := some (40, true) },
    { op := .mov (.var 10), guard := some (40, true) },
    { op := .bin .add (.loc 45) (.const (.int .i64 1)), guard := some (40, true) },
    { op := .bin .neq (.loc 44) (.loc 46), guard := some (40, true) },
    { op := .pick (.loc 40) (.loc 47) (.const (.bool false)), guard := some (37, false) },
    { op := .pick (.loc 37) (.const (.bool true)) (.loc 48), dst := some 23 }])
  (.cond (.var 23) (.seq (.region [
    { op := .mov (.const (.bool false)), dst := some 1 }])
  .ret) .skip)))))
  (.region [
    { op := .bin .add (.var 21) (.const (.int .i64 1)) },
    { op := .mov (.loc 0), dst := some 21 }])))))))
  (.seq (.region [
    { op := .mov (.var 2) },
    { op := .mov (.loc 0), dst := some 1 }])
  .ret))))))))))) }

/-- raddle/raddlelaw09.GlushCounts -/
def a6 : AFun := { nargs := 3, ps := [0, 1, 2, 5, 6, 7, 8, 9, 10, 11, 24], res := [.var 4], body :=
  (.seq (.region [
    { op := .box (.var 2), dst := some 3 },
    { op := .mov (.const (.bool false)), dst := some 4 }])
  (.seq (.region [
    { op := .call 8 [] },
    { op := .mov (.loc 0), dst := some 5 }])
  (.seq (.region [
    { op := .mov (.var 1) },
    { op := .bin .rem (.loc 0) (.const (.int .u16 4095)) },
    { op := .conv .i64 (.loc 1) },
    { op := .bin .add (.loc 2) (.const (.int .i64 2)) },
    { op := .mov (.loc 3), dst := some 6 }])
  (.seq (.region [
    { op := .mov (.var 0) },
    { op := .conv .i64 (.loc 0) },
    { op := .mov (.var 6) },
    { op := .bin .rem (.loc 1) (.loc 2) },
    { op := .bin .add (.loc 3) (.const (.int .i64 1)) },
    { op := .mov (.loc 4), dst := some 7 }])
  (.seq (.seq (.region [
    { op := .load 4 true (.var 3) },
    { op := .build [.int .u64 0, .int .u64 0, .int .u64 0, .int .u64 0] [] },
    { op := .eqs false [.int, .int, .int, .int] true (.loc 0) (.loc 1), dst := some 10 }])
  (.cond (.var 10) (.seq (.region [
    { op := .mov (.var 5) },
    { op := .mov (.loc 0), dst := some 4 }])
  .ret) .skip))
  (.seq (.region [
    { op := .load 4 true (.var 3) },
    { op := .build [.int .u8 0, .int .u64 0, .int .u64 0, .int .u64 0, .int .u64 0, .nilsl, .int .i64 0, .int .i64 0, .str []] [(0, 1, .const (.int .u8 2)), (1, 4, .loc 0)] },
    { op := .mkslice 1 1 [.int .i64 0] [(0, 1, .const (.int .i64 0))] },
    { op := .mov (.var 7) },
    { op := .mov (.var 6) },
    { op := .build [.int .u8 0, .int .u64 0, .int .u64 0, .int .u64 0, .int .u64 0, .nilsl, .int .i64 0, .int .i64 0, .str []] [(0, 1, .const (.int .u8 5)), (5, 1, .loc 2), (6, 1, .loc 3), (7, 1, .loc 4)] },
    { op := .mkslice 9 2 [.int .u8 0, .int .u64 0, .int .u64 0, .int .u64 0, .int .u64 0, .nilsl, .int .i64 0, .int .i64 0, .str []] [(0, 9, .loc 1), (9, 9, .loc 5)] },
    { op := .mkslice 1 1 [.nilsl] [(0, 1, .loc 6)] },
    { op := .call 10 [.loc 7] },
    { op := .mov (.loc 8) },
    { op := .extract 0 (.loc 9) },
    { op := .extract 1 (.loc 9) },
    { op := .alloc [.nilsl, .nilsl], dst := some 8 },
    { op := .store 2 (.loc 12) (.loc 10) },
    { op := .mov (.loc 11), dst := some 9 }])
  (.seq (.region [
    { op := .mov (.var 5) },
    { op := .mov (.loc 0) },
    { op := .mov (.var 9), guard := some (1, true) },
    { op := .bin .eql (.loc 2) (.const (.int .i64 0)), guard := some (1, true) },
    { op := .pick (.loc 1) (.loc 3) (.const (.bool false)) },
    { op := .mov (.loc 4) },
    { op := .load 2 true (.var 8), guard := some (5, true) },
    { op := .mkslice 1 1 [.int .i64 0] [(0, 1, .const (.int .i64 0))], guard := some (5, true) },
    { op := .load 4 true (.var 3), guard := some (5, true) },
    { op := .mov (.var 7), guard := some (5, true) },
    { op := .mov (.var 6), guard := some (5, true) },
    { op := .build [.int .u64 0, .int .u64 0, .int .u64 0, .int .u64 0, .int .i64 0, .int .i64 0, .int .i64 0, .bool false, .nilsl] [(0, 4, .loc 8), (4, 1, .loc 9), (5, 1, .loc 10), (7, 1, .const (.bool true))], guard := some (5, true) },
    { op := .mkslice 9 1 [.int .u64 0, .int .u64 0, .int .u64 0, .int .u64 0, .int .i64 0, .int .i64 0, .int .i64 0, .bool false, .nilsl] [(0, 9, .loc 11)], guard := some (5, true) },
    { op := .build [.nilsl, .nilsl] [(0, 1, .loc 7), (1, 1, .loc 12)], guard := some (5, true) },
    { op := .call 11 [.loc 6, .loc 13], guard := some (5, true) },
    { op := .pick (.loc 5) (.loc 14) (.const (.bool false)) },
    { op := .mov (.loc 15), dst := some 4 }])
  .ret))))))) }

/-- raddle/glush.rises -/
def a28 : AFun := { nargs := 2, ps := [0, 1, 4, 5, 7, 8, 9, 10, 11, 21], res := [.var 2], body :=
  (.seq (.region [
    { op := .mov (.const (.bool false)), dst := some 2 }])
  (.seq (.region [
    { op := .mov (.const (.int .i64 (-1))), dst := some 3 }])
  (.seq (.seq (.region [
    { op := .mov (.var 0), dst := some 5 },
    { op := .lenL (.loc 0), dst := some 6 },
    { op := .mov (.const (.int .i64 0)), dst := some 7 }])
  (.block 0 (.loop (.seq (.region [
    { op := .bin .lss (.var 7) (.var 6), dst := some 8 }])
  (.seq (.cond (.var 8) .skip (.exit 0))
  (.seq (.block 1 (.seq (.region [
    { op := .iaddr 1 (.var 5) (.var 7) },
    { op := .load 1 false (.loc 0) },
    { op := .mov (.loc 1), dst := some 4 }])
  (.seq (.seq (.region [
    { op := .mov (.var 4) },
    { op := .mov (.var 3) },
    { op := .bin .leq (.loc 0) (.loc 1) },
    { op := .mov (.loc 2) },
    { op := .mov (.var 4), guard := some (3, false) },
    { op := .mov (.var 1), guard := some (3, false) },
    { op := .bin .geq (.loc 4) (.loc 5), guard := some (3, false) },
    { op := .pick (.loc 3) (.const (.bool true)) (.loc 6), dst := some 9 }])
  (.cond (.var 9) (.seq (.region [
    { op := .mov (.const (.bool false)), dst := some 2 }])
  .ret) .skip))
  (.region [
    { op := .mov (.var 4) },
    { op := .mov (.loc 0), dst := some 3 }]))))
  (.region [
    { op := .bin .add (.var 7) (.const (.int .i64 1)) },
    { op := .mov (.loc 0), dst := some 7 }])))))))
  (.seq (.region [
    { op := .mov (.const (.bool true)), dst := some 2 }])
  .ret)))) }

/-- slices.IndexFunc[[]raddle/api.Pos,raddle/api.Pos] -/
def a48 : AFun := { nargs := 2, ps := [0, 1, 4, 5, 7, 8, 9, 16], res := [.var 2], body :=
  (.seq (.region [
    { op := .mov (.const (.int .i64 0)), dst := some 2 }])
  (.seq (.seq (.region [
    { op := .mov (.var 0) },
    { op := .lenL (.loc 0), dst := some 4 },
    { op := .mov (.const (.int .i64 0)), dst := some 5 }])
  (.block 0 (.loop (.seq (.region [
    { op := .bin .lss (.var 5) (.var 4), dst := some 6 }])
  (.seq (.cond (.var 6) .skip (.exit 0))
  (.seq (.block 1 (.seq (.region [
    { op := .mov (.var 5) },
    { op := .mov (.loc 0), dst := some 3 }])
  (.seq (.region [
    { op := .mov (.var 1) },
    { op := .mov (.var 0) },
    { op := .mov (.var 3) },
    { op := .iaddr 9 (.loc 1) (.loc 2) },
    { op := .load 9 true (.loc 3) },
    { op := .callv (.loc 0) [.loc 4], dst := some 7 }])
  (.cond (.var 7) (.seq (.region [
    { op := .mov (.var 3) },
    { op := .mov (.loc 0), dst := some 2 }])
  .ret) .skip))))
  (.region [
    { op := .bin .add (.var 5) (.const (.int .i64 1)) },
    { op := .mov (.loc 0), dst := some 5 }])))))))
  (.seq (.region [
    { op := .mov (.const (.int .i64 (-1))), dst := some 2 }])
  .ret))) }

/-- slices.ContainsFunc[[]raddle/api.Pos,raddle/api.Pos] -/
def a29 : AFun := { nargs := 2, ps := [0, 1, 4], res := [.var 2], body :=
  (.seq (.region [
    { op := .mov (.const (.bool false)), dst := some 2 }])
  (.seq (.region [
    { op := .mov (.var 0) },
    { op := .mov (.var 1) },
    { op := .call 48 [.loc 0, .loc 1] },
    { op := .bin .geq (.loc 2) (.const (.int .i64 0)) },
    { op := .mov (.loc 3), dst := some 2 }])
  .ret)) }

/-- raddle/glush.may -/
def a31 : AFun := { nargs := 2, ps := [0, 1, 2, 4], res := [.var 3], body :=
  (.seq (.region [
    { op := .box (.var 0), dst := some 2 },
    { op := .mov (.const (.bool false)), dst := some 3 }])
  (.seq (.region [
    { op := .faddr 0 (.var 2) },
    { op := .load 4 true (.loc 0) },
    { op := .build [.int .u64 0, .int .u64 0, .int .u64 0, .int .u64 0] [] },
    { op := .eqs true [.int, .int, .int, .int] true (.loc 1) (.loc 2) },
    { op := .mov (.loc 3) },
    { op := .faddr 4 (.var 2), guard := some (4, true) },
    { op := .load 1 false (.loc 5), guard := some (4, true) },
    { op := .bin .geq (.loc 6) (.const (.int .i64 1)), guard := some (4, true) },
    { op := .pick (.loc 4) (.loc 7) (.const (.bool false)) },
    { op := .mov (.loc 8) },
    { op := .faddr 4 (.var 2), guard := some (9, true) },
    { op := .load 1 false (.loc 10), guard := some (9, true) },
    { op := .faddr 5 (.var 2), guard := some (9, true) },
    { op := .load 1 false (.loc 12), guard := some (9, true) },
    { op := .bin .leq (.loc 11) (.loc 13), guard := some (9, true) },
    { op := .pick (.loc 9) (.loc 14) (.const (.bool false)) },
    { op := .mov (.loc 15) },
    { op := .faddr 5 (.var 2), guard := some (16, true) },
    { op := .load 1 false (.loc 17), guard := some (16, true) },
    { op := .bin .leq (.loc 18) (.const (.int .i64 4096)), guard := some (16, true) },
    { op := .pick (.loc 16) (.loc 19) (.const (.bool false)) },
    { op := .mov (.loc 20) },
    { op := .faddr 6 (.var 2), guard := some (21, true) },
    { op := .load 1 false (.loc 22), guard := some (21, true) },
    { op := .bin .geq (.loc 23) (.const (.int .i64 0)), guard := some (21, true) },
    { op := .pick (.loc 21) (.loc 24) (.const (.bool false)) },
    { op := .mov (.loc 25) },
    { op := .faddr 6 (.var 2), guard := some (26, true) },
    { op := .load 1 false (.loc 27), guard := some (26, true) },
    { op := .bin .lss (.loc 28) (.const (.int .i64 512)), guard := some (26, true) },
    { op := .pick (.loc 26) (.loc 29) (.const (.bool false)) },
    { op := .mov (.loc 30) },
    { op := .faddr 8 (.var 2), guard := some (31, true) },
    { op := .load 1 false (.loc 32), guard := some (31, true) },
    { op := .mov (.var 1), guard := some (31, true) },
    { op := .call 28 [.loc 33, .loc 34], guard := some (31, true) },
    { op := .pick (.loc 31) (.loc 35) (.const (.bool false)) },
    { op := .mov (.loc 36), dst := some 3 }])
  .ret)) }

/-- raddle/glush.Right$1 -/
def a30 : AFun := { nargs := 2, ps := [0, 1, 2, 3], res := [.var 3], body :=
  (.seq (.region [
    { op := .box (.var 0), dst := some 2 },
    { op := .mov (.const (.bool false)), dst := some 3 }])
  (.seq (.region [
    { op := .load 9 true (.var 2) },
    { op := .faddr 1 (.var 1) },
    { op := .load 1 false (.loc 1) },
    { op := .lenL (.loc 2) },
    { op := .call 31 [.loc 0, .loc 3] },
    { op := .un .not (.loc 4) },
    { op := .mov (.loc 5), dst := some 3 }])
  .ret)) }

/-- raddle/glush.Right -/
def a15 : AFun := { nargs := 1, ps := [0, 1, 2, 15], res := [.var 2], body :=
  (.seq (.region [
    { op := .box (.var 0), dst := some 1 },
    { op := .mov (.const (.bool false)), dst := some 2 }])
  (.seq (.seq (.region [
    { op := .faddr 1 (.var 1) },
    { op := .load 1 false (.loc 0) },
    { op := .lenL (.loc 1) },
    { op := .bin .gtr (.loc 2) (.const (.int .i64 512)) },
    { op := .mov (.loc 3) },
    { op := .faddr 0 (.var 1), guard := some (4, false) },
    { op := .load 1 false (.loc 5), guard := some (4, false) },
    { op := .faddr 1 (.var 1), guard := some (4, false) },
    { op := .load 1 false (.loc 7), guard := some (4, false) },
    { op := .lenL (.loc 8), guard := some (4, false) },
    { op := .call 28 [.loc 6, .loc 9], guard := some (4, false) },
    { op := .un .not (.loc 10), guard := some (4, false) },
    { op := .pick (.loc 4) (.const (.bool true)) (.loc 11), dst := some 3 }])
  (.cond (.var 3) (.seq (.region [
    { op := .mov (.const (.bool false)), dst := some 2 }])
  .ret) .skip))
  (.seq (.region [
    { op := .faddr 1 (.var 1) },
    { op := .load 1 false (.loc 0) },
    { op := .func 30 [] [.var 1] },
    { op := .call 29 [.loc 1, .loc 2] },
    { op := .un .not (.loc 3) },
    { op := .mov (.loc 4), dst := some 2 }])
  .ret))) }

/-- raddle/raddleref09.rises -/
def a32 : AFun := { nargs := 2, ps := [0, 1, 4, 5, 9, 40], res := [.var 2], body :=
  (.seq (.region [
    { op := .mov (.const (.bool false)), dst := some 2 }])
  (.seq (.seq (.region [
    { op := .mov (.const (.int .i64 0)), dst := some 3 }])
  (.block 0 (.loop (.seq (.seq (.region [
    { op := .mov (.var 3) },
    { op := .mov (.var 0) },
    { op := .lenL (.loc 1) },
    { op := .bin .lss (.loc 0) (.loc 2), dst := some 4 }])
  (.cond (.var 4) .skip (.exit 0)))
  (.seq (.block 1 (.seq (.region [
    { op := .mov (.var 0) },
    { op := .mov (.var 3) },
    { op := .iaddr 1 (.loc 0) (.loc 1) },
    { op := .load 1 false (.loc 2) },
    { op := .bin .lss (.loc 3) (.const (.int .i64 0)) },
    { op := .mov (.loc 4) },
    { op := .mov (.var 0), guard := some (5, false) },
    { op := .mov (.var 3), guard := some (5, false) },
    { op := .iaddr 1 (.loc 6) (.loc 7), guard := some (5, false) },
    { op := .load 1 false (.loc 8), guard := some (5, false) },
    { op := .mov (.var 1), guard := some (5, false) },
    { op := .bin .geq (.loc 9) (.loc 10), guard := some (5, false) },
    { op := .pick (.loc 5) (.const (.bool true)) (.loc 11) },
    { op := .mov (.loc 12) },
    { op := .mov (.var 3), guard := some (13, false) },
    { op := .bin .gtr (.loc 14) (.const (.int .i64 0)), guard := some (13, false) },
    { op := .mov (.loc 15), guard := some (13, false) },
    { op := .mov (.var 0), guard := some (16, true) },
    { op := .mov (.var 3), guard := some (16, true) },
    { op := .bin .sub (.loc 18) (.const (.int .i64 1)), guard := some (16, true) },
    { op := .iaddr 1 (.loc 17) (.loc 19), guard := some (16, true) },
    { op := .load 1 false (.loc 20), guard := some (16, true) },
    { op := .mov (.var 0), guard := some (16, true) },
    { op := .mov (.var 3), guard := some (16, true) },
    { op := .iaddr 1 (.loc 22) (.loc 23), guard := some (16, true) },
    { op := .load 1 false (.loc 24), guard := some (16, true) },
    { op := .bin .geq (.loc 21) (.loc 25), guard := some (16, true) },
    { op := .pick (.loc 16) (.loc 26) (.const (.bool false)), guard := some (13, false) },
    { op := .pick (.loc 13) (.const (.bool true)) (.loc 27), dst := some 5 }])
  (.cond (.var 5) (.seq (.region [
    { op := .mov (.const (.bool false)), dst := some 2 }])
  .ret) .skip)))
  (.region [
    { op := .mov (.var 3) },
    { op := .bin .add (.loc 0) (.const (.int .i64 1)) },
    { op := .mov (.loc 1), dst := some 3 }]))))))
  (.seq (.region [
    { op := .mov (.const (.bool true)), dst := some 2 }])
  .ret))) }

/-- raddle/raddleref09.Right -/
def a16 : AFun := { nargs := 1, ps := [0, 1, 2, 3, 4, 17, 22, 69], res := [.var 2], body :=
  (.seq (.region [
    { op := .box (.var 0), dst := some 1 },
    { op := .mov (.const (.bool false)), dst := some 2 }])
  (.seq (.seq (.region [
    { op := .faddr 1 (.var 1) },
    { op := .load 1 false (.loc 0) },
    { op := .lenL (.loc 1) },
    { op := .bin .gtr (.loc 2) (.const (.int .i64 512)) },
    { op := .mov (.loc 3) },
    { op := .faddr 0 (.var 1), guard := some (4, false) },
    { op := .load 1 false (.loc 5), guard := some (4, false) },
    { op := .faddr 1 (.var 1), guard := some (4, false) },
    { op := .load 1 false (.loc 7), guard := some (4, false) },
    { op := .lenL (.loc 8), guard := some (4, false) },
    { op := .call 32 [.loc 6, .loc 9], guard := some (4, false) },
    { op := .un .not (.loc 10), guard := some (4, false) },
    { op := .pick (.loc 4) (.const (.bool true)) (.loc 11), dst := some 5 }])
  (.cond (.var 5) (.seq (.region [
    { op := .mov (.const (.bool false)), dst := some 2 }])
  .ret) .skip))
  (.seq (.seq (.region [
    { op := .mov (.const (.int .i64 0)), dst := some 3 }])
  (.block 0 (.loop (.seq (.seq (.region [
    { op := .mov (.var 3) },
    { op := .faddr 1 (.var 1) },
    { op := .load 1 false (.loc 1) },
    { op := .lenL (.loc 2) },
    { op := .bin .lss (.loc 0) (.loc 3), dst := some 6 }])
  (.cond (.var 6) .skip (.exit 0)))
  (.seq (.block 1 (.seq (.region [
    { op := .faddr 1 (.var 1) },
    { op := .load 1 false (.loc 0) },
    { op := .mov (.var 3) },
    { op := .iaddr 9 (.loc 1) (.loc 2) },
    { op := .load 9 true (.loc 3) },
    { op := .alloc [.int .u64 0, .int .u64 0, .int .u64 0, .int .u64 0, .int .i64 0, .int .i64 0, .int .i64 0, .bool false, .nilsl], dst := some 4 },
    { op := .store 9 (.loc 5) (.loc 4) }])
  (.seq (.region [
    { op := .faddr 0 (.var 4) },
    { op := .load 4 true (.loc 0) },
    { op := .build [.int .u64 0, .int .u64 0, .int .u64 0, .int .u64 0] [] },
    { op := .eqs false [.int, .int, .int, .int] true (.loc 1) (.loc 2) },
    { op := .mov (.loc 3) },
    { op := .faddr 4 (.var 4), guard := some (4, false) },
    { op := .load 1 false (.loc 5), guard := some (4, false) },
    { op := .bin .lss (.loc 6) (.const (.int .i64 1)), guard := some (4, false) },
    { op := .pick (.loc 4) (.const (.bool true)) (.loc 7) },
    { op := .mov (.loc 8) },
    { op := .faddr 4 (.var 4), guard := some (9, false) },
    { op := .load 1 false (.loc 10), guard := some (9, false) },
    { op := .faddr 5 (.var 4), guard := some (9, false) },
    { op := .load 1 false (.loc 12), guard := some (9, false) },
    { op := .bin .gtr (.loc 11) (.loc 13), guard := some (9, false) },
    { op := .pick (.loc 9) (.const (.bool true)) (.loc 14) },
    { op := .mov (.loc 15) },
    { op := .faddr 5 (.var 4), guard := some (16, false) },
    { op := .load 1 false (.loc 17), guard := some (16, false) },
    { op := .bin .gtr (.loc 18) (.const (.int .i64 4096)), guard := some (16, false) },
    { op := .pick (.loc 16) (.const (.bool true)) (.loc 19) },
    { op := .mov (.loc 20) },
    { op := .faddr 6 (.var 4), guard := some (21, false) },
    { op := .load 1 false (.loc 22), guard := some (21, false) },
    { op := .bin .lss (.loc 23) (.const (.int .i64 0)), guard := some (21, false) },
    { op := .pick (.loc 21) (.const (.bool true)) (.loc 24) },
    { op := .mov (.loc 25) },
    { op := .faddr 6 (.var 4), guard := some (26, false) },
    { op := .load 1 false (.loc 27), guard := some (26, false) },
    { op := .bin .geq (.loc 28) (.const (.int .i64 512)), guard := some (26, false) },
    { op := .pick (.loc 26) (.const (.bool true)) (.loc 29) },
    { op := .mov (.loc 30) },
    { op := .faddr 8 (.var 4), guard := some (31, false) },
    { op := .load 1 false (.loc 32), guard := some (31, false) },
    { op := .faddr 1 (.var 1), guard := some (31, false) },
    { op := .load 1 false (.loc 34), guard := some (31, false) },
    { op := .lenL (.loc 35), guard := some (31, false) },
    { op := .call 32 [.loc 33, .loc 36], guard := some (31, false) },
    { op := .un .not (.loc 37), guard := some (31, false) },
    { op := .pick (.loc 31) (.const (.bool true)) (.loc 38), dst := some 7 }])
  (.cond (.var 7) (.seq (.region [
    { op := .mov (.const (.bool false)), dst := some 2 }])
  .ret) .skip))))
  (.region [
    { op := .mov (.var 3) },
    { op := .bin .add (.loc 0) (.const (.int .i64 1)) },
    { op := .mov (.loc 1), dst := some 3 }]))))))
  (.seq (.region [
    { op := .mov (.const (.bool true)), dst := some 2 }])
  .ret)))) }

/-- raddle/raddlelaw09.GlushRights -/
def a7 : AFun := { nargs := 1, ps := [0, 1, 2, 3], res := [.var 2], body :=
  (.seq (.region [
    { op := .box (.var 0), dst := some 1 },
    { op := .mov (.const (.bool false)), dst := some 2 }])
  (.seq (.region [
    { op := .faddr 0 (.var 1) },
    { op := .load 1 false (.loc 0) },
    { op := .faddr 1 (.var 1) },
    { op := .load 1 false (.loc 2) },
    { op := .faddr 1 (.var 1) },
    { op := .load 1 false (.loc 4) },
    { op := .lenL (.loc 5) },
    { op := .minmax false (.loc 6) (.const (.int .i64 600)) },
    { op := .slsl 9 (.loc 3) none (some (.loc 7)) none },
    { op := .build [.nilsl, .nilsl] [(0, 1, .loc 1), (1, 1, .loc 8)] },
    { op := .alloc [.nilsl, .nilsl], dst := some 3 },
    { op := .store 2 (.loc 10) (.loc 9) }])
  (.seq (.region [
    { op := .call 8 [] },
    { op := .mov (.loc 0) },
    { op := .load 2 true (.var 3), guard := some (1, true) },
    { op := .call 15 [.loc 2], guard := some (1, true) },
    { op := .load 2 true (.var 3), guard := some (1, true), bef := [3] },
    { op := .call 16 [.loc 4], guard := some (1, true) },
    { op := .eqs false [.bool] false (.loc 3) (.loc 5), guard := some (1, true) },
    { op := .pick (.loc 1) (.loc 6) (.const (.bool false)) },
    { op := .mov (.loc 7), dst := some 2 }])
  .ret))) }

theorem a35_ok : trFun Try.prog Try.f35 a35.ps = some a35 := by kernel_rfl
theorem a19_ok : trFun Try.prog Try.f19 a19.ps = some a19 := by kernel_rfl
theorem a95_ok : trFun Try.prog Try.f95 a95.ps = some a95 := by kernel_rfl
theorem a96_ok : trFun Try.prog Try.f96 a96.ps = some a96 := by kernel_rfl
theorem a84_ok : trFun Try.prog Try.f84 a84.ps = some a84 := by kernel_rfl
theorem a82_ok : trFun Try.prog Try.f82 a82.ps = some a82 := by kernel_rfl
theorem a83_ok : trFun Try.prog Try.f83 a83.ps = some a83 := by kernel_rfl
theorem a62_ok : trFun Try.prog Try.f62 a62.ps = some a62 := by kernel_rfl
theorem a63_ok : trFun Try.prog Try.f63 a63.ps = some a63 := by kernel_rfl
theorem a85_ok : trFun Try.prog Try.f85 a85.ps = some a85 := by kernel_rfl
theorem a97_ok : trFun Try.prog Try.f97 a97.ps = some a97 := by kernel_rfl
theorem a86_ok : trFun Try.prog Try.f86 a86.ps = some a86 := by kernel_rfl
theorem a64_ok : trFun Try.prog Try.f64 a64.ps = some a64 := by kernel_rfl
theorem a53_ok : trFun Try.prog Try.f53 a53.ps = some a53 := by kernel_rfl
theorem a36_ok : trFun Try.prog Try.f36 a36.ps = some a36 := by kernel_rfl
theorem a37_ok : trFun Try.prog Try.f37 a37.ps = some a37 := by kernel_rfl
theorem a21_ok : trFun Try.prog Try.f21 a21.ps = some a21 := by kernel_rfl
theorem a20_ok : trFun Try.prog Try.f20 a20.ps = some a20 := by kernel_rfl
theorem a38_ok : trFun Try.prog Try.f38 a38.ps = some a38 := by kernel_rfl
theorem a42_ok : trFun Try.prog Try.f42 a42.ps = some a42 := by kernel_rfl
theorem a44_ok : trFun Try.prog Try.f44 a44.ps = some a44 := by kernel_rfl
theorem a23_ok : trFun Try.prog Try.f23 a23.ps = some a23 := by kernel_rfl
theorem a39_ok : trFun Try.prog Try.f39 a39.ps = some a39 := by kernel_rfl
theorem a40_ok : trFun Try.prog Try.f40 a40.ps = some a40 := by kernel_rfl
theorem a41_ok : trFun Try.prog Try.f41 a41.ps = some a41 := by kernel_rfl
theorem a22_ok : trFun Try.prog Try.f22 a22.ps = some a22 := by kernel_rfl
theorem a10_ok : trFun Try.prog Try.f10 a10.ps = some a10 := by kernel_rfl
theorem a24_ok : trFun Try.prog Try.f24 a24.ps = some a24 := by kernel_rfl
theorem a11_ok : trFun Try.prog Try.f11 a11.ps = some a11 := by kernel_rfl
theorem a50_ok : trFun Try.prog Try.f50 a50.ps = some a50 := by kernel_rfl
theorem a59_ok : trFun Try.prog Try.f59 a59.ps = some a59 := by kernel_rfl
theorem a77_ok : trFun Try.prog Try.f77 a77.ps = some a77 := by kernel_rfl
theorem a47_ok : trFun Try.prog Try.f47 a47.ps = some a47 := by kernel_rfl
theorem a27_ok : trFun Try.prog Try.f27 a27.ps = some a27 := by kernel_rfl
theorem a14_ok : trFun Try.prog Try.f14 a14.ps = some a14 := by kernel_rfl
theorem a51_ok : trFun Try.prog Try.f51 a51.ps = some a51 := by kernel_rfl
theorem a99_ok : trFun Try.prog Try.f99 a99.ps = some a99 := by kernel_rfl
theorem a101_ok : trFun Try.prog Try.f101 a101.ps = some a101 := by kernel_rfl
theorem a103_ok : trFun Try.prog Try.f103 a103.ps = some a103 := by kernel_rfl
theorem a104_ok : trFun Try.prog Try.f104 a104.ps = some a104 := by kernel_rfl
theorem a110_ok : trFun Try.prog Try.f110 a110.ps = some a110 := by kernel_rfl
theorem a105_ok : trFun Try.prog Try.f105 a105.ps = some a105 := by kernel_rfl
theorem a107_ok : trFun Try.prog Try.f107 a107.ps = some a107 := by kernel_rfl
theorem a108_ok : trFun Try.prog Try.f108 a108.ps = some a108 := by kernel_rfl
theorem a109_ok : trFun Try.prog Try.f109 a109.ps = some a109 := by kernel_rfl
theorem a100_ok : trFun Try.prog Try.f100 a100.ps = some a100 := by kernel_rfl
theorem a76_ok : trFun Try.prog Try.f76 a76.ps = some a76 := by kernel_rfl
theorem a57_ok : trFun Try.prog Try.f57 a57.ps = some a57 := by kernel_rfl
theorem a102_ok : trFun Try.prog Try.f102 a102.ps = some a102 := by kernel_rfl
theorem a93_ok : trFun Try.prog Try.f93 a93.ps = some a93 := by kernel_rfl
theorem a106_ok : trFun Try.prog Try.f106 a106.ps = some a106 := by kernel_rfl
theorem a94_ok : trFun Try.prog Try.f94 a94.ps = some a94 := by kernel_rfl
theorem a78_ok : trFun Try.prog Try.f78 a78.ps = some a78 := by kernel_rfl
theorem a58_ok : trFun Try.prog Try.f58 a58.ps = some a58 := by kernel_rfl
theorem a49_ok : trFun Try.prog Try.f49 a49.ps = some a49 := by kernel_rfl
theorem a33_ok : trFun Try.prog Try.f33 a33.ps = some a33 := by kernel_rfl
theorem a45_ok : trFun Try.prog Try.f45 a45.ps = some a45 := by kernel_rfl
theorem a46_ok : trFun Try.prog Try.f46 a46.ps = some a46 := by kernel_rfl
theorem a26_ok : trFun Try.prog Try.f26 a26.ps = some a26 := by kernel_rfl
theorem a13_ok : trFun Try.prog Try.f13 a13.ps = some a13 := by kernel_rfl
theorem a61_ok : trFun Try.prog Try.f61 a61.ps = some a61 := by kernel_rfl
theorem a79_ok : trFun Try.prog Try.f79 a79.ps = some a79 := by kernel_rfl
theorem a80_ok : trFun Try.prog Try.f80 a80.ps = some a80 := by kernel_rfl
theorem a81_ok : trFun Try.prog Try.f81 a81.ps = some a81 := by kernel_rfl
theorem a60_ok : trFun Try.prog Try.f60 a60.ps = some a60 := by kernel_rfl
theorem a52_ok : trFun Try.prog Try.f52 a52.ps = some a52 := by kernel_rfl
theorem a34_ok : trFun Try.prog Try.f34 a34.ps = some a34 := by kernel_rfl
theorem a17_ok : trFun Try.prog Try.f17 a17.ps = some a17 := by kernel_rfl
theorem a18_ok : trFun Try.prog Try.f18 a18.ps = some a18 := by kernel_rfl
theorem a8_ok : trFun Try.prog Try.f8 a8.ps = some a8 := by kernel_rfl
theorem a9_ok : trFun Try.prog Try.f9 a9.ps = some a9 := by kernel_rfl
theorem a3_ok : trFun Try.prog Try.f3 a3.ps = some a3 := by kernel_rfl
theorem a25_ok : trFun Try.prog Try.f25 a25.ps = some a25 := by kernel_rfl
theorem a12_ok : trFun Try.prog Try.f12 a12.ps = some a12 := by kernel_rfl
theorem a4_ok : trFun Try.prog Try.f4 a4.ps = some a4 := by kernel_rfl
theorem a5_ok : trFun Try.prog Try.f5 a5.ps = some a5 := by kernel_rfl
theorem a6_ok : trFun Try.prog Try.f6 a6.ps = some a6 := by kernel_rfl
theorem a28_ok : trFun Try.prog Try.f28 a28.ps = some a28 := by kernel_rfl
theorem a48_ok : trFun Try.prog Try.f48 a48.ps = some a48 := by kernel_rfl
theorem a29_ok : trFun Try.prog Try.f29 a29.ps = some a29 := by kernel_rfl
theorem a31_ok : trFun Try.prog Try.f31 a31.ps = some a31 := by kernel_rfl
theorem a30_ok : trFun Try.prog Try.f30 a30.ps = some a30 := by kernel_rfl
theorem a15_ok : trFun Try.prog Try.f15 a15.ps = some a15 := by kernel_rfl
theorem a32_ok : trFun Try.prog Try.f32 a32.ps = some a32 := by kernel_rfl
theorem a16_ok : trFun Try.prog Try.f16 a16.ps = some a16 := by kernel_rfl
theorem a7_ok : trFun Try.prog Try.f7 a7.ps = some a7 := by kernel_rfl

def prog : Nat → Option AFun
  | 3 => some a3
  | 4 => some a4
  | 5 => some a5
  | 6 => some a6
  | 7 => some a7
  | 8 => some a8
  | 9 => some a9
  | 10 => some a10
  | 11 => some a11
  | 12 => some a12
  | 13 => some a13
  | 14 => some a14
  | 15 => some a15
  | 16 => some a16
  | 17 => some a17
  | 18 => some a18
  | 19 => some a19
  | 20 => some a20
  | 21 => some a21
  | 22 => some a22
  | 23 => some a23
  | 24 => some a24
  | 25 => some a25
  | 26 => some a26
  | 27 => some a27
  | 28 => some a28
  | 29 => some a29
  | 30 => some a30
  | 31 => some a31
  | 32 => some a32
  | 33 => some a33
  | 34 => some a34
  | 35 => some a35
  | 36 => some a36
  | 37 => some a37
  | 38 => some a38
  | 39 => some a39
  | 40 => some a40
  | 41 => some a41
  | 42 => some a42
  | 44 => some a44
  | 45 => some a45
  | 46 => some a46
  | 47 => some a47
  | 48 => some a48
  | 49 => some a49
  | 50 => some a50
  | 51 => some a51
  | 52 => some a52
  | 53 => some a53
  | 57 => some a57
  | 58 => some a58
  | 59 => some a59
  | 60 => some a60
  | 61 => some a61
  | 62 => some a62
  | 63 => some a63
  | 64 => some a64
  | 76 => some a76
  | 77 => some a77
  | 78 => some a78
  | 79 => some a79
  | 80 => some a80
  | 81 => some a81
  | 82 => some a82
  | 83 => some a83
  | 84 => some a84
  | 85 => some a85
  | 86 => some a86
  | 93 => some a93
  | 94 => some a94
  | 95 => some a95
  | 96 => some a96
  | 97 => some a97
  | 99 => some a99
  | 100 => some a100
  | 101 => some a101
  | 102 => some a102
  | 103 => some a103
  | 104 => some a104
  | 105 => some a105
  | 106 => some a106
  | 107 => some a107
  | 108 => some a108
  | 109 => some a109
  | 110 => some a110
  | _ => none

theorem prog_ok : ProgOk Try.prog prog := by
  intro f af h
  unfold prog at h
  split at h <;> simp only [Option.some.injEq, reduceCtorEq] at h <;> subst h
  · exact ⟨Try.f3, Try.func3, a3_ok⟩
  · exact ⟨Try.f4, Try.func4, a4_ok⟩
  · exact ⟨Try.f5, Try.func5, a5_ok⟩
  · exact ⟨Try.f6, Try.func6, a6_ok⟩
  · exact ⟨Try.f7, Try.func7, a7_ok⟩
  · exact ⟨Try.f8, Try.func8, a8_ok⟩
  · exact ⟨Try.f9, Try.func9, a9_ok⟩
  · exact ⟨Try.f10, Try.func10, a10_ok⟩
  · exact ⟨Try.f11, Try.func11, a11_ok⟩
  · exact ⟨Try.f12, Try.func12, a12_ok⟩
  · exact ⟨Try.f13, Try.func13, a13_ok⟩
  · exact ⟨Try.f14, Try.func14, a14_ok⟩
  · exact ⟨Try.f15, Try.func15, a15_ok⟩
  · exact ⟨Try.f16, Try.func16, a16_ok⟩
  · exact ⟨Try.f17, Try.func17, a17_ok⟩
  · exact ⟨Try.f18, Try.func18, a18_ok⟩
  · exact ⟨Try.f19, Try.func19, a19_ok⟩
  · exact ⟨Try.f20, Try.func20, a20_ok⟩
  · exact ⟨Try.f21, Try.func21, a21_ok⟩
  · exact ⟨Try.f22, Try.func22, a22_ok⟩
  · exact ⟨Try.f23, Try.func23, a23_ok⟩
  · exact ⟨Try.f24, Try.func24, a24_ok⟩
  · exact ⟨Try.f25, Try.func25, a25_ok⟩
  · exact ⟨Try.f26, Try.func26, a26_ok⟩
  · exact ⟨Try.f27, Try.func27, a27_ok⟩
  · exact ⟨Try.f28, Try.func28, a28_ok⟩
  · exact ⟨Try.f29, Try.func29, a29_ok⟩
  · exact ⟨Try.f30, Try.func30, a30_ok⟩
  · exact ⟨Try.f31, Try.func31, a31_ok⟩
  · exact ⟨Try.f32, Try.func32, a32_ok⟩
  · exact ⟨Try.f33, Try.func33, a33_ok⟩
  · exact ⟨Try.f34, Try.func34, a34_ok⟩
  · exact ⟨Try.f35, Try.func35, a35_ok⟩
  · exact ⟨Try.f36, Try.func36, a36_ok⟩
  · exact ⟨Try.f37, Try.func37, a37_ok⟩
  · exact ⟨Try.f38, Try.func38, a38_ok⟩
  · exact ⟨Try.f39, Try.func39, a39_ok⟩
  · exact ⟨Try.f40, Try.func40, a40_ok⟩
  · exact ⟨Try.f41, Try.func41, a41_ok⟩
  · exact ⟨Try.f42, Try.func42, a42_ok⟩
  · exact ⟨Try.f44, Try.func44, a44_ok⟩
  · exact ⟨Try.f45, Try.func45, a45_ok⟩
  · exact ⟨Try.f46, Try.func46, a46_ok⟩
  · exact ⟨Try.f47, Try.func47, a47_ok⟩
  · exact ⟨Try.f48, Try.func48, a48_ok⟩
  · exact ⟨Try.f49, Try.func49, a49_ok⟩
  · exact ⟨Try.f50, Try.func50, a50_ok⟩
  · exact ⟨Try.f51, Try.func51, a51_ok⟩
  · exact ⟨Try.f52, Try.func52, a52_ok⟩
  · exact ⟨Try.f53, Try.func53, a53_ok⟩
  · exact ⟨Try.f57, Try.func57, a57_ok⟩
  · exact ⟨Try.f58, Try.func58, a58_ok⟩
  · exact ⟨Try.f59, Try.func59, a59_ok⟩
  · exact ⟨Try.f60, Try.func60, a60_ok⟩
  · exact ⟨Try.f61, Try.func61, a61_ok⟩
  · exact ⟨Try.f62, Try.func62, a62_ok⟩
  · exact ⟨Try.f63, Try.func63, a63_ok⟩
  · exact ⟨Try.f64, Try.func64, a64_ok⟩
  · exact ⟨Try.f76, Try.func76, a76_ok⟩
  · exact ⟨Try.f77, Try.func77, a77_ok⟩
  · exact ⟨Try.f78, Try.func78, a78_ok⟩
  · exact ⟨Try.f79, Try.func79, a79_ok⟩
  · exact ⟨Try.f80, Try.func80, a80_ok⟩
  · exact ⟨Try.f81, Try.func81, a81_ok⟩
  · exact ⟨Try.f82, Try.func82, a82_ok⟩
  · exact ⟨Try.f83, Try.func83, a83_ok⟩
  · exact ⟨Try.f84, Try.func84, a84_ok⟩
  · exact ⟨Try.f85, Try.func85, a85_ok⟩
  · exact ⟨Try.f86, Try.func86, a86_ok⟩
  · exact ⟨Try.f93, Try.func93, a93_ok⟩
  · exact ⟨Try.f94, Try.func94, a94_ok⟩
  · exact ⟨Try.f95, Try.func95, a95_ok⟩
  · exact ⟨Try.f96, Try.func96, a96_ok⟩
  · exact ⟨Try.f97, Try.func97, a97_ok⟩
  · exact ⟨Try.f99, Try.func99, a99_ok⟩
  · exact ⟨Try.f100, Try.func100, a100_ok⟩
  · exact ⟨Try.f101, Try.func101, a101_ok⟩
  · exact ⟨Try.f102, Try.func102, a102_ok⟩
  · exact ⟨Try.f103, Try.func103, a103_ok⟩
  · exact ⟨Try.f104, Try.func104, a104_ok⟩
  · exact ⟨Try.f105, Try.func105, a105_ok⟩
  · exact ⟨Try.f106, Try.func106, a106_ok⟩
  · exact ⟨Try.f107, Try.func107, a107_ok⟩
  · exact ⟨Try.f108, Try.func108, a108_ok⟩
  · exact ⟨Try.f109, Try.func109, a109_ok⟩
  · exact ⟨Try.f110, Try.func110, a110_ok⟩

end Go.Proofs.Ythpccdggbechmaa

set_option maxRecDepth 100000
namespace Go.Proofs
open Go.Shelf
shelf_lay Lays.n189 Nm 189 at Try as Try.lays189
shelf_lay_g Lays8.n4 Nm8 4 at Try 54 as Try.growI
end Go.Proofs

/- The oracles of this program, and shown(). -/
set_option maxRecDepth 100000
namespace Go.Proofs.Ythpccdggbechmaa
open Go.Am

def orc : Nat → Option (List AV → AHeap → Option (AV × AHeap))
  | 43 => some orcSort
  | 54 => some (orcGrow 1 8)
  | _ => none

theorem orc_ok : OrcOk Try.prog orc := by
  intro f g h
  unfold orc at h
  split at h <;> simp only [Option.some.injEq, reduceCtorEq] at h <;> subst h
  · exact sort_sound Try.lays189 ⟨Try.f43, Try.func43, rfl, by decide⟩
  · exact grow_sound (z0 := [.int .i64 0]) Try.growI ⟨Try.f54, Try.func54, rfl, by decide⟩ (by kernel_rfl) (by kernel_rfl) (by kernel_rfl)

theorem shown_run : (aCall prog orc 300 8 [] []).map (fun p => AV.same p.1 (.bool true)) = some true := by decide +kernel

theorem same_true : ∀ {o : Option (AV × AHeap)}, o.map (fun p => AV.same p.1 (.bool true)) = some true → ∃ H, o = some (.bool true, H)
  | none, h => by simp at h
  | some (v, H), h => ⟨H, by
      simp only [Option.map_some, Option.some.injEq] at h
      rw [AV.same_eq _ _ h]⟩

/-- The oracles, shown() among them. -/
def orc1 : Nat → Option (List AV → AHeap → Option (AV × AHeap))
  | 8 => some (orcClosed true)
  | 43 => some orcSort
  | 54 => some (orcGrow 1 8)
  | _ => none

theorem orc1_ok : OrcOk Try.prog orc1 := by
  intro f g h
  unfold orc1 at h
  split at h <;> simp only [Option.some.injEq, reduceCtorEq] at h <;> subst h
  · obtain ⟨H, hH⟩ := same_true shown_run
    exact closed_sound (call_sound prog_ok orc_ok 300) hH
  · exact orc_ok 43 _ rfl
  · exact orc_ok 54 _ rfl

abbrev P0 : Prg := ⟨prog, orc1⟩

theorem sound : ∀ n, CallSound Try.prog (aCall prog orc1 n) := call_sound prog_ok orc1_ok
end Go.Proofs.Ythpccdggbechmaa
