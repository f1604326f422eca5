/-
  HELPING TEXT, shared by the claims on the book. Own work (AI agent).
-/
import Derived.Test.YtgnhmklpekgndaaGreatDoorStuD
import Derived.Test.YtgnhmklpekgndaaGreatDoorChecked
set_option linter.all false
/- part GLib -/
section
namespace Go.Proofs
open Go.Av
/-- slices.Equal[[]assessor/api.GradeVersion,assessor/api.GradeVersion] -/
def sc15 : SCode := .seq (.reg [⟨.mov 4 (.c (.bool false)), none, []⟩] false)
 (.seq (.seq (.reg [⟨.mov 6 (.t 0), none, []⟩,
 ⟨.len 7 false (.t 6), none, []⟩,
 ⟨.mov 8 (.t 1), none, []⟩,
 ⟨.len 9 false (.t 8), none, []⟩,
 ⟨.bin 10 .neq (.t 7) (.t 9), none, []⟩] false)
 (.cond (.t 10) (.seq (.reg [⟨.mov 4 (.c (.bool false)), none, []⟩] false)
 (.ret)) (.skip)))
 (.seq (.seq (.reg [⟨.mov 11 (.t 0), none, []⟩,
 ⟨.len 12 false (.t 11), none, []⟩,
 ⟨.mov 13 (.c (.int .i64 0)), none, []⟩] false)
 (.block 0 (.loop (.seq (.reg [⟨.bin 14 .lss (.t 13) (.t 12), none, []⟩] false)
 (.seq (.cond (.t 14) (.skip) (.exit 0))
 (.seq (.block 1 (.seq (.reg [⟨.mov 15 (.t 13), none, []⟩,
 ⟨.mov 5 (.t 15), none, []⟩] false)
 (.seq (.reg [⟨.mov 16 (.t 0), none, []⟩,
 ⟨.mov 17 (.t 5), none, []⟩,
 ⟨.idx 18 (.t 16) (.t 17) 4, none, [0, 1]⟩,
 ⟨.load 19 (.t 18) 4 true, none, [2]⟩,
 ⟨.mov 20 (.t 1), none, []⟩,
 ⟨.mov 21 (.t 5), none, []⟩,
 ⟨.idx 22 (.t 20) (.t 21) 4, none, [4, 5]⟩,
 ⟨.load 23 (.t 22) 4 true, none, [6]⟩,
 ⟨.eqa 24 true [.i, .i, .i, .s] (.t 19) (.t 23), none, [3, 7]⟩] true)
 (.cond (.t 24) (.seq (.reg [⟨.mov 4 (.c (.bool false)), none, []⟩] false)
 (.ret)) (.skip)))))
 (.reg [⟨.bin 25 .add (.t 13) (.c (.int .i64 1)), none, []⟩,
 ⟨.mov 13 (.t 25), none, []⟩] false)))))))
 (.seq (.reg [⟨.mov 4 (.c (.bool true)), none, []⟩] false)
 (.ret))))
theorem ok15 : FnOK Tryz.prog 15 26 [.t 4] sc15 :=
 ⟨Tryz.call15, Tryz.f15, (Tryz.f15).body.getD .skip, Tryz.func15, by kernel_rfl, by kernel_rfl, by kernel_rfl, by kernel_rfl, by kernel_rfl⟩
/-- slices.IndexFunc[[]assessor/api.BookEntry,assessor/api.BookEntry] -/
def sc51 : SCode := .seq (.reg [⟨.mov 4 (.c (.int .i64 0)), none, []⟩] false)
 (.seq (.seq (.reg [⟨.mov 6 (.t 0), none, []⟩,
 ⟨.len 7 false (.t 6), none, []⟩,
 ⟨.mov 8 (.c (.int .i64 0)), none, []⟩] false)
 (.block 0 (.loop (.seq (.reg [⟨.bin 9 .lss (.t 8) (.t 7), none, []⟩] false)
 (.seq (.cond (.t 9) (.skip) (.exit 0))
 (.seq (.block 1 (.seq (.reg [⟨.mov 10 (.t 8), none, []⟩,
 ⟨.mov 5 (.t 10), none, []⟩] false)
 (.seq (.reg [⟨.mov 11 (.t 1), none, []⟩,
 ⟨.mov 12 (.t 0), none, []⟩,
 ⟨.mov 13 (.t 5), none, []⟩,
 ⟨.idx 14 (.t 12) (.t 13) 7, none, []⟩,
 ⟨.load 15 (.t 14) 7 true, none, []⟩,
 ⟨.callT (some 16) (.t 11) [(.t 15)], none, []⟩] false)
 (.cond (.t 16) (.seq (.reg [⟨.mov 17 (.t 5), none, []⟩,
 ⟨.mov 4 (.t 17), none, []⟩] false)
 (.ret)) (.skip)))))
 (.reg [⟨.bin 18 .add (.t 8) (.c (.int .i64 1)), none, []⟩,
 ⟨.mov 8 (.t 18), none, []⟩] false)))))))
 (.seq (.reg [⟨.mov 4 (.c (.int .i64 (-1))), none, []⟩] false)
 (.ret)))
theorem ok51 : FnOK Tryz.prog 51 19 [.t 4] sc51 :=
 ⟨Tryz.call51, Tryz.f51, (Tryz.f51).body.getD .skip, Tryz.func51, by kernel_rfl, by kernel_rfl, by kernel_rfl, by kernel_rfl, by kernel_rfl⟩
/-- slices.Equal[[]assessor/api.BookEvent,assessor/api.BookEvent] -/
def sc62 : SCode := .seq (.reg [⟨.mov 4 (.c (.bool false)), none, []⟩] false)
 (.seq (.seq (.reg [⟨.mov 6 (.t 0), none, []⟩,
 ⟨.len 7 false (.t 6), none, []⟩,
 ⟨.mov 8 (.t 1), none, []⟩,
 ⟨.len 9 false (.t 8), none, []⟩,
 ⟨.bin 10 .neq (.t 7) (.t 9), none, []⟩] false)
 (.cond (.t 10) (.seq (.reg [⟨.mov 4 (.c (.bool false)), none, []⟩] false)
 (.ret)) (.skip)))
 (.seq (.seq (.reg [⟨.mov 11 (.t 0), none, []⟩,
 ⟨.len 12 false (.t 11), none, []⟩,
 ⟨.mov 13 (.c (.int .i64 0)), none, []⟩] false)
 (.block 0 (.loop (.seq (.reg [⟨.bin 14 .lss (.t 13) (.t 12), none, []⟩] false)
 (.seq (.cond (.t 14) (.skip) (.exit 0))
 (.seq (.block 1 (.seq (.reg [⟨.mov 15 (.t 13), none, []⟩,
 ⟨.mov 5 (.t 15), none, []⟩] false)
 (.seq (.reg [⟨.mov 16 (.t 0), none, []⟩,
 ⟨.mov 17 (.t 5), none, []⟩,
 ⟨.idx 18 (.t 16) (.t 17) 9, none, [0, 1]⟩,
 ⟨.load 19 (.t 18) 9 true, none, [2]⟩,
 ⟨.mov 20 (.t 1), none, []⟩,
 ⟨.mov 21 (.t 5), none, []⟩,
 ⟨.idx 22 (.t 20) (.t 21) 9, none, [4, 5]⟩,
 ⟨.load 23 (.t 22) 9 true, none, [6]⟩,
 ⟨.eqa 24 true [.i, .s, .s, .i, .i, .i, .i, .s, .b] (.t 19) (.t 23), none, [3, 7]⟩] true)
 (.cond (.t 24) (.seq (.reg [⟨.mov 4 (.c (.bool false)), none, []⟩] false)
 (.ret)) (.skip)))))
 (.reg [⟨.bin 25 .add (.t 13) (.c (.int .i64 1)), none, []⟩,
 ⟨.mov 13 (.t 25), none, []⟩] false)))))))
 (.seq (.reg [⟨.mov 4 (.c (.bool true)), none, []⟩] false)
 (.ret))))
theorem ok62 : FnOK Tryz.prog 62 26 [.t 4] sc62 :=
 ⟨Tryz.call62, Tryz.f62, (Tryz.f62).body.getD .skip, Tryz.func62, by kernel_rfl, by kernel_rfl, by kernel_rfl, by kernel_rfl, by kernel_rfl⟩
/-- slices.EqualFunc[[]assessor/api.BookEntry,[]assessor/api.BookEntry,assessor/api.BookEntry,assessor/api.BookEntry] -/
def sc64 : SCode := .seq (.reg [⟨.mov 6 (.c (.bool false)), none, []⟩] false)
 (.seq (.seq (.reg [⟨.mov 10 (.t 0), none, []⟩,
 ⟨.len 11 false (.t 10), none, []⟩,
 ⟨.mov 12 (.t 1), none, []⟩,
 ⟨.len 13 false (.t 12), none, []⟩,
 ⟨.bin 14 .neq (.t 11) (.t 13), none, []⟩] false)
 (.cond (.t 14) (.seq (.reg [⟨.mov 6 (.c (.bool false)), none, []⟩] false)
 (.ret)) (.skip)))
 (.seq (.seq (.reg [⟨.mov 15 (.t 0), none, []⟩,
 ⟨.len 16 false (.t 15), none, []⟩,
 ⟨.mov 17 (.c (.int .i64 0)), none, []⟩] false)
 (.block 0 (.loop (.seq (.reg [⟨.bin 18 .lss (.t 17) (.t 16), none, []⟩] false)
 (.seq (.cond (.t 18) (.skip) (.exit 0))
 (.seq (.block 1 (.seq (.reg [⟨.mov 19 (.t 17), none, []⟩,
 ⟨.idx 20 (.t 15) (.t 17) 7, none, []⟩,
 ⟨.load 21 (.t 20) 7 true, none, []⟩,
 ⟨.alloc 8 39 [.str [], .str [], .int .i64 0, .int .i64 0, .str [], .nils, .nils], none, []⟩,
 ⟨.mov 7 (.t 19), none, []⟩,
 ⟨.store (.t 8) (.t 21) 7, none, []⟩] false)
 (.seq (.reg [⟨.mov 22 (.t 1), none, []⟩,
 ⟨.mov 23 (.t 7), none, []⟩,
 ⟨.idx 24 (.t 22) (.t 23) 7, none, []⟩,
 ⟨.load 25 (.t 24) 7 true, none, []⟩,
 ⟨.alloc 9 39 [.str [], .str [], .int .i64 0, .int .i64 0, .str [], .nils, .nils], none, []⟩,
 ⟨.store (.t 9) (.t 25) 7, none, []⟩] false)
 (.seq (.reg [⟨.mov 26 (.t 2), none, []⟩,
 ⟨.load 27 (.t 8) 7 true, none, []⟩,
 ⟨.load 28 (.t 9) 7 true, none, []⟩,
 ⟨.callT (some 29) (.t 26) [(.t 27), (.t 28)], none, []⟩,
 ⟨.not 30 (.t 29), none, []⟩] false)
 (.cond (.t 30) (.seq (.reg [⟨.mov 6 (.c (.bool false)), none, []⟩] false)
 (.ret)) (.skip))))))
 (.reg [⟨.bin 31 .add (.t 17) (.c (.int .i64 1)), none, []⟩,
 ⟨.mov 17 (.t 31), none, []⟩] false)))))))
 (.seq (.reg [⟨.mov 6 (.c (.bool true)), none, []⟩] false)
 (.ret))))
theorem ok64 : FnOK Tryz.prog 64 32 [.t 6] sc64 :=
 ⟨Tryz.call64, Tryz.f64, (Tryz.f64).body.getD .skip, Tryz.func64, by kernel_rfl, by kernel_rfl, by kernel_rfl, by kernel_rfl, by kernel_rfl⟩
/-- slices.Equal[[]assessor/api.Appeal,assessor/api.Appeal] -/
def sc66 : SCode := .seq (.reg [⟨.mov 4 (.c (.bool false)), none, []⟩] false)
 (.seq (.seq (.reg [⟨.mov 6 (.t 0), none, []⟩,
 ⟨.len 7 false (.t 6), none, []⟩,
 ⟨.mov 8 (.t 1), none, []⟩,
 ⟨.len 9 false (.t 8), none, []⟩,
 ⟨.bin 10 .neq (.t 7) (.t 9), none, []⟩] false)
 (.cond (.t 10) (.seq (.reg [⟨.mov 4 (.c (.bool false)), none, []⟩] false)
 (.ret)) (.skip)))
 (.seq (.seq (.reg [⟨.mov 11 (.t 0), none, []⟩,
 ⟨.len 12 false (.t 11), none, []⟩,
 ⟨.mov 13 (.c (.int .i64 0)), none, []⟩] false)
 (.block 0 (.loop (.seq (.reg [⟨.bin 14 .lss (.t 13) (.t 12), none, []⟩] false)
 (.seq (.cond (.t 14) (.skip) (.exit 0))
 (.seq (.block 1 (.seq (.reg [⟨.mov 15 (.t 13), none, []⟩,
 ⟨.mov 5 (.t 15), none, []⟩] false)
 (.seq (.reg [⟨.mov 16 (.t 0), none, []⟩,
 ⟨.mov 17 (.t 5), none, []⟩,
 ⟨.idx 18 (.t 16) (.t 17) 6, none, [0, 1]⟩,
 ⟨.load 19 (.t 18) 6 true, none, [2]⟩,
 ⟨.mov 20 (.t 1), none, []⟩,
 ⟨.mov 21 (.t 5), none, []⟩,
 ⟨.idx 22 (.t 20) (.t 21) 6, none, [4, 5]⟩,
 ⟨.load 23 (.t 22) 6 true, none, [6]⟩,
 ⟨.eqa 24 true [.i, .s, .b, .b, .i, .s] (.t 19) (.t 23), none, [3, 7]⟩] true)
 (.cond (.t 24) (.seq (.reg [⟨.mov 4 (.c (.bool false)), none, []⟩] false)
 (.ret)) (.skip)))))
 (.reg [⟨.bin 25 .add (.t 13) (.c (.int .i64 1)), none, []⟩,
 ⟨.mov 13 (.t 25), none, []⟩] false)))))))
 (.seq (.reg [⟨.mov 4 (.c (.bool true)), none, []⟩] false)
 (.ret))))
theorem ok66 : FnOK Tryz.prog 66 26 [.t 4] sc66 :=
 ⟨Tryz.call66, Tryz.f66, (Tryz.f66).body.getD .skip, Tryz.func66, by kernel_rfl, by kernel_rfl, by kernel_rfl, by kernel_rfl, by kernel_rfl⟩
/-- slices.Clone[[]assessor/api.GradeVersion,assessor/api.GradeVersion] -/
def sc74 : SCode := .seq (.reg [⟨.mov 2 (.c (.nils)), none, []⟩] false)
 (.seq (.seq (.reg [⟨.mov 3 (.t 0), none, []⟩,
 ⟨.eqn 4 false .s (.t 3) (.c (.nils)), none, []⟩] false)
 (.cond (.t 4) (.seq (.reg [⟨.mov 2 (.c (.nils)), none, []⟩] false)
 (.ret)) (.skip)))
 (.seq (.reg [⟨.bsl 5 42 4 0 [], none, []⟩,
 ⟨.mov 6 (.t 0), none, []⟩,
 ⟨.app 7 42 4 40 (.t 5) (.t 6), none, []⟩,
 ⟨.mov 2 (.t 7), none, []⟩] false)
 (.ret)))
theorem ok74 : FnOK Tryz.prog 74 8 [.t 2] sc74 :=
 ⟨Tryz.call74, Tryz.f74, (Tryz.f74).body.getD .skip, Tryz.func74, by kernel_rfl, by kernel_rfl, by kernel_rfl, by kernel_rfl, by kernel_rfl⟩
/-- slices.Clone[[]assessor/api.Appeal,assessor/api.Appeal] -/
def sc75 : SCode := .seq (.reg [⟨.mov 2 (.c (.nils)), none, []⟩] false)
 (.seq (.seq (.reg [⟨.mov 3 (.t 0), none, []⟩,
 ⟨.eqn 4 false .s (.t 3) (.c (.nils)), none, []⟩] false)
 (.cond (.t 4) (.seq (.reg [⟨.mov 2 (.c (.nils)), none, []⟩] false)
 (.ret)) (.skip)))
 (.seq (.reg [⟨.bsl 5 44 6 0 [], none, []⟩,
 ⟨.mov 6 (.t 0), none, []⟩,
 ⟨.app 7 44 6 56 (.t 5) (.t 6), none, []⟩,
 ⟨.mov 2 (.t 7), none, []⟩] false)
 (.ret)))
theorem ok75 : FnOK Tryz.prog 75 8 [.t 2] sc75 :=
 ⟨Tryz.call75, Tryz.f75, (Tryz.f75).body.getD .skip, Tryz.func75, by kernel_rfl, by kernel_rfl, by kernel_rfl, by kernel_rfl, by kernel_rfl⟩
/-- slices.Contains[[]assessor/api.BookEvent,assessor/api.BookEvent] -/
def sc83 : SCode := .seq (.reg [⟨.box 3 26 9 (.t 1), none, []⟩,
 ⟨.mov 4 (.c (.bool false)), none, []⟩] false)
 (.seq (.reg [⟨.mov 5 (.t 0), none, []⟩,
 ⟨.load 6 (.t 3) 9 true, none, []⟩,
 ⟨.callT (some 7) (.c (.fn 104 [])) [(.t 5), (.t 6)], none, []⟩,
 ⟨.bin 8 .geq (.t 7) (.c (.int .i64 0)), none, []⟩,
 ⟨.mov 4 (.t 8), none, []⟩] false)
 (.ret))
theorem ok83 : FnOK Tryz.prog 83 9 [.t 4] sc83 :=
 ⟨Tryz.call83, Tryz.f83, (Tryz.f83).body.getD .skip, Tryz.func83, by kernel_rfl, by kernel_rfl, by kernel_rfl, by kernel_rfl, by kernel_rfl⟩
/-- slices.SortStableFunc[[]assessor/api.BookEvent,assessor/api.BookEvent] -/
def sc84 : SCode := .reg [⟨.mov 4 (.t 0), none, []⟩,
 ⟨.mov 5 (.t 0), none, []⟩,
 ⟨.len 6 false (.t 5), none, []⟩,
 ⟨.mov 7 (.t 1), none, []⟩,
 ⟨.callT (some 8) (.c (.fn 105 [])) [(.t 4), (.t 6), (.t 7)], none, []⟩] false
theorem ok84 : FnOK Tryz.prog 84 9 [] sc84 :=
 ⟨Tryz.call84, Tryz.f84, (Tryz.f84).body.getD .skip, Tryz.func84, by kernel_rfl, by kernel_rfl, by kernel_rfl, by kernel_rfl, by kernel_rfl⟩
/-- cmp.Compare[int] -/
def sc86 : SCode := .seq (.reg [⟨.mov 4 (.c (.int .i64 0)), none, []⟩] false)
 (.seq (.reg [⟨.mov 7 (.t 0), none, []⟩,
 ⟨.callT (some 8) (.c (.fn 106 [])) [(.t 7)], none, []⟩,
 ⟨.mov 5 (.t 8), none, []⟩] false)
 (.seq (.reg [⟨.mov 9 (.t 1), none, []⟩,
 ⟨.callT (some 10) (.c (.fn 106 [])) [(.t 9)], none, []⟩,
 ⟨.mov 6 (.t 10), none, []⟩] false)
 (.seq (.seq (.reg [⟨.mov 11 (.t 5), none, []⟩] false)
 (.cond (.t 11) (.seq (.seq (.reg [⟨.mov 12 (.t 6), none, []⟩] false)
 (.cond (.t 12) (.seq (.reg [⟨.mov 4 (.c (.int .i64 0)), none, []⟩] false)
 (.ret)) (.skip)))
 (.seq (.reg [⟨.mov 4 (.c (.int .i64 (-1))), none, []⟩] false)
 (.ret))) (.skip)))
 (.seq (.seq (.reg [⟨.mov 13 (.t 6), none, []⟩] false)
 (.cond (.t 13) (.seq (.reg [⟨.mov 4 (.c (.int .i64 1)), none, []⟩] false)
 (.ret)) (.skip)))
 (.seq (.seq (.reg [⟨.mov 14 (.t 0), none, []⟩,
 ⟨.mov 15 (.t 1), none, []⟩,
 ⟨.bin 16 .lss (.t 14) (.t 15), none, []⟩] false)
 (.cond (.t 16) (.seq (.reg [⟨.mov 4 (.c (.int .i64 (-1))), none, []⟩] false)
 (.ret)) (.skip)))
 (.seq (.seq (.reg [⟨.mov 17 (.t 0), none, []⟩,
 ⟨.mov 18 (.t 1), none, []⟩,
 ⟨.bin 19 .gtr (.t 17) (.t 18), none, []⟩] false)
 (.cond (.t 19) (.seq (.reg [⟨.mov 4 (.c (.int .i64 1)), none, []⟩] false)
 (.ret)) (.skip)))
 (.seq (.reg [⟨.mov 4 (.c (.int .i64 0)), none, []⟩] false)
 (.ret))))))))
theorem ok86 : FnOK Tryz.prog 86 20 [.t 4] sc86 :=
 ⟨Tryz.call86, Tryz.f86, (Tryz.f86).body.getD .skip, Tryz.func86, by kernel_rfl, by kernel_rfl, by kernel_rfl, by kernel_rfl, by kernel_rfl⟩
/-- slices.Index[[]assessor/api.BookEvent,assessor/api.BookEvent] -/
def sc104 : SCode := .seq (.reg [⟨.box 3 26 9 (.t 1), none, []⟩,
 ⟨.mov 4 (.c (.int .i64 0)), none, []⟩] false)
 (.seq (.seq (.reg [⟨.mov 6 (.t 0), none, []⟩,
 ⟨.len 7 false (.t 6), none, []⟩,
 ⟨.mov 8 (.c (.int .i64 0)), none, []⟩] false)
 (.block 0 (.loop (.seq (.reg [⟨.bin 9 .lss (.t 8) (.t 7), none, []⟩] false)
 (.seq (.cond (.t 9) (.skip) (.exit 0))
 (.seq (.block 1 (.seq (.reg [⟨.mov 10 (.t 8), none, []⟩,
 ⟨.mov 5 (.t 10), none, []⟩] false)
 (.seq (.reg [⟨.load 11 (.t 3) 9 true, none, []⟩,
 ⟨.mov 12 (.t 0), none, []⟩,
 ⟨.mov 13 (.t 5), none, []⟩,
 ⟨.idx 14 (.t 12) (.t 13) 9, none, [1, 2]⟩,
 ⟨.load 15 (.t 14) 9 true, none, [3]⟩,
 ⟨.eqa 16 false [.i, .s, .s, .i, .i, .i, .i, .s, .b] (.t 11) (.t 15), none, [0, 4]⟩] true)
 (.cond (.t 16) (.seq (.reg [⟨.mov 17 (.t 5), none, []⟩,
 ⟨.mov 4 (.t 17), none, []⟩] false)
 (.ret)) (.skip)))))
 (.reg [⟨.bin 18 .add (.t 8) (.c (.int .i64 1)), none, []⟩,
 ⟨.mov 8 (.t 18), none, []⟩] false)))))))
 (.seq (.reg [⟨.mov 4 (.c (.int .i64 (-1))), none, []⟩] false)
 (.ret)))
theorem ok104 : FnOK Tryz.prog 104 19 [.t 4] sc104 :=
 ⟨Tryz.call104, Tryz.f104, (Tryz.f104).body.getD .skip, Tryz.func104, by kernel_rfl, by kernel_rfl, by kernel_rfl, by kernel_rfl, by kernel_rfl⟩
/-- slices.stableCmpFunc[assessor/api.BookEvent] -/
def sc105 : SCode := .seq (.reg [⟨.mov 6 (.c (.int .i64 20)), none, []⟩] false)
 (.seq (.reg [⟨.mov 10 (.t 6), none, []⟩,
 ⟨.mov 7 (.c (.int .i64 0)), none, []⟩,
 ⟨.mov 8 (.t 10), none, []⟩] false)
 (.seq (.block 0 (.loop (.seq (.seq (.reg [⟨.mov 11 (.t 8), none, []⟩,
 ⟨.mov 12 (.t 1), none, []⟩,
 ⟨.bin 13 .leq (.t 11) (.t 12), none, []⟩] false)
 (.cond (.t 13) (.skip) (.exit 0)))
 (.block 1 (.seq (.reg [⟨.mov 14 (.t 0), none, []⟩,
 ⟨.mov 15 (.t 7), none, []⟩,
 ⟨.mov 16 (.t 8), none, []⟩,
 ⟨.mov 17 (.t 2), none, []⟩,
 ⟨.callT (some 18) (.c (.fn 126 [])) [(.t 14), (.t 15), (.t 16), (.t 17)], none, []⟩] false)
 (.seq (.reg [⟨.mov 19 (.t 8), none, []⟩,
 ⟨.mov 7 (.t 19), none, []⟩] false)
 (.reg [⟨.mov 20 (.t 8), none, []⟩,
 ⟨.mov 21 (.t 6), none, []⟩,
 ⟨.bin 22 .add (.t 20) (.t 21), none, []⟩,
 ⟨.mov 8 (.t 22), none, []⟩] false)))))))
 (.seq (.reg [⟨.mov 23 (.t 0), none, []⟩,
 ⟨.mov 24 (.t 7), none, []⟩,
 ⟨.mov 25 (.t 1), none, []⟩,
 ⟨.mov 26 (.t 2), none, []⟩,
 ⟨.callT (some 27) (.c (.fn 126 [])) [(.t 23), (.t 24), (.t 25), (.t 26)], none, []⟩] false)
 (.block 2 (.loop (.seq (.seq (.reg [⟨.mov 28 (.t 6), none, []⟩,
 ⟨.mov 29 (.t 1), none, []⟩,
 ⟨.bin 30 .lss (.t 28) (.t 29), none, []⟩] false)
 (.cond (.t 30) (.skip) (.exit 2)))
 (.block 3 (.seq (.reg [⟨.mov 31 (.t 6), none, []⟩,
 ⟨.bin 32 .mul (.c (.int .i64 2)) (.t 31), none, []⟩,
 ⟨.mov 7 (.c (.int .i64 0)), none, []⟩,
 ⟨.mov 8 (.t 32), none, []⟩] false)
 (.seq (.block 4 (.loop (.seq (.seq (.reg [⟨.mov 33 (.t 8), none, []⟩,
 ⟨.mov 34 (.t 1), none, []⟩,
 ⟨.bin 35 .leq (.t 33) (.t 34), none, []⟩] false)
 (.cond (.t 35) (.skip) (.exit 4)))
 (.block 5 (.seq (.reg [⟨.mov 36 (.t 0), none, []⟩,
 ⟨.mov 37 (.t 7), none, []⟩,
 ⟨.mov 38 (.t 7), none, []⟩,
 ⟨.mov 39 (.t 6), none, []⟩,
 ⟨.bin 40 .add (.t 38) (.t 39), none, []⟩,
 ⟨.mov 41 (.t 8), none, []⟩,
 ⟨.mov 42 (.t 2), none, []⟩,
 ⟨.callT (some 43) (.c (.fn 127 [])) [(.t 36), (.t 37), (.t 40), (.t 41), (.t 42)], none, []⟩] false)
 (.seq (.reg [⟨.mov 44 (.t 8), none, []⟩,
 ⟨.mov 7 (.t 44), none, []⟩] false)
 (.reg [⟨.mov 45 (.t 8), none, []⟩,
 ⟨.mov 46 (.t 6), none, []⟩,
 ⟨.bin 47 .mul (.c (.int .i64 2)) (.t 46), none, []⟩,
 ⟨.bin 48 .add (.t 45) (.t 47), none, []⟩,
 ⟨.mov 8 (.t 48), none, []⟩] false)))))))
 (.seq (.seq (.reg [⟨.mov 49 (.t 7), none, []⟩,
 ⟨.mov 50 (.t 6), none, []⟩,
 ⟨.bin 51 .add (.t 49) (.t 50), none, []⟩,
 ⟨.mov 9 (.t 51), none, []⟩] false)
 (.seq (.reg [⟨.mov 52 (.t 9), none, []⟩,
 ⟨.mov 53 (.t 1), none, []⟩,
 ⟨.bin 54 .lss (.t 52) (.t 53), none, []⟩] false)
 (.cond (.t 54) (.reg [⟨.mov 55 (.t 0), none, []⟩,
 ⟨.mov 56 (.t 7), none, []⟩,
 ⟨.mov 57 (.t 9), none, []⟩,
 ⟨.mov 58 (.t 1), none, []⟩,
 ⟨.mov 59 (.t 2), none, []⟩,
 ⟨.callT (some 60) (.c (.fn 127 [])) [(.t 55), (.t 56), (.t 57), (.t 58), (.t 59)], none, []⟩] false) (.skip))))
 (.reg [⟨.mov 61 (.t 6), none, []⟩,
 ⟨.bin 62 .mul (.t 61) (.c (.int .i64 2)), none, []⟩,
 ⟨.mov 6 (.t 62), none, []⟩] false)))))))))))
theorem ok105 : FnOK Tryz.prog 105 63 [] sc105 :=
 ⟨Tryz.call105, Tryz.f105, (Tryz.f105).body.getD .skip, Tryz.func105, by kernel_rfl, by kernel_rfl, by kernel_rfl, by kernel_rfl, by kernel_rfl⟩
/-- cmp.isNaN[int] -/
def sc106 : SCode := .seq (.reg [⟨.mov 2 (.c (.bool false)), none, []⟩] false)
 (.seq (.reg [⟨.mov 3 (.t 0), none, []⟩,
 ⟨.mov 4 (.t 0), none, []⟩,
 ⟨.bin 5 .neq (.t 3) (.t 4), none, []⟩,
 ⟨.mov 2 (.t 5), none, []⟩] false)
 (.ret))
theorem ok106 : FnOK Tryz.prog 106 6 [.t 2] sc106 :=
 ⟨Tryz.call106, Tryz.f106, (Tryz.f106).body.getD .skip, Tryz.func106, by kernel_rfl, by kernel_rfl, by kernel_rfl, by kernel_rfl, by kernel_rfl⟩
/-- slices.insertionSortCmpFunc[assessor/api.BookEvent] -/
def sc126 : SCode := .seq (.reg [⟨.mov 10 (.t 1), none, []⟩,
 ⟨.bin 11 .add (.t 10) (.c (.int .i64 1)), none, []⟩,
 ⟨.mov 8 (.t 11), none, []⟩] false)
 (.block 0 (.loop (.seq (.seq (.reg [⟨.mov 12 (.t 8), none, []⟩,
 ⟨.mov 13 (.t 2), none, []⟩,
 ⟨.bin 14 .lss (.t 12) (.t 13), none, []⟩] false)
 (.cond (.t 14) (.skip) (.exit 0)))
 (.seq (.block 1 (.seq (.reg [⟨.mov 17 (.t 8), none, []⟩,
 ⟨.mov 9 (.t 17), none, []⟩] false)
 (.block 2 (.loop (.seq (.seq (.reg [⟨.mov 18 (.t 9), none, []⟩,
 ⟨.mov 19 (.t 1), none, []⟩,
 ⟨.bin 20 .gtr (.t 18) (.t 19), none, [0, 1]⟩,
 ⟨.mov 21 (.t 20), none, [2]⟩,
 ⟨.mov 22 (.t 3), some (21, true), [3]⟩,
 ⟨.mov 23 (.t 0), some (21, true), [3]⟩,
 ⟨.mov 24 (.t 9), some (21, true), [3]⟩,
 ⟨.idx 25 (.t 23) (.t 24) 9, some (21, true), [5, 6, 3]⟩,
 ⟨.load 26 (.t 25) 9 true, some (21, true), [7, 3]⟩,
 ⟨.mov 27 (.t 0), some (21, true), [3]⟩,
 ⟨.mov 28 (.t 9), some (21, true), [3]⟩,
 ⟨.bin 29 .sub (.t 28) (.c (.int .i64 1)), some (21, true), [10, 3]⟩,
 ⟨.idx 30 (.t 27) (.t 29) 9, some (21, true), [9, 11, 3]⟩,
 ⟨.load 31 (.t 30) 9 true, some (21, true), [12, 3]⟩,
 ⟨.callT (some 32) (.t 22) [(.t 26), (.t 31)], some (21, true), [4, 8, 13, 3, 3]⟩,
 ⟨.bin 33 .lss (.t 32) (.c (.int .i64 0)), some (21, true), [14, 3]⟩,
 ⟨.pick 34 (.t 21) (.t 33) (.c (.bool false)), none, [3, 15]⟩] true)
 (.cond (.t 34) (.skip) (.exit 2)))
 (.seq (.block 3 (.reg [⟨.mov 37 (.t 0), none, []⟩,
 ⟨.mov 38 (.t 9), none, []⟩,
 ⟨.mov 39 (.t 0), none, []⟩,
 ⟨.mov 40 (.t 9), none, []⟩,
 ⟨.bin 41 .sub (.t 40) (.c (.int .i64 1)), none, [3]⟩,
 ⟨.mov 42 (.t 0), none, []⟩,
 ⟨.mov 43 (.t 9), none, []⟩,
 ⟨.bin 44 .sub (.t 43) (.c (.int .i64 1)), none, [6]⟩,
 ⟨.idx 45 (.t 42) (.t 44) 9, none, [5, 7]⟩,
 ⟨.load 46 (.t 45) 9 true, none, [8]⟩,
 ⟨.mov 47 (.t 0), none, []⟩,
 ⟨.mov 48 (.t 9), none, []⟩,
 ⟨.idx 49 (.t 47) (.t 48) 9, none, [10, 11]⟩,
 ⟨.load 50 (.t 49) 9 true, none, [12]⟩,
 ⟨.idx 51 (.t 37) (.t 38) 9, none, [0, 1, 0, 1, 5, 6, 7, 8, 9, 13]⟩,
 ⟨.store (.t 51) (.t 46) 9, none, [14, 9, 0, 1, 5, 6, 7, 8, 9, 13]⟩,
 ⟨.idx 52 (.t 39) (.t 41) 9, none, [2, 4, 0, 1, 2, 3, 4, 5, 6, 7, 8, 9, 10, 11, 12, 13, 14, 15]⟩,
 ⟨.store (.t 52) (.t 50) 9, none, [16, 13, 15, 0, 1, 2, 3, 4, 5, 6, 7, 8, 9, 10, 11, 12, 13, 14, 15]⟩] true))
 (.reg [⟨.mov 35 (.t 9), none, []⟩,
 ⟨.bin 36 .sub (.t 35) (.c (.int .i64 1)), none, []⟩,
 ⟨.mov 9 (.t 36), none, []⟩] false)))))))
 (.reg [⟨.mov 15 (.t 8), none, []⟩,
 ⟨.bin 16 .add (.t 15) (.c (.int .i64 1)), none, []⟩,
 ⟨.mov 8 (.t 16), none, []⟩] false)))))
theorem ok126 : FnOK Tryz.prog 126 53 [] sc126 :=
 ⟨Tryz.call126, Tryz.f126, (Tryz.f126).body.getD .skip, Tryz.func126, by kernel_rfl, by kernel_rfl, by kernel_rfl, by kernel_rfl, by kernel_rfl⟩
/-- slices.symMergeCmpFunc[assessor/api.BookEvent] -/
def sc127 : SCode := .seq (.seq (.reg [⟨.mov 25 (.t 2), none, []⟩,
 ⟨.mov 26 (.t 1), none, []⟩,
 ⟨.bin 27 .sub (.t 25) (.t 26), none, []⟩,
 ⟨.bin 28 .eql (.t 27) (.c (.int .i64 1)), none, []⟩] false)
 (.cond (.t 28) (.seq (.reg [⟨.mov 29 (.t 2), none, []⟩,
 ⟨.mov 10 (.t 29), none, []⟩] false)
 (.seq (.reg [⟨.mov 30 (.t 3), none, []⟩,
 ⟨.mov 11 (.t 30), none, []⟩] false)
 (.seq (.block 0 (.loop (.seq (.seq (.reg [⟨.mov 31 (.t 10), none, []⟩,
 ⟨.mov 32 (.t 11), none, []⟩,
 ⟨.bin 33 .lss (.t 31) (.t 32), none, []⟩] false)
 (.cond (.t 33) (.skip) (.exit 0)))
 (.block 1 (.seq (.reg [⟨.mov 34 (.t 10), none, []⟩,
 ⟨.mov 35 (.t 11), none, []⟩,
 ⟨.bin 36 .add (.t 34) (.t 35), none, []⟩,
 ⟨.cvi 37 .u64 (.t 36), none, []⟩,
 ⟨.bin 38 .shr (.t 37) (.c (.int .u64 1)), none, []⟩,
 ⟨.cvi 39 .i64 (.t 38), none, []⟩,
 ⟨.mov 12 (.t 39), none, []⟩] false)
 (.seq (.reg [⟨.mov 40 (.t 4), none, []⟩,
 ⟨.mov 41 (.t 0), none, []⟩,
 ⟨.mov 42 (.t 12), none, []⟩,
 ⟨.idx 43 (.t 41) (.t 42) 9, none, [1, 2]⟩,
 ⟨.load 44 (.t 43) 9 true, none, [3]⟩,
 ⟨.mov 45 (.t 0), none, []⟩,
 ⟨.mov 46 (.t 1), none, []⟩,
 ⟨.idx 47 (.t 45) (.t 46) 9, none, [5, 6]⟩,
 ⟨.load 48 (.t 47) 9 true, none, [7]⟩,
 ⟨.callT (some 49) (.t 40) [(.t 44), (.t 48)], none, [0, 4, 8]⟩,
 ⟨.bin 50 .lss (.t 49) (.c (.int .i64 0)), none, [9]⟩] true)
 (.cond (.t 50) (.reg [⟨.mov 51 (.t 12), none, []⟩,
 ⟨.bin 52 .add (.t 51) (.c (.int .i64 1)), none, []⟩,
 ⟨.mov 10 (.t 52), none, []⟩] false) (.reg [⟨.mov 53 (.t 12), none, []⟩,
 ⟨.mov 11 (.t 53), none, []⟩] false))))))))
 (.seq (.seq (.reg [⟨.mov 54 (.t 1), none, []⟩,
 ⟨.mov 13 (.t 54), none, []⟩] false)
 (.block 2 (.loop (.seq (.seq (.reg [⟨.mov 55 (.t 13), none, []⟩,
 ⟨.mov 56 (.t 10), none, []⟩,
 ⟨.bin 57 .sub (.t 56) (.c (.int .i64 1)), none, []⟩,
 ⟨.bin 58 .lss (.t 55) (.t 57), none, []⟩] false)
 (.cond (.t 58) (.skip) (.exit 2)))
 (.seq (.block 3 (.reg [⟨.mov 61 (.t 0), none, []⟩,
 ⟨.mov 62 (.t 13), none, []⟩,
 ⟨.mov 63 (.t 0), none, []⟩,
 ⟨.mov 64 (.t 13), none, []⟩,
 ⟨.bin 65 .add (.t 64) (.c (.int .i64 1)), none, [3]⟩,
 ⟨.mov 66 (.t 0), none, []⟩,
 ⟨.mov 67 (.t 13), none, []⟩,
 ⟨.bin 68 .add (.t 67) (.c (.int .i64 1)), none, [6]⟩,
 ⟨.idx 69 (.t 66) (.t 68) 9, none, [5, 7]⟩,
 ⟨.load 70 (.t 69) 9 true, none, [8]⟩,
 ⟨.mov 71 (.t 0), none, []⟩,
 ⟨.mov 72 (.t 13), none, []⟩,
 ⟨.idx 73 (.t 71) (.t 72) 9, none, [10, 11]⟩,
 ⟨.load 74 (.t 73) 9 true, none, [12]⟩,
 ⟨.idx 75 (.t 61) (.t 62) 9, none, [0, 1, 0, 1, 5, 6, 7, 8, 9, 13]⟩,
 ⟨.store (.t 75) (.t 70) 9, none, [14, 9, 0, 1, 5, 6, 7, 8, 9, 13]⟩,
 ⟨.idx 76 (.t 63) (.t 65) 9, none, [2, 4, 0, 1, 2, 3, 4, 5, 6, 7, 8, 9, 10, 11, 12, 13, 14, 15]⟩,
 ⟨.store (.t 76) (.t 74) 9, none, [16, 13, 15, 0, 1, 2, 3, 4, 5, 6, 7, 8, 9, 10, 11, 12, 13, 14, 15]⟩] true))
 (.reg [⟨.mov 59 (.t 13), none, []⟩,
 ⟨.bin 60 .add (.t 59) (.c (.int .i64 1)), none, []⟩,
 ⟨.mov 13 (.t 60), none, []⟩] false))))))
 (.ret))))) (.skip)))
 (.seq (.seq (.reg [⟨.mov 77 (.t 3), none, []⟩,
 ⟨.mov 78 (.t 2), none, []⟩,
 ⟨.bin 79 .sub (.t 77) (.t 78), none, []⟩,
 ⟨.bin 80 .eql (.t 79) (.c (.int .i64 1)), none, []⟩] false)
 (.cond (.t 80) (.seq (.reg [⟨.mov 81 (.t 1), none, []⟩,
 ⟨.mov 14 (.t 81), none, []⟩] false)
 (.seq (.reg [⟨.mov 82 (.t 2), none, []⟩,
 ⟨.mov 15 (.t 82), none, []⟩] false)
 (.seq (.block 4 (.loop (.seq (.seq (.reg [⟨.mov 83 (.t 14), none, []⟩,
 ⟨.mov 84 (.t 15), none, []⟩,
 ⟨.bin 85 .lss (.t 83) (.t 84), none, []⟩] false)
 (.cond (.t 85) (.skip) (.exit 4)))
 (.block 5 (.seq (.reg [⟨.mov 86 (.t 14), none, []⟩,
 ⟨.mov 87 (.t 15), none, []⟩,
 ⟨.bin 88 .add (.t 86) (.t 87), none, []⟩,
 ⟨.cvi 89 .u64 (.t 88), none, []⟩,
 ⟨.bin 90 .shr (.t 89) (.c (.int .u64 1)), none, []⟩,
 ⟨.cvi 91 .i64 (.t 90), none, []⟩,
 ⟨.mov 16 (.t 91), none, []⟩] false)
 (.seq (.reg [⟨.mov 92 (.t 4), none, []⟩,
 ⟨.mov 93 (.t 0), none, []⟩,
 ⟨.mov 94 (.t 2), none, []⟩,
 ⟨.idx 95 (.t 93) (.t 94) 9, none, [1, 2]⟩,
 ⟨.load 96 (.t 95) 9 true, none, [3]⟩,
 ⟨.mov 97 (.t 0), none, []⟩,
 ⟨.mov 98 (.t 16), none, []⟩,
 ⟨.idx 99 (.t 97) (.t 98) 9, none, [5, 6]⟩,
 ⟨.load 100 (.t 99) 9 true, none, [7]⟩,
 ⟨.callT (some 101) (.t 92) [(.t 96), (.t 100)], none, [0, 4, 8]⟩,
 ⟨.bin 102 .lss (.t 101) (.c (.int .i64 0)), none, [9]⟩,
 ⟨.not 103 (.t 102), none, [10]⟩] true)
 (.cond (.t 103) (.reg [⟨.mov 104 (.t 16), none, []⟩,
 ⟨.bin 105 .add (.t 104) (.c (.int .i64 1)), none, []⟩,
 ⟨.mov 14 (.t 105), none, []⟩] false) (.reg [⟨.mov 106 (.t 16), none, []⟩,
 ⟨.mov 15 (.t 106), none, []⟩] false))))))))
 (.seq (.seq (.reg [⟨.mov 107 (.t 2), none, []⟩,
 ⟨.mov 17 (.t 107), none, []⟩] false)
 (.block 6 (.loop (.seq (.seq (.reg [⟨.mov 108 (.t 17), none, []⟩,
 ⟨.mov 109 (.t 14), none, []⟩,
 ⟨.bin 110 .gtr (.t 108) (.t 109), none, []⟩] false)
 (.cond (.t 110) (.skip) (.exit 6)))
 (.seq (.block 7 (.reg [⟨.mov 113 (.t 0), none, []⟩,
 ⟨.mov 114 (.t 17), none, []⟩,
 ⟨.mov 115 (.t 0), none, []⟩,
 ⟨.mov 116 (.t 17), none, []⟩,
 ⟨.bin 117 .sub (.t 116) (.c (.int .i64 1)), none, [3]⟩,
 ⟨.mov 118 (.t 0), none, []⟩,
 ⟨.mov 119 (.t 17), none, []⟩,
 ⟨.bin 120 .sub (.t 119) (.c (.int .i64 1)), none, [6]⟩,
 ⟨.idx 121 (.t 118) (.t 120) 9, none, [5, 7]⟩,
 ⟨.load 122 (.t 121) 9 true, none, [8]⟩,
 ⟨.mov 123 (.t 0), none, []⟩,
 ⟨.mov 124 (.t 17), none, []⟩,
 ⟨.idx 125 (.t 123) (.t 124) 9, none, [10, 11]⟩,
 ⟨.load 126 (.t 125) 9 true, none, [12]⟩,
 ⟨.idx 127 (.t 113) (.t 114) 9, none, [0, 1, 0, 1, 5, 6, 7, 8, 9, 13]⟩,
 ⟨.store (.t 127) (.t 122) 9, none, [14, 9, 0, 1, 5, 6, 7, 8, 9, 13]⟩,
 ⟨.idx 128 (.t 115) (.t 117) 9, none, [2, 4, 0, 1, 2, 3, 4, 5, 6, 7, 8, 9, 10, 11, 12, 13, 14, 15]⟩,
 ⟨.store (.t 128) (.t 126) 9, none, [16, 13, 15, 0, 1, 2, 3, 4, 5, 6, 7, 8, 9, 10, 11, 12, 13, 14, 15]⟩] true))
 (.reg [⟨.mov 111 (.t 17), none, []⟩,
 ⟨.bin 112 .sub (.t 111) (.c (.int .i64 1)), none, []⟩,
 ⟨.mov 17 (.t 112), none, []⟩] false))))))
 (.ret))))) (.skip)))
 (.seq (.reg [⟨.mov 129 (.t 1), none, []⟩,
 ⟨.mov 130 (.t 3), none, []⟩,
 ⟨.bin 131 .add (.t 129) (.t 130), none, []⟩,
 ⟨.cvi 132 .u64 (.t 131), none, []⟩,
 ⟨.bin 133 .shr (.t 132) (.c (.int .u64 1)), none, []⟩,
 ⟨.cvi 134 .i64 (.t 133), none, []⟩,
 ⟨.mov 18 (.t 134), none, []⟩] false)
 (.seq (.reg [⟨.mov 135 (.t 18), none, []⟩,
 ⟨.mov 136 (.t 2), none, []⟩,
 ⟨.bin 137 .add (.t 135) (.t 136), none, []⟩,
 ⟨.mov 19 (.t 137), none, []⟩] false)
 (.seq (.reg [⟨.mov 20 (.c (.int .i64 0)), none, []⟩,
 ⟨.mov 21 (.c (.int .i64 0)), none, []⟩] false)
 (.seq (.seq (.reg [⟨.mov 138 (.t 2), none, []⟩,
 ⟨.mov 139 (.t 18), none, []⟩,
 ⟨.bin 140 .gtr (.t 138) (.t 139), none, []⟩] false)
 (.cond (.t 140) (.seq (.reg [⟨.mov 141 (.t 19), none, []⟩,
 ⟨.mov 142 (.t 3), none, []⟩,
 ⟨.bin 143 .sub (.t 141) (.t 142), none, []⟩,
 ⟨.mov 20 (.t 143), none, []⟩] false)
 (.reg [⟨.mov 144 (.t 18), none, []⟩,
 ⟨.mov 21 (.t 144), none, []⟩] false)) (.seq (.reg [⟨.mov 145 (.t 1), none, []⟩,
 ⟨.mov 20 (.t 145), none, []⟩] false)
 (.reg [⟨.mov 146 (.t 2), none, []⟩,
 ⟨.mov 21 (.t 146), none, []⟩] false))))
 (.seq (.reg [⟨.mov 147 (.t 19), none, []⟩,
 ⟨.bin 148 .sub (.t 147) (.c (.int .i64 1)), none, []⟩,
 ⟨.mov 22 (.t 148), none, []⟩] false)
 (.seq (.block 8 (.loop (.seq (.seq (.reg [⟨.mov 149 (.t 20), none, []⟩,
 ⟨.mov 150 (.t 21), none, []⟩,
 ⟨.bin 151 .lss (.t 149) (.t 150), none, []⟩] false)
 (.cond (.t 151) (.skip) (.exit 8)))
 (.block 9 (.seq (.reg [⟨.mov 152 (.t 20), none, []⟩,
 ⟨.mov 153 (.t 21), none, []⟩,
 ⟨.bin 154 .add (.t 152) (.t 153), none, []⟩,
 ⟨.cvi 155 .u64 (.t 154), none, []⟩,
 ⟨.bin 156 .shr (.t 155) (.c (.int .u64 1)), none, []⟩,
 ⟨.cvi 157 .i64 (.t 156), none, []⟩,
 ⟨.mov 23 (.t 157), none, []⟩] false)
 (.seq (.reg [⟨.mov 158 (.t 4), none, []⟩,
 ⟨.mov 159 (.t 0), none, []⟩,
 ⟨.mov 160 (.t 22), none, []⟩,
 ⟨.mov 161 (.t 23), none, []⟩,
 ⟨.bin 162 .sub (.t 160) (.t 161), none, [2, 3]⟩,
 ⟨.idx 163 (.t 159) (.t 162) 9, none, [1, 4]⟩,
 ⟨.load 164 (.t 163) 9 true, none, [5]⟩,
 ⟨.mov 165 (.t 0), none, []⟩,
 ⟨.mov 166 (.t 23), none, []⟩,
 ⟨.idx 167 (.t 165) (.t 166) 9, none, [7, 8]⟩,
 ⟨.load 168 (.t 167) 9 true, none, [9]⟩,
 ⟨.callT (some 169) (.t 158) [(.t 164), (.t 168)], none, [0, 6, 10]⟩,
 ⟨.bin 170 .lss (.t 169) (.c (.int .i64 0)), none, [11]⟩,
 ⟨.not 171 (.t 170), none, [12]⟩] true)
 (.cond (.t 171) (.reg [⟨.mov 172 (.t 23), none, []⟩,
 ⟨.bin 173 .add (.t 172) (.c (.int .i64 1)), none, []⟩,
 ⟨.mov 20 (.t 173), none, []⟩] false) (.reg [⟨.mov 174 (.t 23), none, []⟩,
 ⟨.mov 21 (.t 174), none, []⟩] false))))))))
 (.seq (.reg [⟨.mov 175 (.t 19), none, []⟩,
 ⟨.mov 176 (.t 20), none, []⟩,
 ⟨.bin 177 .sub (.t 175) (.t 176), none, []⟩,
 ⟨.mov 24 (.t 177), none, []⟩] false)
 (.seq (.seq (.reg [⟨.mov 178 (.t 20), none, []⟩,
 ⟨.mov 179 (.t 2), none, []⟩,
 ⟨.bin 180 .lss (.t 178) (.t 179), none, []⟩,
 ⟨.mov 181 (.t 180), none, []⟩,
 ⟨.mov 182 (.t 2), some (181, true), []⟩,
 ⟨.mov 183 (.t 24), some (181, true), []⟩,
 ⟨.bin 184 .lss (.t 182) (.t 183), some (181, true), []⟩,
 ⟨.pick 185 (.t 181) (.t 184) (.c (.bool false)), none, []⟩] false)
 (.cond (.t 185) (.reg [⟨.mov 186 (.t 0), none, []⟩,
 ⟨.mov 187 (.t 20), none, []⟩,
 ⟨.mov 188 (.t 2), none, []⟩,
 ⟨.mov 189 (.t 24), none, []⟩,
 ⟨.mov 190 (.t 4), none, []⟩,
 ⟨.callT (some 191) (.c (.fn 154 [])) [(.t 186), (.t 187), (.t 188), (.t 189), (.t 190)], none, []⟩] false) (.skip)))
 (.seq (.seq (.reg [⟨.mov 192 (.t 1), none, []⟩,
 ⟨.mov 193 (.t 20), none, []⟩,
 ⟨.bin 194 .lss (.t 192) (.t 193), none, []⟩,
 ⟨.mov 195 (.t 194), none, []⟩,
 ⟨.mov 196 (.t 20), some (195, true), []⟩,
 ⟨.mov 197 (.t 18), some (195, true), []⟩,
 ⟨.bin 198 .lss (.t 196) (.t 197), some (195, true), []⟩,
 ⟨.pick 199 (.t 195) (.t 198) (.c (.bool false)), none, []⟩] false)
 (.cond (.t 199) (.reg [⟨.mov 200 (.t 0), none, []⟩,
 ⟨.mov 201 (.t 1), none, []⟩,
 ⟨.mov 202 (.t 20), none, []⟩,
 ⟨.mov 203 (.t 18), none, []⟩,
 ⟨.mov 204 (.t 4), none, []⟩,
 ⟨.callT (some 205) (.c (.fn 127 [])) [(.t 200), (.t 201), (.t 202), (.t 203), (.t 204)], none, []⟩] false) (.skip)))
 (.seq (.reg [⟨.mov 206 (.t 18), none, []⟩,
 ⟨.mov 207 (.t 24), none, []⟩,
 ⟨.bin 208 .lss (.t 206) (.t 207), none, []⟩,
 ⟨.mov 209 (.t 208), none, []⟩,
 ⟨.mov 210 (.t 24), some (209, true), []⟩,
 ⟨.mov 211 (.t 3), some (209, true), []⟩,
 ⟨.bin 212 .lss (.t 210) (.t 211), some (209, true), []⟩,
 ⟨.pick 213 (.t 209) (.t 212) (.c (.bool false)), none, []⟩] false)
 (.cond (.t 213) (.reg [⟨.mov 214 (.t 0), none, []⟩,
 ⟨.mov 215 (.t 18), none, []⟩,
 ⟨.mov 216 (.t 24), none, []⟩,
 ⟨.mov 217 (.t 3), none, []⟩,
 ⟨.mov 218 (.t 4), none, []⟩,
 ⟨.callT (some 219) (.c (.fn 127 [])) [(.t 214), (.t 215), (.t 216), (.t 217), (.t 218)], none, []⟩] false) (.skip)))))))))))))
theorem ok127 : FnOK Tryz.prog 127 220 [] sc127 :=
 ⟨Tryz.call127, Tryz.f127, (Tryz.f127).body.getD .skip, Tryz.func127, by kernel_rfl, by kernel_rfl, by kernel_rfl, by kernel_rfl, by kernel_rfl⟩
/-- slices.Reverse[[]assessor/api.Attempt,assessor/api.Attempt] -/
def sc128 : SCode := .seq (.reg [⟨.mov 4 (.t 0), none, []⟩,
 ⟨.len 5 false (.t 4), none, []⟩,
 ⟨.bin 6 .sub (.t 5) (.c (.int .i64 1)), none, []⟩,
 ⟨.mov 2 (.c (.int .i64 0)), none, []⟩,
 ⟨.mov 3 (.t 6), none, []⟩] false)
 (.block 0 (.loop (.seq (.seq (.reg [⟨.mov 7 (.t 2), none, []⟩,
 ⟨.mov 8 (.t 3), none, []⟩,
 ⟨.bin 9 .lss (.t 7) (.t 8), none, []⟩] false)
 (.cond (.t 9) (.skip) (.exit 0)))
 (.seq (.block 1 (.reg [⟨.mov 14 (.t 0), none, []⟩,
 ⟨.mov 15 (.t 2), none, []⟩,
 ⟨.mov 16 (.t 0), none, []⟩,
 ⟨.mov 17 (.t 3), none, []⟩,
 ⟨.mov 18 (.t 0), none, []⟩,
 ⟨.mov 19 (.t 3), none, []⟩,
 ⟨.idx 20 (.t 18) (.t 19) 3, none, [4, 5]⟩,
 ⟨.load 21 (.t 20) 3 true, none, [6]⟩,
 ⟨.mov 22 (.t 0), none, []⟩,
 ⟨.mov 23 (.t 2), none, []⟩,
 ⟨.idx 24 (.t 22) (.t 23) 3, none, [8, 9]⟩,
 ⟨.load 25 (.t 24) 3 true, none, [10]⟩,
 ⟨.idx 26 (.t 14) (.t 15) 3, none, [0, 1, 0, 1, 4, 5, 6, 7, 11]⟩,
 ⟨.store (.t 26) (.t 21) 3, none, [12, 7, 0, 1, 4, 5, 6, 7, 11]⟩,
 ⟨.idx 27 (.t 16) (.t 17) 3, none, [2, 3, 0, 1, 2, 3, 4, 5, 6, 7, 8, 9, 10, 11, 12, 13]⟩,
 ⟨.store (.t 27) (.t 25) 3, none, [14, 11, 13, 0, 1, 2, 3, 4, 5, 6, 7, 8, 9, 10, 11, 12, 13]⟩] true))
 (.reg [⟨.mov 10 (.t 2), none, []⟩,
 ⟨.bin 11 .add (.t 10) (.c (.int .i64 1)), none, []⟩,
 ⟨.mov 12 (.t 3), none, []⟩,
 ⟨.bin 13 .sub (.t 12) (.c (.int .i64 1)), none, []⟩,
 ⟨.mov 2 (.t 11), none, []⟩,
 ⟨.mov 3 (.t 13), none, []⟩] false)))))
theorem ok128 : FnOK Tryz.prog 128 28 [] sc128 :=
 ⟨Tryz.call128, Tryz.f128, (Tryz.f128).body.getD .skip, Tryz.func128, by kernel_rfl, by kernel_rfl, by kernel_rfl, by kernel_rfl, by kernel_rfl⟩
/-- slices.SortStableFunc[[]assessor/api.Attempt,assessor/api.Attempt] -/
def sc129 : SCode := .reg [⟨.mov 4 (.t 0), none, []⟩,
 ⟨.mov 5 (.t 0), none, []⟩,
 ⟨.len 6 false (.t 5), none, []⟩,
 ⟨.mov 7 (.t 1), none, []⟩,
 ⟨.callT (some 8) (.c (.fn 155 [])) [(.t 4), (.t 6), (.t 7)], none, []⟩] false
theorem ok129 : FnOK Tryz.prog 129 9 [] sc129 :=
 ⟨Tryz.call129, Tryz.f129, (Tryz.f129).body.getD .skip, Tryz.func129, by kernel_rfl, by kernel_rfl, by kernel_rfl, by kernel_rfl, by kernel_rfl⟩
/-- slices.rotateCmpFunc[assessor/api.BookEvent] -/
def sc154 : SCode := .seq (.reg [⟨.mov 12 (.t 2), none, []⟩,
 ⟨.mov 13 (.t 1), none, []⟩,
 ⟨.bin 14 .sub (.t 12) (.t 13), none, []⟩,
 ⟨.mov 10 (.t 14), none, []⟩] false)
 (.seq (.reg [⟨.mov 15 (.t 3), none, []⟩,
 ⟨.mov 16 (.t 2), none, []⟩,
 ⟨.bin 17 .sub (.t 15) (.t 16), none, []⟩,
 ⟨.mov 11 (.t 17), none, []⟩] false)
 (.seq (.block 0 (.loop (.seq (.seq (.reg [⟨.mov 18 (.t 10), none, []⟩,
 ⟨.mov 19 (.t 11), none, []⟩,
 ⟨.bin 20 .neq (.t 18) (.t 19), none, []⟩] false)
 (.cond (.t 20) (.skip) (.exit 0)))
 (.block 1 (.seq (.reg [⟨.mov 21 (.t 10), none, []⟩,
 ⟨.mov 22 (.t 11), none, []⟩,
 ⟨.bin 23 .gtr (.t 21) (.t 22), none, []⟩] false)
 (.cond (.t 23) (.seq (.reg [⟨.mov 24 (.t 0), none, []⟩,
 ⟨.mov 25 (.t 2), none, []⟩,
 ⟨.mov 26 (.t 10), none, []⟩,
 ⟨.bin 27 .sub (.t 25) (.t 26), none, []⟩,
 ⟨.mov 28 (.t 2), none, []⟩,
 ⟨.mov 29 (.t 11), none, []⟩,
 ⟨.mov 30 (.t 4), none, []⟩,
 ⟨.callT (some 31) (.c (.fn 181 [])) [(.t 24), (.t 27), (.t 28), (.t 29), (.t 30)], none, []⟩] false)
 (.reg [⟨.mov 32 (.t 10), none, []⟩,
 ⟨.mov 33 (.t 11), none, []⟩,
 ⟨.bin 34 .sub (.t 32) (.t 33), none, []⟩,
 ⟨.mov 10 (.t 34), none, []⟩] false)) (.seq (.reg [⟨.mov 35 (.t 0), none, []⟩,
 ⟨.mov 36 (.t 2), none, []⟩,
 ⟨.mov 37 (.t 10), none, []⟩,
 ⟨.bin 38 .sub (.t 36) (.t 37), none, []⟩,
 ⟨.mov 39 (.t 2), none, []⟩,
 ⟨.mov 40 (.t 11), none, []⟩,
 ⟨.bin 41 .add (.t 39) (.t 40), none, []⟩,
 ⟨.mov 42 (.t 10), none, []⟩,
 ⟨.bin 43 .sub (.t 41) (.t 42), none, []⟩,
 ⟨.mov 44 (.t 10), none, []⟩,
 ⟨.mov 45 (.t 4), none, []⟩,
 ⟨.callT (some 46) (.c (.fn 181 [])) [(.t 35), (.t 38), (.t 43), (.t 44), (.t 45)], none, []⟩] false)
 (.reg [⟨.mov 47 (.t 11), none, []⟩,
 ⟨.mov 48 (.t 10), none, []⟩,
 ⟨.bin 49 .sub (.t 47) (.t 48), none, []⟩,
 ⟨.mov 11 (.t 49), none, []⟩] false))))))))
 (.reg [⟨.mov 50 (.t 0), none, []⟩,
 ⟨.mov 51 (.t 2), none, []⟩,
 ⟨.mov 52 (.t 10), none, []⟩,
 ⟨.bin 53 .sub (.t 51) (.t 52), none, []⟩,
 ⟨.mov 54 (.t 2), none, []⟩,
 ⟨.mov 55 (.t 10), none, []⟩,
 ⟨.mov 56 (.t 4), none, []⟩,
 ⟨.callT (some 57) (.c (.fn 181 [])) [(.t 50), (.t 53), (.t 54), (.t 55), (.t 56)], none, []⟩] false)))
theorem ok154 : FnOK Tryz.prog 154 58 [] sc154 :=
 ⟨Tryz.call154, Tryz.f154, (Tryz.f154).body.getD .skip, Tryz.func154, by kernel_rfl, by kernel_rfl, by kernel_rfl, by kernel_rfl, by kernel_rfl⟩
/-- slices.stableCmpFunc[assessor/api.Attempt] -/
def sc155 : SCode := .seq (.reg [⟨.mov 6 (.c (.int .i64 20)), none, []⟩] false)
 (.seq (.reg [⟨.mov 10 (.t 6), none, []⟩,
 ⟨.mov 7 (.c (.int .i64 0)), none, []⟩,
 ⟨.mov 8 (.t 10), none, []⟩] false)
 (.seq (.block 0 (.loop (.seq (.seq (.reg [⟨.mov 11 (.t 8), none, []⟩,
 ⟨.mov 12 (.t 1), none, []⟩,
 ⟨.bin 13 .leq (.t 11) (.t 12), none, []⟩] false)
 (.cond (.t 13) (.skip) (.exit 0)))
 (.block 1 (.seq (.reg [⟨.mov 14 (.t 0), none, []⟩,
 ⟨.mov 15 (.t 7), none, []⟩,
 ⟨.mov 16 (.t 8), none, []⟩,
 ⟨.mov 17 (.t 2), none, []⟩,
 ⟨.callT (some 18) (.c (.fn 182 [])) [(.t 14), (.t 15), (.t 16), (.t 17)], none, []⟩] false)
 (.seq (.reg [⟨.mov 19 (.t 8), none, []⟩,
 ⟨.mov 7 (.t 19), none, []⟩] false)
 (.reg [⟨.mov 20 (.t 8), none, []⟩,
 ⟨.mov 21 (.t 6), none, []⟩,
 ⟨.bin 22 .add (.t 20) (.t 21), none, []⟩,
 ⟨.mov 8 (.t 22), none, []⟩] false)))))))
 (.seq (.reg [⟨.mov 23 (.t 0), none, []⟩,
 ⟨.mov 24 (.t 7), none, []⟩,
 ⟨.mov 25 (.t 1), none, []⟩,
 ⟨.mov 26 (.t 2), none, []⟩,
 ⟨.callT (some 27) (.c (.fn 182 [])) [(.t 23), (.t 24), (.t 25), (.t 26)], none, []⟩] false)
 (.block 2 (.loop (.seq (.seq (.reg [⟨.mov 28 (.t 6), none, []⟩,
 ⟨.mov 29 (.t 1), none, []⟩,
 ⟨.bin 30 .lss (.t 28) (.t 29), none, []⟩] false)
 (.cond (.t 30) (.skip) (.exit 2)))
 (.block 3 (.seq (.reg [⟨.mov 31 (.t 6), none, []⟩,
 ⟨.bin 32 .mul (.c (.int .i64 2)) (.t 31), none, []⟩,
 ⟨.mov 7 (.c (.int .i64 0)), none, []⟩,
 ⟨.mov 8 (.t 32), none, []⟩] false)
 (.seq (.block 4 (.loop (.seq (.seq (.reg [⟨.mov 33 (.t 8), none, []⟩,
 ⟨.mov 34 (.t 1), none, []⟩,
 ⟨.bin 35 .leq (.t 33) (.t 34), none, []⟩] false)
 (.cond (.t 35) (.skip) (.exit 4)))
 (.block 5 (.seq (.reg [⟨.mov 36 (.t 0), none, []⟩,
 ⟨.mov 37 (.t 7), none, []⟩,
 ⟨.mov 38 (.t 7), none, []⟩,
 ⟨.mov 39 (.t 6), none, []⟩,
 ⟨.bin 40 .add (.t 38) (.t 39), none, []⟩,
 ⟨.mov 41 (.t 8), none, []⟩,
 ⟨.mov 42 (.t 2), none, []⟩,
 ⟨.callT (some 43) (.c (.fn 183 [])) [(.t 36), (.t 37), (.t 40), (.t 41), (.t 42)], none, []⟩] false)
 (.seq (.reg [⟨.mov 44 (.t 8), none, []⟩,
 ⟨.mov 7 (.t 44), none, []⟩] false)
 (.reg [⟨.mov 45 (.t 8), none, []⟩,
 ⟨.mov 46 (.t 6), none, []⟩,
 ⟨.bin 47 .mul (.c (.int .i64 2)) (.t 46), none, []⟩,
 ⟨.bin 48 .add (.t 45) (.t 47), none, []⟩,
 ⟨.mov 8 (.t 48), none, []⟩] false)))))))
 (.seq (.seq (.reg [⟨.mov 49 (.t 7), none, []⟩,
 ⟨.mov 50 (.t 6), none, []⟩,
 ⟨.bin 51 .add (.t 49) (.t 50), none, []⟩,
 ⟨.mov 9 (.t 51), none, []⟩] false)
 (.seq (.reg [⟨.mov 52 (.t 9), none, []⟩,
 ⟨.mov 53 (.t 1), none, []⟩,
 ⟨.bin 54 .lss (.t 52) (.t 53), none, []⟩] false)
 (.cond (.t 54) (.reg [⟨.mov 55 (.t 0), none, []⟩,
 ⟨.mov 56 (.t 7), none, []⟩,
 ⟨.mov 57 (.t 9), none, []⟩,
 ⟨.mov 58 (.t 1), none, []⟩,
 ⟨.mov 59 (.t 2), none, []⟩,
 ⟨.callT (some 60) (.c (.fn 183 [])) [(.t 55), (.t 56), (.t 57), (.t 58), (.t 59)], none, []⟩] false) (.skip))))
 (.reg [⟨.mov 61 (.t 6), none, []⟩,
 ⟨.bin 62 .mul (.t 61) (.c (.int .i64 2)), none, []⟩,
 ⟨.mov 6 (.t 62), none, []⟩] false)))))))))))
theorem ok155 : FnOK Tryz.prog 155 63 [] sc155 :=
 ⟨Tryz.call155, Tryz.f155, (Tryz.f155).body.getD .skip, Tryz.func155, by kernel_rfl, by kernel_rfl, by kernel_rfl, by kernel_rfl, by kernel_rfl⟩
/-- slices.Contains[[]string,string] -/
def sc171 : SCode := .seq (.reg [⟨.mov 4 (.c (.bool false)), none, []⟩] false)
 (.seq (.reg [⟨.mov 5 (.t 0), none, []⟩,
 ⟨.mov 6 (.t 1), none, []⟩,
 ⟨.callT (some 7) (.c (.fn 191 [])) [(.t 5), (.t 6)], none, []⟩,
 ⟨.bin 8 .geq (.t 7) (.c (.int .i64 0)), none, []⟩,
 ⟨.mov 4 (.t 8), none, []⟩] false)
 (.ret))
theorem ok171 : FnOK Tryz.prog 171 9 [.t 4] sc171 :=
 ⟨Tryz.call171, Tryz.f171, (Tryz.f171).body.getD .skip, Tryz.func171, by kernel_rfl, by kernel_rfl, by kernel_rfl, by kernel_rfl, by kernel_rfl⟩
/-- slices.swapRangeCmpFunc[assessor/api.BookEvent] -/
def sc181 : SCode := .seq (.reg [⟨.mov 10 (.c (.int .i64 0)), none, []⟩] false)
 (.block 0 (.loop (.seq (.seq (.reg [⟨.mov 11 (.t 10), none, []⟩,
 ⟨.mov 12 (.t 3), none, []⟩,
 ⟨.bin 13 .lss (.t 11) (.t 12), none, []⟩] false)
 (.cond (.t 13) (.skip) (.exit 0)))
 (.seq (.block 1 (.reg [⟨.mov 16 (.t 0), none, []⟩,
 ⟨.mov 17 (.t 1), none, []⟩,
 ⟨.mov 18 (.t 10), none, []⟩,
 ⟨.bin 19 .add (.t 17) (.t 18), none, [1, 2]⟩,
 ⟨.mov 20 (.t 0), none, []⟩,
 ⟨.mov 21 (.t 2), none, []⟩,
 ⟨.mov 22 (.t 10), none, []⟩,
 ⟨.bin 23 .add (.t 21) (.t 22), none, [5, 6]⟩,
 ⟨.mov 24 (.t 0), none, []⟩,
 ⟨.mov 25 (.t 2), none, []⟩,
 ⟨.mov 26 (.t 10), none, []⟩,
 ⟨.bin 27 .add (.t 25) (.t 26), none, [9, 10]⟩,
 ⟨.idx 28 (.t 24) (.t 27) 9, none, [8, 11]⟩,
 ⟨.load 29 (.t 28) 9 true, none, [12]⟩,
 ⟨.mov 30 (.t 0), none, []⟩,
 ⟨.mov 31 (.t 1), none, []⟩,
 ⟨.mov 32 (.t 10), none, []⟩,
 ⟨.bin 33 .add (.t 31) (.t 32), none, [15, 16]⟩,
 ⟨.idx 34 (.t 30) (.t 33) 9, none, [14, 17]⟩,
 ⟨.load 35 (.t 34) 9 true, none, [18]⟩,
 ⟨.idx 36 (.t 16) (.t 19) 9, none, [0, 3, 0, 1, 2, 3, 8, 9, 10, 11, 12, 13, 19]⟩,
 ⟨.store (.t 36) (.t 29) 9, none, [20, 13, 0, 1, 2, 3, 8, 9, 10, 11, 12, 13, 19]⟩,
 ⟨.idx 37 (.t 20) (.t 23) 9, none, [4, 7, 0, 1, 2, 3, 4, 5, 6, 7, 8, 9, 10, 11, 12, 13, 14, 15, 16, 17, 18, 19, 20, 21]⟩,
 ⟨.store (.t 37) (.t 35) 9, none, [22, 19, 21, 0, 1, 2, 3, 4, 5, 6, 7, 8, 9, 10, 11, 12, 13, 14, 15, 16, 17, 18, 19, 20, 21]⟩] true))
 (.reg [⟨.mov 14 (.t 10), none, []⟩,
 ⟨.bin 15 .add (.t 14) (.c (.int .i64 1)), none, []⟩,
 ⟨.mov 10 (.t 15), none, []⟩] false)))))
theorem ok181 : FnOK Tryz.prog 181 38 [] sc181 :=
 ⟨Tryz.call181, Tryz.f181, (Tryz.f181).body.getD .skip, Tryz.func181, by kernel_rfl, by kernel_rfl, by kernel_rfl, by kernel_rfl, by kernel_rfl⟩
/-- slices.insertionSortCmpFunc[assessor/api.Attempt] -/
def sc182 : SCode := .seq (.reg [⟨.mov 10 (.t 1), none, []⟩,
 ⟨.bin 11 .add (.t 10) (.c (.int .i64 1)), none, []⟩,
 ⟨.mov 8 (.t 11), none, []⟩] false)
 (.block 0 (.loop (.seq (.seq (.reg [⟨.mov 12 (.t 8), none, []⟩,
 ⟨.mov 13 (.t 2), none, []⟩,
 ⟨.bin 14 .lss (.t 12) (.t 13), none, []⟩] false)
 (.cond (.t 14) (.skip) (.exit 0)))
 (.seq (.block 1 (.seq (.reg [⟨.mov 17 (.t 8), none, []⟩,
 ⟨.mov 9 (.t 17), none, []⟩] false)
 (.block 2 (.loop (.seq (.seq (.reg [⟨.mov 18 (.t 9), none, []⟩,
 ⟨.mov 19 (.t 1), none, []⟩,
 ⟨.bin 20 .gtr (.t 18) (.t 19), none, [0, 1]⟩,
 ⟨.mov 21 (.t 20), none, [2]⟩,
 ⟨.mov 22 (.t 3), some (21, true), [3]⟩,
 ⟨.mov 23 (.t 0), some (21, true), [3]⟩,
 ⟨.mov 24 (.t 9), some (21, true), [3]⟩,
 ⟨.idx 25 (.t 23) (.t 24) 3, some (21, true), [5, 6, 3]⟩,
 ⟨.load 26 (.t 25) 3 true, some (21, true), [7, 3]⟩,
 ⟨.mov 27 (.t 0), some (21, true), [3]⟩,
 ⟨.mov 28 (.t 9), some (21, true), [3]⟩,
 ⟨.bin 29 .sub (.t 28) (.c (.int .i64 1)), some (21, true), [10, 3]⟩,
 ⟨.idx 30 (.t 27) (.t 29) 3, some (21, true), [9, 11, 3]⟩,
 ⟨.load 31 (.t 30) 3 true, some (21, true), [12, 3]⟩,
 ⟨.callT (some 32) (.t 22) [(.t 26), (.t 31)], some (21, true), [4, 8, 13, 3, 3]⟩,
 ⟨.bin 33 .lss (.t 32) (.c (.int .i64 0)), some (21, true), [14, 3]⟩,
 ⟨.pick 34 (.t 21) (.t 33) (.c (.bool false)), none, [3, 15]⟩] true)
 (.cond (.t 34) (.skip) (.exit 2)))
 (.seq (.block 3 (.reg [⟨.mov 37 (.t 0), none, []⟩,
 ⟨.mov 38 (.t 9), none, []⟩,
 ⟨.mov 39 (.t 0), none, []⟩,
 ⟨.mov 40 (.t 9), none, []⟩,
 ⟨.bin 41 .sub (.t 40) (.c (.int .i64 1)), none, [3]⟩,
 ⟨.mov 42 (.t 0), none, []⟩,
 ⟨.mov 43 (.t 9), none, []⟩,
 ⟨.bin 44 .sub (.t 43) (.c (.int .i64 1)), none, [6]⟩,
 ⟨.idx 45 (.t 42) (.t 44) 3, none, [5, 7]⟩,
 ⟨.load 46 (.t 45) 3 true, none, [8]⟩,
 ⟨.mov 47 (.t 0), none, []⟩,
 ⟨.mov 48 (.t 9), none, []⟩,
 ⟨.idx 49 (.t 47) (.t 48) 3, none, [10, 11]⟩,
 ⟨.load 50 (.t 49) 3 true, none, [12]⟩,
 ⟨.idx 51 (.t 37) (.t 38) 3, none, [0, 1, 0, 1, 5, 6, 7, 8, 9, 13]⟩,
 ⟨.store (.t 51) (.t 46) 3, none, [14, 9, 0, 1, 5, 6, 7, 8, 9, 13]⟩,
 ⟨.idx 52 (.t 39) (.t 41) 3, none, [2, 4, 0, 1, 2, 3, 4, 5, 6, 7, 8, 9, 10, 11, 12, 13, 14, 15]⟩,
 ⟨.store (.t 52) (.t 50) 3, none, [16, 13, 15, 0, 1, 2, 3, 4, 5, 6, 7, 8, 9, 10, 11, 12, 13, 14, 15]⟩] true))
 (.reg [⟨.mov 35 (.t 9), none, []⟩,
 ⟨.bin 36 .sub (.t 35) (.c (.int .i64 1)), none, []⟩,
 ⟨.mov 9 (.t 36), none, []⟩] false)))))))
 (.reg [⟨.mov 15 (.t 8), none, []⟩,
 ⟨.bin 16 .add (.t 15) (.c (.int .i64 1)), none, []⟩,
 ⟨.mov 8 (.t 16), none, []⟩] false)))))
theorem ok182 : FnOK Tryz.prog 182 53 [] sc182 :=
 ⟨Tryz.call182, Tryz.f182, (Tryz.f182).body.getD .skip, Tryz.func182, by kernel_rfl, by kernel_rfl, by kernel_rfl, by kernel_rfl, by kernel_rfl⟩
/-- slices.symMergeCmpFunc[assessor/api.Attempt] -/
def sc183 : SCode := .seq (.seq (.reg [⟨.mov 25 (.t 2), none, []⟩,
 ⟨.mov 26 (.t 1), none, []⟩,
 ⟨.bin 27 .sub (.t 25) (.t 26), none, []⟩,
 ⟨.bin 28 .eql (.t 27) (.c (.int .i64 1)), none, []⟩] false)
 (.cond (.t 28) (.seq (.reg [⟨.mov 29 (.t 2), none, []⟩,
 ⟨.mov 10 (.t 29), none, []⟩] false)
 (.seq (.reg [⟨.mov 30 (.t 3), none, []⟩,
 ⟨.mov 11 (.t 30), none, []⟩] false)
 (.seq (.block 0 (.loop (.seq (.seq (.reg [⟨.mov 31 (.t 10), none, []⟩,
 ⟨.mov 32 (.t 11), none, []⟩,
 ⟨.bin 33 .lss (.t 31) (.t 32), none, []⟩] false)
 (.cond (.t 33) (.skip) (.exit 0)))
 (.block 1 (.seq (.reg [⟨.mov 34 (.t 10), none, []⟩,
 ⟨.mov 35 (.t 11), none, []⟩,
 ⟨.bin 36 .add (.t 34) (.t 35), none, []⟩,
 ⟨.cvi 37 .u64 (.t 36), none, []⟩,
 ⟨.bin 38 .shr (.t 37) (.c (.int .u64 1)), none, []⟩,
 ⟨.cvi 39 .i64 (.t 38), none, []⟩,
 ⟨.mov 12 (.t 39), none, []⟩] false)
 (.seq (.reg [⟨.mov 40 (.t 4), none, []⟩,
 ⟨.mov 41 (.t 0), none, []⟩,
 ⟨.mov 42 (.t 12), none, []⟩,
 ⟨.idx 43 (.t 41) (.t 42) 3, none, [1, 2]⟩,
 ⟨.load 44 (.t 43) 3 true, none, [3]⟩,
 ⟨.mov 45 (.t 0), none, []⟩,
 ⟨.mov 46 (.t 1), none, []⟩,
 ⟨.idx 47 (.t 45) (.t 46) 3, none, [5, 6]⟩,
 ⟨.load 48 (.t 47) 3 true, none, [7]⟩,
 ⟨.callT (some 49) (.t 40) [(.t 44), (.t 48)], none, [0, 4, 8]⟩,
 ⟨.bin 50 .lss (.t 49) (.c (.int .i64 0)), none, [9]⟩] true)
 (.cond (.t 50) (.reg [⟨.mov 51 (.t 12), none, []⟩,
 ⟨.bin 52 .add (.t 51) (.c (.int .i64 1)), none, []⟩,
 ⟨.mov 10 (.t 52), none, []⟩] false) (.reg [⟨.mov 53 (.t 12), none, []⟩,
 ⟨.mov 11 (.t 53), none, []⟩] false))))))))
 (.seq (.seq (.reg [⟨.mov 54 (.t 1), none, []⟩,
 ⟨.mov 13 (.t 54), none, []⟩] false)
 (.block 2 (.loop (.seq (.seq (.reg [⟨.mov 55 (.t 13), none, []⟩,
 ⟨.mov 56 (.t 10), none, []⟩,
 ⟨.bin 57 .sub (.t 56) (.c (.int .i64 1)), none, []⟩,
 ⟨.bin 58 .lss (.t 55) (.t 57), none, []⟩] false)
 (.cond (.t 58) (.skip) (.exit 2)))
 (.seq (.block 3 (.reg [⟨.mov 61 (.t 0), none, []⟩,
 ⟨.mov 62 (.t 13), none, []⟩,
 ⟨.mov 63 (.t 0), none, []⟩,
 ⟨.mov 64 (.t 13), none, []⟩,
 ⟨.bin 65 .add (.t 64) (.c (.int .i64 1)), none, [3]⟩,
 ⟨.mov 66 (.t 0), none, []⟩,
 ⟨.mov 67 (.t 13), none, []⟩,
 ⟨.bin 68 .add (.t 67) (.c (.int .i64 1)), none, [6]⟩,
 ⟨.idx 69 (.t 66) (.t 68) 3, none, [5, 7]⟩,
 ⟨.load 70 (.t 69) 3 true, none, [8]⟩,
 ⟨.mov 71 (.t 0), none, []⟩,
 ⟨.mov 72 (.t 13), none, []⟩,
 ⟨.idx 73 (.t 71) (.t 72) 3, none, [10, 11]⟩,
 ⟨.load 74 (.t 73) 3 true, none, [12]⟩,
 ⟨.idx 75 (.t 61) (.t 62) 3, none, [0, 1, 0, 1, 5, 6, 7, 8, 9, 13]⟩,
 ⟨.store (.t 75) (.t 70) 3, none, [14, 9, 0, 1, 5, 6, 7, 8, 9, 13]⟩,
 ⟨.idx 76 (.t 63) (.t 65) 3, none, [2, 4, 0, 1, 2, 3, 4, 5, 6, 7, 8, 9, 10, 11, 12, 13, 14, 15]⟩,
 ⟨.store (.t 76) (.t 74) 3, none, [16, 13, 15, 0, 1, 2, 3, 4, 5, 6, 7, 8, 9, 10, 11, 12, 13, 14, 15]⟩] true))
 (.reg [⟨.mov 59 (.t 13), none, []⟩,
 ⟨.bin 60 .add (.t 59) (.c (.int .i64 1)), none, []⟩,
 ⟨.mov 13 (.t 60), none, []⟩] false))))))
 (.ret))))) (.skip)))
 (.seq (.seq (.reg [⟨.mov 77 (.t 3), none, []⟩,
 ⟨.mov 78 (.t 2), none, []⟩,
 ⟨.bin 79 .sub (.t 77) (.t 78), none, []⟩,
 ⟨.bin 80 .eql (.t 79) (.c (.int .i64 1)), none, []⟩] false)
 (.cond (.t 80) (.seq (.reg [⟨.mov 81 (.t 1), none, []⟩,
 ⟨.mov 14 (.t 81), none, []⟩] false)
 (.seq (.reg [⟨.mov 82 (.t 2), none, []⟩,
 ⟨.mov 15 (.t 82), none, []⟩] false)
 (.seq (.block 4 (.loop (.seq (.seq (.reg [⟨.mov 83 (.t 14), none, []⟩,
 ⟨.mov 84 (.t 15), none, []⟩,
 ⟨.bin 85 .lss (.t 83) (.t 84), none, []⟩] false)
 (.cond (.t 85) (.skip) (.exit 4)))
 (.block 5 (.seq (.reg [⟨.mov 86 (.t 14), none, []⟩,
 ⟨.mov 87 (.t 15), none, []⟩,
 ⟨.bin 88 .add (.t 86) (.t 87), none, []⟩,
 ⟨.cvi 89 .u64 (.t 88), none, []⟩,
 ⟨.bin 90 .shr (.t 89) (.c (.int .u64 1)), none, []⟩,
 ⟨.cvi 91 .i64 (.t 90), none, []⟩,
 ⟨.mov 16 (.t 91), none, []⟩] false)
 (.seq (.reg [⟨.mov 92 (.t 4), none, []⟩,
 ⟨.mov 93 (.t 0), none, []⟩,
 ⟨.mov 94 (.t 2), none, []⟩,
 ⟨.idx 95 (.t 93) (.t 94) 3, none, [1, 2]⟩,
 ⟨.load 96 (.t 95) 3 true, none, [3]⟩,
 ⟨.mov 97 (.t 0), none, []⟩,
 ⟨.mov 98 (.t 16), none, []⟩,
 ⟨.idx 99 (.t 97) (.t 98) 3, none, [5, 6]⟩,
 ⟨.load 100 (.t 99) 3 true, none, [7]⟩,
 ⟨.callT (some 101) (.t 92) [(.t 96), (.t 100)], none, [0, 4, 8]⟩,
 ⟨.bin 102 .lss (.t 101) (.c (.int .i64 0)), none, [9]⟩,
 ⟨.not 103 (.t 102), none, [10]⟩] true)
 (.cond (.t 103) (.reg [⟨.mov 104 (.t 16), none, []⟩,
 ⟨.bin 105 .add (.t 104) (.c (.int .i64 1)), none, []⟩,
 ⟨.mov 14 (.t 105), none, []⟩] false) (.reg [⟨.mov 106 (.t 16), none, []⟩,
 ⟨.mov 15 (.t 106), none, []⟩] false))))))))
 (.seq (.seq (.reg [⟨.mov 107 (.t 2), none, []⟩,
 ⟨.mov 17 (.t 107), none, []⟩] false)
 (.block 6 (.loop (.seq (.seq (.reg [⟨.mov 108 (.t 17), none, []⟩,
 ⟨.mov 109 (.t 14), none, []⟩,
 ⟨.bin 110 .gtr (.t 108) (.t 109), none, []⟩] false)
 (.cond (.t 110) (.skip) (.exit 6)))
 (.seq (.block 7 (.reg [⟨.mov 113 (.t 0), none, []⟩,
 ⟨.mov 114 (.t 17), none, []⟩,
 ⟨.mov 115 (.t 0), none, []⟩,
 ⟨.mov 116 (.t 17), none, []⟩,
 ⟨.bin 117 .sub (.t 116) (.c (.int .i64 1)), none, [3]⟩,
 ⟨.mov 118 (.t 0), none, []⟩,
 ⟨.mov 119 (.t 17), none, []⟩,
 ⟨.bin 120 .sub (.t 119) (.c (.int .i64 1)), none, [6]⟩,
 ⟨.idx 121 (.t 118) (.t 120) 3, none, [5, 7]⟩,
 ⟨.load 122 (.t 121) 3 true, none, [8]⟩,
 ⟨.mov 123 (.t 0), none, []⟩,
 ⟨.mov 124 (.t 17), none, []⟩,
 ⟨.idx 125 (.t 123) (.t 124) 3, none, [10, 11]⟩,
 ⟨.load 126 (.t 125) 3 true, none, [12]⟩,
 ⟨.idx 127 (.t 113) (.t 114) 3, none, [0, 1, 0, 1, 5, 6, 7, 8, 9, 13]⟩,
 ⟨.store (.t 127) (.t 122) 3, none, [14, 9, 0, 1, 5, 6, 7, 8, 9, 13]⟩,
 ⟨.idx 128 (.t 115) (.t 117) 3, none, [2, 4, 0, 1, 2, 3, 4, 5, 6, 7, 8, 9, 10, 11, 12, 13, 14, 15]⟩,
 ⟨.store (.t 128) (.t 126) 3, none, [16, 13, 15, 0, 1, 2, 3, 4, 5, 6, 7, 8, 9, 10, 11, 12, 13, 14, 15]⟩] true))
 (.reg [⟨.mov 111 (.t 17), none, []⟩,
 ⟨.bin 112 .sub (.t 111) (.c (.int .i64 1)), none, []⟩,
 ⟨.mov 17 (.t 112), none, []⟩] false))))))
 (.ret))))) (.skip)))
 (.seq (.reg [⟨.mov 129 (.t 1), none, []⟩,
 ⟨.mov 130 (.t 3), none, []⟩,
 ⟨.bin 131 .add (.t 129) (.t 130), none, []⟩,
 ⟨.cvi 132 .u64 (.t 131), none, []⟩,
 ⟨.bin 133 .shr (.t 132) (.c (.int .u64 1)), none, []⟩,
 ⟨.cvi 134 .i64 (.t 133), none, []⟩,
 ⟨.mov 18 (.t 134), none, []⟩] false)
 (.seq (.reg [⟨.mov 135 (.t 18), none, []⟩,
 ⟨.mov 136 (.t 2), none, []⟩,
 ⟨.bin 137 .add (.t 135) (.t 136), none, []⟩,
 ⟨.mov 19 (.t 137), none, []⟩] false)
 (.seq (.reg [⟨.mov 20 (.c (.int .i64 0)), none, []⟩,
 ⟨.mov 21 (.c (.int .i64 0)), none, []⟩] false)
 (.seq (.seq (.reg [⟨.mov 138 (.t 2), none, []⟩,
 ⟨.mov 139 (.t 18), none, []⟩,
 ⟨.bin 140 .gtr (.t 138) (.t 139), none, []⟩] false)
 (.cond (.t 140) (.seq (.reg [⟨.mov 141 (.t 19), none, []⟩,
 ⟨.mov 142 (.t 3), none, []⟩,
 ⟨.bin 143 .sub (.t 141) (.t 142), none, []⟩,
 ⟨.mov 20 (.t 143), none, []⟩] false)
 (.reg [⟨.mov 144 (.t 18), none, []⟩,
 ⟨.mov 21 (.t 144), none, []⟩] false)) (.seq (.reg [⟨.mov 145 (.t 1), none, []⟩,
 ⟨.mov 20 (.t 145), none, []⟩] false)
 (.reg [⟨.mov 146 (.t 2), none, []⟩,
 ⟨.mov 21 (.t 146), none, []⟩] false))))
 (.seq (.reg [⟨.mov 147 (.t 19), none, []⟩,
 ⟨.bin 148 .sub (.t 147) (.c (.int .i64 1)), none, []⟩,
 ⟨.mov 22 (.t 148), none, []⟩] false)
 (.seq (.block 8 (.loop (.seq (.seq (.reg [⟨.mov 149 (.t 20), none, []⟩,
 ⟨.mov 150 (.t 21), none, []⟩,
 ⟨.bin 151 .lss (.t 149) (.t 150), none, []⟩] false)
 (.cond (.t 151) (.skip) (.exit 8)))
 (.block 9 (.seq (.reg [⟨.mov 152 (.t 20), none, []⟩,
 ⟨.mov 153 (.t 21), none, []⟩,
 ⟨.bin 154 .add (.t 152) (.t 153), none, []⟩,
 ⟨.cvi 155 .u64 (.t 154), none, []⟩,
 ⟨.bin 156 .shr (.t 155) (.c (.int .u64 1)), none, []⟩,
 ⟨.cvi 157 .i64 (.t 156), none, []⟩,
 ⟨.mov 23 (.t 157), none, []⟩] false)
 (.seq (.reg [⟨.mov 158 (.t 4), none, []⟩,
 ⟨.mov 159 (.t 0), none, []⟩,
 ⟨.mov 160 (.t 22), none, []⟩,
 ⟨.mov 161 (.t 23), none, []⟩,
 ⟨.bin 162 .sub (.t 160) (.t 161), none, [2, 3]⟩,
 ⟨.idx 163 (.t 159) (.t 162) 3, none, [1, 4]⟩,
 ⟨.load 164 (.t 163) 3 true, none, [5]⟩,
 ⟨.mov 165 (.t 0), none, []⟩,
 ⟨.mov 166 (.t 23), none, []⟩,
 ⟨.idx 167 (.t 165) (.t 166) 3, none, [7, 8]⟩,
 ⟨.load 168 (.t 167) 3 true, none, [9]⟩,
 ⟨.callT (some 169) (.t 158) [(.t 164), (.t 168)], none, [0, 6, 10]⟩,
 ⟨.bin 170 .lss (.t 169) (.c (.int .i64 0)), none, [11]⟩,
 ⟨.not 171 (.t 170), none, [12]⟩] true)
 (.cond (.t 171) (.reg [⟨.mov 172 (.t 23), none, []⟩,
 ⟨.bin 173 .add (.t 172) (.c (.int .i64 1)), none, []⟩,
 ⟨.mov 20 (.t 173), none, []⟩] false) (.reg [⟨.mov 174 (.t 23), none, []⟩,
 ⟨.mov 21 (.t 174), none, []⟩] false))))))))
 (.seq (.reg [⟨.mov 175 (.t 19), none, []⟩,
 ⟨.mov 176 (.t 20), none, []⟩,
 ⟨.bin 177 .sub (.t 175) (.t 176), none, []⟩,
 ⟨.mov 24 (.t 177), none, []⟩] false)
 (.seq (.seq (.reg [⟨.mov 178 (.t 20), none, []⟩,
 ⟨.mov 179 (.t 2), none, []⟩,
 ⟨.bin 180 .lss (.t 178) (.t 179), none, []⟩,
 ⟨.mov 181 (.t 180), none, []⟩,
 ⟨.mov 182 (.t 2), some (181, true), []⟩,
 ⟨.mov 183 (.t 24), some (181, true), []⟩,
 ⟨.bin 184 .lss (.t 182) (.t 183), some (181, true), []⟩,
 ⟨.pick 185 (.t 181) (.t 184) (.c (.bool false)), none, []⟩] false)
 (.cond (.t 185) (.reg [⟨.mov 186 (.t 0), none, []⟩,
 ⟨.mov 187 (.t 20), none, []⟩,
 ⟨.mov 188 (.t 2), none, []⟩,
 ⟨.mov 189 (.t 24), none, []⟩,
 ⟨.mov 190 (.t 4), none, []⟩,
 ⟨.callT (some 191) (.c (.fn 194 [])) [(.t 186), (.t 187), (.t 188), (.t 189), (.t 190)], none, []⟩] false) (.skip)))
 (.seq (.seq (.reg [⟨.mov 192 (.t 1), none, []⟩,
 ⟨.mov 193 (.t 20), none, []⟩,
 ⟨.bin 194 .lss (.t 192) (.t 193), none, []⟩,
 ⟨.mov 195 (.t 194), none, []⟩,
 ⟨.mov 196 (.t 20), some (195, true), []⟩,
 ⟨.mov 197 (.t 18), some (195, true), []⟩,
 ⟨.bin 198 .lss (.t 196) (.t 197), some (195, true), []⟩,
 ⟨.pick 199 (.t 195) (.t 198) (.c (.bool false)), none, []⟩] false)
 (.cond (.t 199) (.reg [⟨.mov 200 (.t 0), none, []⟩,
 ⟨.mov 201 (.t 1), none, []⟩,
 ⟨.mov 202 (.t 20), none, []⟩,
 ⟨.mov 203 (.t 18), none, []⟩,
 ⟨.mov 204 (.t 4), none, []⟩,
 ⟨.callT (some 205) (.c (.fn 183 [])) [(.t 200), (.t 201), (.t 202), (.t 203), (.t 204)], none, []⟩] false) (.skip)))
 (.seq (.reg [⟨.mov 206 (.t 18), none, []⟩,
 ⟨.mov 207 (.t 24), none, []⟩,
 ⟨.bin 208 .lss (.t 206) (.t 207), none, []⟩,
 ⟨.mov 209 (.t 208), none, []⟩,
 ⟨.mov 210 (.t 24), some (209, true), []⟩,
 ⟨.mov 211 (.t 3), some (209, true), []⟩,
 ⟨.bin 212 .lss (.t 210) (.t 211), some (209, true), []⟩,
 ⟨.pick 213 (.t 209) (.t 212) (.c (.bool false)), none, []⟩] false)
 (.cond (.t 213) (.reg [⟨.mov 214 (.t 0), none, []⟩,
 ⟨.mov 215 (.t 18), none, []⟩,
 ⟨.mov 216 (.t 24), none, []⟩,
 ⟨.mov 217 (.t 3), none, []⟩,
 ⟨.mov 218 (.t 4), none, []⟩,
 ⟨.callT (some 219) (.c (.fn 183 [])) [(.t 214), (.t 215), (.t 216), (.t 217), (.t 218)], none, []⟩] false) (.skip)))))))))))))
theorem ok183 : FnOK Tryz.prog 183 220 [] sc183 :=
 ⟨Tryz.call183, Tryz.f183, (Tryz.f183).body.getD .skip, Tryz.func183, by kernel_rfl, by kernel_rfl, by kernel_rfl, by kernel_rfl, by kernel_rfl⟩
/-- slices.Index[[]string,string] -/
def sc191 : SCode := .seq (.reg [⟨.mov 4 (.c (.int .i64 0)), none, []⟩] false)
 (.seq (.seq (.reg [⟨.mov 6 (.t 0), none, []⟩,
 ⟨.len 7 false (.t 6), none, []⟩,
 ⟨.mov 8 (.c (.int .i64 0)), none, []⟩] false)
 (.block 0 (.loop (.seq (.reg [⟨.bin 9 .lss (.t 8) (.t 7), none, []⟩] false)
 (.seq (.cond (.t 9) (.skip) (.exit 0))
 (.seq (.block 1 (.seq (.reg [⟨.mov 10 (.t 8), none, []⟩,
 ⟨.mov 5 (.t 10), none, []⟩] false)
 (.seq (.reg [⟨.mov 11 (.t 1), none, []⟩,
 ⟨.mov 12 (.t 0), none, []⟩,
 ⟨.mov 13 (.t 5), none, []⟩,
 ⟨.idx 14 (.t 12) (.t 13) 1, none, []⟩,
 ⟨.load 15 (.t 14) 1 false, none, []⟩,
 ⟨.bin 16 .eql (.t 11) (.t 15), none, []⟩] false)
 (.cond (.t 16) (.seq (.reg [⟨.mov 17 (.t 5), none, []⟩,
 ⟨.mov 4 (.t 17), none, []⟩] false)
 (.ret)) (.skip)))))
 (.reg [⟨.bin 18 .add (.t 8) (.c (.int .i64 1)), none, []⟩,
 ⟨.mov 8 (.t 18), none, []⟩] false)))))))
 (.seq (.reg [⟨.mov 4 (.c (.int .i64 (-1))), none, []⟩] false)
 (.ret)))
theorem ok191 : FnOK Tryz.prog 191 19 [.t 4] sc191 :=
 ⟨Tryz.call191, Tryz.f191, (Tryz.f191).body.getD .skip, Tryz.func191, by kernel_rfl, by kernel_rfl, by kernel_rfl, by kernel_rfl, by kernel_rfl⟩
/-- slices.rotateCmpFunc[assessor/api.Attempt] -/
def sc194 : SCode := .seq (.reg [⟨.mov 12 (.t 2), none, []⟩,
 ⟨.mov 13 (.t 1), none, []⟩,
 ⟨.bin 14 .sub (.t 12) (.t 13), none, []⟩,
 ⟨.mov 10 (.t 14), none, []⟩] false)
 (.seq (.reg [⟨.mov 15 (.t 3), none, []⟩,
 ⟨.mov 16 (.t 2), none, []⟩,
 ⟨.bin 17 .sub (.t 15) (.t 16), none, []⟩,
 ⟨.mov 11 (.t 17), none, []⟩] false)
 (.seq (.block 0 (.loop (.seq (.seq (.reg [⟨.mov 18 (.t 10), none, []⟩,
 ⟨.mov 19 (.t 11), none, []⟩,
 ⟨.bin 20 .neq (.t 18) (.t 19), none, []⟩] false)
 (.cond (.t 20) (.skip) (.exit 0)))
 (.block 1 (.seq (.reg [⟨.mov 21 (.t 10), none, []⟩,
 ⟨.mov 22 (.t 11), none, []⟩,
 ⟨.bin 23 .gtr (.t 21) (.t 22), none, []⟩] false)
 (.cond (.t 23) (.seq (.reg [⟨.mov 24 (.t 0), none, []⟩,
 ⟨.mov 25 (.t 2), none, []⟩,
 ⟨.mov 26 (.t 10), none, []⟩,
 ⟨.bin 27 .sub (.t 25) (.t 26), none, []⟩,
 ⟨.mov 28 (.t 2), none, []⟩,
 ⟨.mov 29 (.t 11), none, []⟩,
 ⟨.mov 30 (.t 4), none, []⟩,
 ⟨.callT (some 31) (.c (.fn 198 [])) [(.t 24), (.t 27), (.t 28), (.t 29), (.t 30)], none, []⟩] false)
 (.reg [⟨.mov 32 (.t 10), none, []⟩,
 ⟨.mov 33 (.t 11), none, []⟩,
 ⟨.bin 34 .sub (.t 32) (.t 33), none, []⟩,
 ⟨.mov 10 (.t 34), none, []⟩] false)) (.seq (.reg [⟨.mov 35 (.t 0), none, []⟩,
 ⟨.mov 36 (.t 2), none, []⟩,
 ⟨.mov 37 (.t 10), none, []⟩,
 ⟨.bin 38 .sub (.t 36) (.t 37), none, []⟩,
 ⟨.mov 39 (.t 2), none, []⟩,
 ⟨.mov 40 (.t 11), none, []⟩,
 ⟨.bin 41 .add (.t 39) (.t 40), none, []⟩,
 ⟨.mov 42 (.t 10), none, []⟩,
 ⟨.bin 43 .sub (.t 41) (.t 42), none, []⟩,
 ⟨.mov 44 (.t 10), none, []⟩,
 ⟨.mov 45 (.t 4), none, []⟩,
 ⟨.callT (some 46) (.c (.fn 198 [])) [(.t 35), (.t 38), (.t 43), (.t 44), (.t 45)], none, []⟩] false)
 (.reg [⟨.mov 47 (.t 11), none, []⟩,
 ⟨.mov 48 (.t 10), none, []⟩,
 ⟨.bin 49 .sub (.t 47) (.t 48), none, []⟩,
 ⟨.mov 11 (.t 49), none, []⟩] false))))))))
 (.reg [⟨.mov 50 (.t 0), none, []⟩,
 ⟨.mov 51 (.t 2), none, []⟩,
 ⟨.mov 52 (.t 10), none, []⟩,
 ⟨.bin 53 .sub (.t 51) (.t 52), none, []⟩,
 ⟨.mov 54 (.t 2), none, []⟩,
 ⟨.mov 55 (.t 10), none, []⟩,
 ⟨.mov 56 (.t 4), none, []⟩,
 ⟨.callT (some 57) (.c (.fn 198 [])) [(.t 50), (.t 53), (.t 54), (.t 55), (.t 56)], none, []⟩] false)))
theorem ok194 : FnOK Tryz.prog 194 58 [] sc194 :=
 ⟨Tryz.call194, Tryz.f194, (Tryz.f194).body.getD .skip, Tryz.func194, by kernel_rfl, by kernel_rfl, by kernel_rfl, by kernel_rfl, by kernel_rfl⟩
/-- slices.swapRangeCmpFunc[assessor/api.Attempt] -/
def sc198 : SCode := .seq (.reg [⟨.mov 10 (.c (.int .i64 0)), none, []⟩] false)
 (.block 0 (.loop (.seq (.seq (.reg [⟨.mov 11 (.t 10), none, []⟩,
 ⟨.mov 12 (.t 3), none, []⟩,
 ⟨.bin 13 .lss (.t 11) (.t 12), none, []⟩] false)
 (.cond (.t 13) (.skip) (.exit 0)))
 (.seq (.block 1 (.reg [⟨.mov 16 (.t 0), none, []⟩,
 ⟨.mov 17 (.t 1), none, []⟩,
 ⟨.mov 18 (.t 10), none, []⟩,
 ⟨.bin 19 .add (.t 17) (.t 18), none, [1, 2]⟩,
 ⟨.mov 20 (.t 0), none, []⟩,
 ⟨.mov 21 (.t 2), none, []⟩,
 ⟨.mov 22 (.t 10), none, []⟩,
 ⟨.bin 23 .add (.t 21) (.t 22), none, [5, 6]⟩,
 ⟨.mov 24 (.t 0), none, []⟩,
 ⟨.mov 25 (.t 2), none, []⟩,
 ⟨.mov 26 (.t 10), none, []⟩,
 ⟨.bin 27 .add (.t 25) (.t 26), none, [9, 10]⟩,
 ⟨.idx 28 (.t 24) (.t 27) 3, none, [8, 11]⟩,
 ⟨.load 29 (.t 28) 3 true, none, [12]⟩,
 ⟨.mov 30 (.t 0), none, []⟩,
 ⟨.mov 31 (.t 1), none, []⟩,
 ⟨.mov 32 (.t 10), none, []⟩,
 ⟨.bin 33 .add (.t 31) (.t 32), none, [15, 16]⟩,
 ⟨.idx 34 (.t 30) (.t 33) 3, none, [14, 17]⟩,
 ⟨.load 35 (.t 34) 3 true, none, [18]⟩,
 ⟨.idx 36 (.t 16) (.t 19) 3, none, [0, 3, 0, 1, 2, 3, 8, 9, 10, 11, 12, 13, 19]⟩,
 ⟨.store (.t 36) (.t 29) 3, none, [20, 13, 0, 1, 2, 3, 8, 9, 10, 11, 12, 13, 19]⟩,
 ⟨.idx 37 (.t 20) (.t 23) 3, none, [4, 7, 0, 1, 2, 3, 4, 5, 6, 7, 8, 9, 10, 11, 12, 13, 14, 15, 16, 17, 18, 19, 20, 21]⟩,
 ⟨.store (.t 37) (.t 35) 3, none, [22, 19, 21, 0, 1, 2, 3, 4, 5, 6, 7, 8, 9, 10, 11, 12, 13, 14, 15, 16, 17, 18, 19, 20, 21]⟩] true))
 (.reg [⟨.mov 14 (.t 10), none, []⟩,
 ⟨.bin 15 .add (.t 14) (.c (.int .i64 1)), none, []⟩,
 ⟨.mov 10 (.t 15), none, []⟩] false)))))
theorem ok198 : FnOK Tryz.prog 198 38 [] sc198 :=
 ⟨Tryz.call198, Tryz.f198, (Tryz.f198).body.getD .skip, Tryz.func198, by kernel_rfl, by kernel_rfl, by kernel_rfl, by kernel_rfl, by kernel_rfl⟩
end Go.Proofs
end
/- part GBook -/
section
namespace Go.Proofs
open Go.Av
/-- assessor/book.Apply -/
def sc14 : SCode := .seq (.reg [⟨.box 2 31 2 (.t 0), none, []⟩,
 ⟨.box 3 26 9 (.t 1), none, []⟩,
 ⟨.alloc 4 31 [.int .i64 0, .nils], none, []⟩,
 ⟨.mov 5 (.c (.int .i64 0)), none, []⟩] false)
 (.seq (.seq (.reg [⟨.load 8 (.t 2) 2 true, none, []⟩,
 ⟨.callT (some 9) (.c (.fn 32 [])) [(.t 8)], none, []⟩,
 ⟨.not 10 (.t 9), none, []⟩,
 ⟨.mov 11 (.t 10), none, []⟩,
 ⟨.load 12 (.t 3) 9 true, some (11, false), []⟩,
 ⟨.callT (some 13) (.c (.fn 18 [])) [(.t 12)], some (11, false), []⟩,
 ⟨.not 14 (.t 13), some (11, false), []⟩,
 ⟨.pick 15 (.t 11) (.c (.bool true)) (.t 14), none, []⟩] false)
 (.cond (.t 15) (.seq (.reg [⟨.build 16 [.int .i64 0, .nils] [], none, []⟩,
 ⟨.store (.t 4) (.t 16) 2, none, []⟩,
 ⟨.mov 5 (.c (.int .i64 1)), none, []⟩] false)
 (.ret)) (.skip)))
 (.seq (.reg [⟨.load 17 (.t 2) 2 true, none, []⟩,
 ⟨.callT (some 18) (.c (.fn 44 [])) [(.t 17)], none, []⟩,
 ⟨.build 19 [.int .i64 0, .nils] [(0, 2, (.t 18))], none, []⟩,
 ⟨.box 20 76 2 (.t 19), none, []⟩,
 ⟨.mov 6 (.t 20), none, []⟩] false)
 (.seq (.seq (.reg [⟨.mov 21 (.t 6), none, []⟩,
 ⟨.load 22 (.t 3) 9 true, none, []⟩,
 ⟨.callT (some 23) (.c (.fn 45 [])) [(.t 21), (.t 22)], none, []⟩,
 ⟨.mov 7 (.t 23), none, []⟩] false)
 (.seq (.reg [⟨.mov 24 (.t 7), none, []⟩,
 ⟨.bin 25 .neq (.t 24) (.c (.int .i64 0)), none, []⟩] false)
 (.cond (.t 25) (.seq (.reg [⟨.build 26 [.int .i64 0, .nils] [], none, []⟩,
 ⟨.mov 27 (.t 7), none, []⟩,
 ⟨.store (.t 4) (.t 26) 2, none, []⟩,
 ⟨.mov 5 (.t 27), none, []⟩] false)
 (.ret)) (.skip))))
 (.seq (.reg [⟨.mov 28 (.t 6), none, []⟩,
 ⟨.nilc (some 29) (.t 28), none, []⟩,
 ⟨.fad 30 (.t 29) 0, none, []⟩,
 ⟨.load 31 (.t 30) 2 true, none, []⟩,
 ⟨.store (.t 4) (.t 31) 2, none, []⟩,
 ⟨.mov 5 (.c (.int .i64 0)), none, []⟩] false)
 (.ret)))))
theorem ok14 : FnOK Tryz.prog 14 32 [.c 4 2 true, .t 5] sc14 :=
 ⟨Tryz.call14, Tryz.f14, (Tryz.f14).body.getD .skip, Tryz.func14, by kernel_rfl, by kernel_rfl, by kernel_rfl, by kernel_rfl, by kernel_rfl⟩
/-- assessor/book.ValidEvent -/
def sc18 : SCode := .seq (.reg [⟨.box 1 26 9 (.t 0), none, []⟩,
 ⟨.mov 2 (.c (.bool false)), none, []⟩] false)
 (.seq (.seq (.reg [⟨.fad 3 (.t 1) 0, none, []⟩,
 ⟨.load 4 (.t 3) 1 false, none, []⟩,
 ⟨.bin 5 .lss (.t 4) (.c (.int .i64 0)), none, []⟩,
 ⟨.mov 6 (.t 5), none, []⟩,
 ⟨.fad 7 (.t 1) 0, some (6, false), []⟩,
 ⟨.load 8 (.t 7) 1 false, some (6, false), []⟩,
 ⟨.bin 9 .gtr (.t 8) (.c (.int .i64 3)), some (6, false), []⟩,
 ⟨.pick 10 (.t 6) (.c (.bool true)) (.t 9), none, []⟩,
 ⟨.mov 11 (.t 10), none, []⟩,
 ⟨.fad 12 (.t 1) 1, some (11, false), []⟩,
 ⟨.load 13 (.t 12) 3 true, some (11, false), []⟩,
 ⟨.callT (some 14) (.c (.fn 47 [])) [(.t 13)], some (11, false), []⟩,
 ⟨.not 15 (.t 14), some (11, false), []⟩,
 ⟨.pick 16 (.t 11) (.c (.bool true)) (.t 15), none, []⟩,
 ⟨.mov 17 (.t 16), none, []⟩,
 ⟨.fad 18 (.t 1) 4, some (17, false), []⟩,
 ⟨.load 19 (.t 18) 1 false, some (17, false), []⟩,
 ⟨.bin 20 .lss (.t 19) (.c (.int .i64 0)), some (17, false), []⟩,
 ⟨.pick 21 (.t 17) (.c (.bool true)) (.t 20), none, []⟩,
 ⟨.mov 22 (.t 21), none, []⟩,
 ⟨.fad 23 (.t 1) 4, some (22, false), []⟩,
 ⟨.load 24 (.t 23) 1 false, some (22, false), []⟩,
 ⟨.bin 25 .gtr (.t 24) (.c (.int .i64 1099511627776)), some (22, false), []⟩,
 ⟨.pick 26 (.t 22) (.c (.bool true)) (.t 25), none, []⟩,
 ⟨.mov 27 (.t 26), none, []⟩,
 ⟨.fad 28 (.t 1) 7, some (27, false), []⟩,
 ⟨.load 29 (.t 28) 1 false, some (27, false), []⟩,
 ⟨.len 30 true (.t 29), some (27, false), []⟩,
 ⟨.bin 31 .gtr (.t 30) (.c (.int .i64 4096)), some (27, false), []⟩,
 ⟨.pick 32 (.t 27) (.c (.bool true)) (.t 31), none, []⟩] false)
 (.cond (.t 32) (.seq (.reg [⟨.mov 2 (.c (.bool false)), none, []⟩] false)
 (.ret)) (.skip)))
 (.seq (.seq (.reg [⟨.fad 33 (.t 1) 0, none, []⟩,
 ⟨.load 34 (.t 33) 1 false, none, []⟩,
 ⟨.bin 35 .eql (.t 34) (.c (.int .i64 1)), none, []⟩] false)
 (.cond (.t 35) (.seq (.reg [⟨.fad 36 (.t 1) 5, none, []⟩,
 ⟨.load 37 (.t 36) 1 false, none, []⟩,
 ⟨.bin 38 .geq (.t 37) (.c (.int .i64 1)), none, []⟩,
 ⟨.mov 39 (.t 38), none, []⟩,
 ⟨.fad 40 (.t 1) 5, some (39, true), []⟩,
 ⟨.load 41 (.t 40) 1 false, some (39, true), []⟩,
 ⟨.bin 42 .leq (.t 41) (.c (.int .i64 1048576)), some (39, true), []⟩,
 ⟨.pick 43 (.t 39) (.t 42) (.c (.bool false)), none, []⟩,
 ⟨.mov 44 (.t 43), none, []⟩,
 ⟨.fad 45 (.t 1) 6, some (44, true), []⟩,
 ⟨.load 46 (.t 45) 1 false, some (44, true), []⟩,
 ⟨.bin 47 .geq (.t 46) (.c (.int .i64 0)), some (44, true), []⟩,
 ⟨.pick 48 (.t 44) (.t 47) (.c (.bool false)), none, []⟩,
 ⟨.mov 49 (.t 48), none, []⟩,
 ⟨.fad 50 (.t 1) 6, some (49, true), []⟩,
 ⟨.load 51 (.t 50) 1 false, some (49, true), []⟩,
 ⟨.bin 52 .leq (.t 51) (.c (.int .i64 100000000)), some (49, true), []⟩,
 ⟨.pick 53 (.t 49) (.t 52) (.c (.bool false)), none, []⟩,
 ⟨.mov 54 (.t 53), none, []⟩,
 ⟨.fad 55 (.t 1) 8, some (54, true), []⟩,
 ⟨.load 56 (.t 55) 1 false, some (54, true), []⟩,
 ⟨.not 57 (.t 56), some (54, true), []⟩,
 ⟨.pick 58 (.t 54) (.t 57) (.c (.bool false)), none, []⟩,
 ⟨.mov 2 (.t 58), none, []⟩] false)
 (.ret)) (.skip)))
 (.seq (.reg [⟨.fad 59 (.t 1) 5, none, []⟩,
 ⟨.load 60 (.t 59) 1 false, none, []⟩,
 ⟨.bin 61 .eql (.t 60) (.c (.int .i64 0)), none, []⟩,
 ⟨.mov 62 (.t 61), none, []⟩,
 ⟨.fad 63 (.t 1) 6, some (62, true), []⟩,
 ⟨.load 64 (.t 63) 1 false, some (62, true), []⟩,
 ⟨.bin 65 .eql (.t 64) (.c (.int .i64 0)), some (62, true), []⟩,
 ⟨.pick 66 (.t 62) (.t 65) (.c (.bool false)), none, []⟩,
 ⟨.mov 67 (.t 66), none, []⟩,
 ⟨.fad 68 (.t 1) 8, some (67, true), []⟩,
 ⟨.load 69 (.t 68) 1 false, some (67, true), []⟩,
 ⟨.not 70 (.t 69), some (67, true), []⟩,
 ⟨.mov 71 (.t 70), some (67, true), []⟩,
 ⟨.fad 72 (.t 1) 0, some (71, false), []⟩,
 ⟨.load 73 (.t 72) 1 false, some (71, false), []⟩,
 ⟨.bin 74 .eql (.t 73) (.c (.int .i64 3)), some (71, false), []⟩,
 ⟨.pick 75 (.t 71) (.c (.bool true)) (.t 74), some (67, true), []⟩,
 ⟨.pick 76 (.t 67) (.t 75) (.c (.bool false)), none, []⟩,
 ⟨.mov 2 (.t 76), none, []⟩] false)
 (.ret))))
theorem ok18 : FnOK Tryz.prog 18 77 [.t 2] sc18 :=
 ⟨Tryz.call18, Tryz.f18, (Tryz.f18).body.getD .skip, Tryz.func18, by kernel_rfl, by kernel_rfl, by kernel_rfl, by kernel_rfl, by kernel_rfl⟩
/-- assessor/book.Find -/
def sc22 : SCode := .seq (.reg [⟨.box 2 31 2 (.t 0), none, []⟩,
 ⟨.box 3 24 3 (.t 1), none, []⟩,
 ⟨.mov 4 (.c (.int .i64 0)), none, []⟩] false)
 (.seq (.reg [⟨.fad 5 (.t 2) 1, none, []⟩,
 ⟨.load 6 (.t 5) 1 false, none, []⟩,
 ⟨.mkf 7 52 [(.t 3)], none, []⟩,
 ⟨.callT (some 8) (.c (.fn 51 [])) [(.t 6), (.t 7)], none, []⟩,
 ⟨.mov 4 (.t 8), none, []⟩] false)
 (.ret))
theorem ok22 : FnOK Tryz.prog 22 9 [.t 4] sc22 :=
 ⟨Tryz.call22, Tryz.f22, (Tryz.f22).body.getD .skip, Tryz.func22, by kernel_rfl, by kernel_rfl, by kernel_rfl, by kernel_rfl, by kernel_rfl⟩
/-- assessor/book.Points -/
def sc25 : SCode := .seq (.reg [⟨.box 4 31 2 (.t 0), none, []⟩,
 ⟨.box 7 52 4 (.t 3), none, []⟩,
 ⟨.mov 8 (.c (.int .i64 0)), none, []⟩,
 ⟨.mov 9 (.c (.int .i64 0)), none, []⟩] false)
 (.seq (.seq (.reg [⟨.load 14 (.t 4) 2 true, none, []⟩,
 ⟨.callT (some 15) (.c (.fn 32 [])) [(.t 14)], none, []⟩,
 ⟨.not 16 (.t 15), none, []⟩] false)
 (.cond (.t 16) (.seq (.reg [⟨.mov 8 (.c (.int .i64 0)), none, []⟩,
 ⟨.mov 9 (.c (.int .i64 1)), none, []⟩] false)
 (.ret)) (.skip)))
 (.seq (.reg [⟨.mov 10 (.c (.nils)), none, []⟩] false)
 (.seq (.seq (.reg [⟨.fad 17 (.t 4) 1, none, []⟩,
 ⟨.load 18 (.t 17) 1 false, none, []⟩,
 ⟨.len 19 false (.t 18), none, []⟩,
 ⟨.mov 20 (.c (.int .i64 0)), none, []⟩] false)
 (.block 0 (.loop (.seq (.reg [⟨.bin 21 .lss (.t 20) (.t 19), none, []⟩] false)
 (.seq (.cond (.t 21) (.skip) (.exit 0))
 (.seq (.block 1 (.seq (.reg [⟨.idx 22 (.t 18) (.t 20) 7, none, []⟩,
 ⟨.load 23 (.t 22) 7 true, none, []⟩,
 ⟨.alloc 12 39 [.str [], .str [], .int .i64 0, .int .i64 0, .str [], .nils, .nils], none, []⟩,
 ⟨.store (.t 12) (.t 23) 7, none, []⟩] false)
 (.seq (.reg [⟨.fad 24 (.t 12) 5, none, []⟩,
 ⟨.load 25 (.t 24) 1 false, none, []⟩,
 ⟨.len 26 false (.t 25), none, []⟩,
 ⟨.mov 13 (.t 26), none, []⟩] false)
 (.seq (.reg [⟨.mov 27 (.t 13), none, []⟩,
 ⟨.bin 28 .gtr (.t 27) (.c (.int .i64 0)), none, []⟩,
 ⟨.mov 29 (.t 28), none, []⟩,
 ⟨.fad 30 (.t 12) 0, some (29, true), []⟩,
 ⟨.fad 31 (.t 30) 0, some (29, true), []⟩,
 ⟨.load 32 (.t 31) 1 false, some (29, true), []⟩,
 ⟨.mov 33 (.t 1), some (29, true), []⟩,
 ⟨.bin 34 .eql (.t 32) (.t 33), some (29, true), []⟩,
 ⟨.pick 35 (.t 29) (.t 34) (.c (.bool false)), none, []⟩,
 ⟨.mov 36 (.t 35), none, []⟩,
 ⟨.fad 37 (.t 12) 0, some (36, true), []⟩,
 ⟨.fad 38 (.t 37) 1, some (36, true), []⟩,
 ⟨.load 39 (.t 38) 1 false, some (36, true), []⟩,
 ⟨.mov 40 (.t 2), some (36, true), []⟩,
 ⟨.bin 41 .eql (.t 39) (.t 40), some (36, true), []⟩,
 ⟨.pick 42 (.t 36) (.t 41) (.c (.bool false)), none, []⟩] false)
 (.cond (.t 42) (.reg [⟨.mov 43 (.t 10), none, []⟩,
 ⟨.mov 44 (.t 10), none, []⟩,
 ⟨.len 45 false (.t 44), none, [1]⟩,
 ⟨.bin 46 .add (.t 45) (.c (.int .i64 1)), none, [2]⟩,
 ⟨.fad 47 (.t 12) 3, none, []⟩,
 ⟨.load 48 (.t 47) 1 false, none, [4]⟩,
 ⟨.fad 49 (.t 12) 5, none, []⟩,
 ⟨.load 50 (.t 49) 1 false, none, [6]⟩,
 ⟨.mov 51 (.t 13), none, []⟩,
 ⟨.bin 52 .sub (.t 51) (.c (.int .i64 1)), none, [8]⟩,
 ⟨.idx 53 (.t 50) (.t 52) 4, none, [7, 9]⟩,
 ⟨.fad 54 (.t 53) 1, none, [10]⟩,
 ⟨.load 55 (.t 54) 1 false, none, [11]⟩,
 ⟨.build 56 [.int .i64 0, .int .i64 0, .int .i64 0] [(0, 1, (.t 46)), (1, 1, (.t 48)), (2, 1, (.t 55))], none, [3, 5, 12]⟩,
 ⟨.bsl 57 57 3 1 [(0, (.t 56))], none, [13]⟩,
 ⟨.app 58 57 3 24 (.t 43) (.t 57), none, [0, 14]⟩,
 ⟨.mov 10 (.t 58), none, [15, 15, 0, 1, 2, 3, 4, 5, 6, 7, 8, 9, 10, 11, 12, 13, 14, 15]⟩] true) (.skip))))))
 (.reg [⟨.bin 59 .add (.t 20) (.c (.int .i64 1)), none, []⟩,
 ⟨.mov 20 (.t 59), none, []⟩] false)))))))
 (.seq (.reg [⟨.load 60 (.t 7) 4 true, none, []⟩,
 ⟨.mov 61 (.t 10), none, []⟩,
 ⟨.callT (some 62) (.c (.fn 54 [])) [(.t 60), (.t 61)], none, []⟩,
 ⟨.ext 63 (.t 62) 0, none, []⟩,
 ⟨.ext 64 (.t 62) 1, none, []⟩,
 ⟨.mov 8 (.t 63), none, []⟩,
 ⟨.mov 9 (.t 64), none, []⟩] false)
 (.ret)))))
theorem ok25 : FnOK Tryz.prog 25 65 [.t 8, .t 9] sc25 :=
 ⟨Tryz.call25, Tryz.f25, (Tryz.f25).body.getD .skip, Tryz.func25, by kernel_rfl, by kernel_rfl, by kernel_rfl, by kernel_rfl, by kernel_rfl⟩
/-- assessor/book.Student -/
def sc27 : SCode := .seq (.reg [⟨.box 2 31 2 (.t 0), none, []⟩,
 ⟨.alloc 4 31 [.int .i64 0, .nils], none, []⟩] false)
 (.seq (.reg [⟨.alloc 5 31 [.int .i64 0, .nils], none, []⟩] false)
 (.seq (.seq (.reg [⟨.load 10 (.t 2) 2 true, none, []⟩,
 ⟨.callT (some 11) (.c (.fn 32 [])) [(.t 10)], none, []⟩,
 ⟨.not 12 (.t 11), none, []⟩] false)
 (.cond (.t 12) (.seq (.reg [⟨.load 13 (.t 5) 2 true, none, []⟩,
 ⟨.store (.t 4) (.t 13) 2, none, []⟩] false)
 (.ret)) (.skip)))
 (.seq (.seq (.reg [⟨.load 14 (.t 2) 2 true, none, []⟩,
 ⟨.callT (some 15) (.c (.fn 44 [])) [(.t 14)], none, []⟩,
 ⟨.fld 16 (.t 15) 1 1 false, none, []⟩,
 ⟨.len 17 false (.t 16), none, []⟩,
 ⟨.mov 18 (.c (.int .i64 0)), none, []⟩] false)
 (.block 0 (.loop (.seq (.reg [⟨.bin 19 .lss (.t 18) (.t 17), none, []⟩] false)
 (.seq (.cond (.t 19) (.skip) (.exit 0))
 (.seq (.block 1 (.seq (.reg [⟨.idx 20 (.t 16) (.t 18) 7, none, []⟩,
 ⟨.load 21 (.t 20) 7 true, none, []⟩,
 ⟨.alloc 7 39 [.str [], .str [], .int .i64 0, .int .i64 0, .str [], .nils, .nils], none, []⟩,
 ⟨.store (.t 7) (.t 21) 7, none, []⟩] false)
 (.seq (.reg [⟨.fad 22 (.t 7) 0, none, []⟩,
 ⟨.fad 23 (.t 22) 0, none, []⟩,
 ⟨.load 24 (.t 23) 1 false, none, []⟩,
 ⟨.mov 25 (.t 1), none, []⟩,
 ⟨.bin 26 .eql (.t 24) (.t 25), none, []⟩] false)
 (.cond (.t 26) (.reg [⟨.fad 27 (.t 5) 1, none, []⟩,
 ⟨.load 28 (.t 27) 1 false, none, []⟩,
 ⟨.load 29 (.t 7) 7 true, none, []⟩,
 ⟨.bsl 30 39 7 1 [(0, (.t 29))], none, []⟩,
 ⟨.app 31 39 7 112 (.t 28) (.t 30), none, []⟩,
 ⟨.fad 32 (.t 5) 1, none, []⟩,
 ⟨.store (.t 32) (.t 31) 1, none, []⟩] false) (.skip)))))
 (.reg [⟨.bin 33 .add (.t 18) (.c (.int .i64 1)), none, []⟩,
 ⟨.mov 18 (.t 33), none, []⟩] false)))))))
 (.seq (.seq (.reg [⟨.load 34 (.t 5) 2 true, none, []⟩,
 ⟨.callT (some 35) (.c (.fn 53 [])) [(.t 34)], none, []⟩,
 ⟨.len 36 false (.t 35), none, []⟩,
 ⟨.mov 37 (.c (.int .i64 0)), none, []⟩] false)
 (.block 2 (.loop (.seq (.reg [⟨.bin 38 .lss (.t 37) (.t 36), none, []⟩] false)
 (.seq (.cond (.t 38) (.skip) (.exit 2))
 (.seq (.block 3 (.seq (.reg [⟨.idx 39 (.t 35) (.t 37) 9, none, []⟩,
 ⟨.load 40 (.t 39) 9 true, none, []⟩,
 ⟨.alloc 9 26 [.int .i64 0, .str [], .str [], .int .i64 0, .int .i64 0, .int .i64 0, .int .i64 0, .str [], .bool false], none, []⟩,
 ⟨.store (.t 9) (.t 40) 9, none, []⟩] false)
 (.reg [⟨.fad 41 (.t 5) 0, none, []⟩,
 ⟨.load 42 (.t 41) 1 false, none, []⟩,
 ⟨.fad 43 (.t 9) 4, none, []⟩,
 ⟨.load 44 (.t 43) 1 false, none, []⟩,
 ⟨.mx 45 (.t 42) (.t 44), none, []⟩,
 ⟨.fad 46 (.t 5) 0, none, []⟩,
 ⟨.store (.t 46) (.t 45) 1, none, []⟩] false)))
 (.reg [⟨.bin 47 .add (.t 37) (.c (.int .i64 1)), none, []⟩,
 ⟨.mov 37 (.t 47), none, []⟩] false)))))))
 (.seq (.reg [⟨.load 48 (.t 5) 2 true, none, []⟩,
 ⟨.store (.t 4) (.t 48) 2, none, []⟩] false)
 (.ret))))))
theorem ok27 : FnOK Tryz.prog 27 49 [.c 4 2 true] sc27 :=
 ⟨Tryz.call27, Tryz.f27, (Tryz.f27).body.getD .skip, Tryz.func27, by kernel_rfl, by kernel_rfl, by kernel_rfl, by kernel_rfl, by kernel_rfl⟩
/-- assessor/book.Valid -/
def sc32 : SCode := .seq (.reg [⟨.box 1 31 2 (.t 0), none, []⟩,
 ⟨.mov 2 (.c (.bool false)), none, []⟩] false)
 (.seq (.seq (.reg [⟨.fad 6 (.t 1) 1, none, []⟩,
 ⟨.load 7 (.t 6) 1 false, none, []⟩,
 ⟨.len 8 false (.t 7), none, []⟩,
 ⟨.bin 9 .gtr (.t 8) (.c (.int .i64 256)), none, []⟩] false)
 (.cond (.t 9) (.seq (.reg [⟨.mov 2 (.c (.bool false)), none, []⟩] false)
 (.ret)) (.skip)))
 (.seq (.reg [⟨.build 10 [.int .i64 0, .nils] [], none, []⟩,
 ⟨.box 11 76 2 (.t 10), none, []⟩,
 ⟨.mov 3 (.t 11), none, []⟩] false)
 (.seq (.seq (.reg [⟨.load 12 (.t 1) 2 true, none, []⟩,
 ⟨.callT (some 13) (.c (.fn 53 [])) [(.t 12)], none, []⟩,
 ⟨.len 14 false (.t 13), none, []⟩,
 ⟨.mov 15 (.c (.int .i64 0)), none, []⟩] false)
 (.block 0 (.loop (.seq (.reg [⟨.bin 16 .lss (.t 15) (.t 14), none, []⟩] false)
 (.seq (.cond (.t 16) (.skip) (.exit 0))
 (.seq (.block 1 (.seq (.reg [⟨.idx 17 (.t 13) (.t 15) 9, none, []⟩,
 ⟨.load 18 (.t 17) 9 true, none, []⟩,
 ⟨.alloc 5 26 [.int .i64 0, .str [], .str [], .int .i64 0, .int .i64 0, .int .i64 0, .int .i64 0, .str [], .bool false], none, []⟩,
 ⟨.store (.t 5) (.t 18) 9, none, []⟩] false)
 (.seq (.reg [⟨.load 19 (.t 5) 9 true, none, []⟩,
 ⟨.callT (some 20) (.c (.fn 18 [])) [(.t 19)], none, []⟩,
 ⟨.not 21 (.t 20), none, []⟩,
 ⟨.mov 22 (.t 21), none, []⟩,
 ⟨.mov 23 (.t 3), some (22, false), []⟩,
 ⟨.load 24 (.t 5) 9 true, some (22, false), []⟩,
 ⟨.callT (some 25) (.c (.fn 45 [])) [(.t 23), (.t 24)], some (22, false), []⟩,
 ⟨.bin 26 .neq (.t 25) (.c (.int .i64 0)), some (22, false), []⟩,
 ⟨.pick 27 (.t 22) (.c (.bool true)) (.t 26), none, []⟩] false)
 (.cond (.t 27) (.seq (.reg [⟨.mov 2 (.c (.bool false)), none, []⟩] false)
 (.ret)) (.skip)))))
 (.reg [⟨.bin 28 .add (.t 15) (.c (.int .i64 1)), none, []⟩,
 ⟨.mov 15 (.t 28), none, []⟩] false)))))))
 (.seq (.reg [⟨.mov 29 (.t 3), none, []⟩,
 ⟨.nilc (some 30) (.t 29), none, [0]⟩,
 ⟨.fad 31 (.t 30) 0, none, [1]⟩,
 ⟨.load 32 (.t 31) 2 true, none, [2]⟩,
 ⟨.load 33 (.t 1) 2 true, none, []⟩,
 ⟨.callT (some 34) (.c (.fn 37 [])) [(.t 32), (.t 33)], none, [3, 4]⟩,
 ⟨.mov 2 (.t 34), none, [5, 5, 0, 1, 2, 3, 4, 5]⟩] true)
 (.ret)))))
theorem ok32 : FnOK Tryz.prog 32 35 [.t 2] sc32 :=
 ⟨Tryz.call32, Tryz.f32, (Tryz.f32).body.getD .skip, Tryz.func32, by kernel_rfl, by kernel_rfl, by kernel_rfl, by kernel_rfl, by kernel_rfl⟩
/-- assessor/book.Same -/
def sc37 : SCode := .seq (.reg [⟨.box 2 31 2 (.t 0), none, []⟩,
 ⟨.box 3 31 2 (.t 1), none, []⟩,
 ⟨.mov 4 (.c (.bool false)), none, []⟩] false)
 (.seq (.reg [⟨.fad 5 (.t 2) 0, none, []⟩,
 ⟨.load 6 (.t 5) 1 false, none, []⟩,
 ⟨.fad 7 (.t 3) 0, none, []⟩,
 ⟨.load 8 (.t 7) 1 false, none, []⟩,
 ⟨.bin 9 .eql (.t 6) (.t 8), none, []⟩,
 ⟨.mov 10 (.t 9), none, []⟩,
 ⟨.fad 11 (.t 2) 1, some (10, true), []⟩,
 ⟨.load 12 (.t 11) 1 false, some (10, true), []⟩,
 ⟨.fad 13 (.t 3) 1, some (10, true), []⟩,
 ⟨.load 14 (.t 13) 1 false, some (10, true), []⟩,
 ⟨.callT (some 15) (.c (.fn 64 [])) [(.t 12), (.t 14), (.c (.fn 65 []))], some (10, true), []⟩,
 ⟨.pick 16 (.t 10) (.t 15) (.c (.bool false)), none, []⟩,
 ⟨.mov 4 (.t 16), none, []⟩] false)
 (.ret))
theorem ok37 : FnOK Tryz.prog 37 17 [.t 4] sc37 :=
 ⟨Tryz.call37, Tryz.f37, (Tryz.f37).body.getD .skip, Tryz.func37, by kernel_rfl, by kernel_rfl, by kernel_rfl, by kernel_rfl, by kernel_rfl⟩
/-- assessor/book.EncodeEvent -/
def sc38 : SCode := .seq (.reg [⟨.box 1 26 9 (.t 0), none, []⟩,
 ⟨.mov 2 (.c (.str [])), none, []⟩,
 ⟨.mov 3 (.c (.int .i64 0)), none, []⟩] false)
 (.seq (.seq (.reg [⟨.load 6 (.t 1) 9 true, none, []⟩,
 ⟨.callT (some 7) (.c (.fn 18 [])) [(.t 6)], none, []⟩,
 ⟨.not 8 (.t 7), none, []⟩] false)
 (.cond (.t 8) (.seq (.reg [⟨.mov 2 (.c (.str [])), none, []⟩,
 ⟨.mov 3 (.c (.int .i64 1)), none, []⟩] false)
 (.ret)) (.skip)))
 (.seq (.reg [⟨.mov 4 (.c (.str [48])), none, []⟩] false)
 (.seq (.seq (.reg [⟨.fad 9 (.t 1) 8, none, []⟩,
 ⟨.load 10 (.t 9) 1 false, none, []⟩] false)
 (.cond (.t 10) (.reg [⟨.mov 4 (.c (.str [49])), none, []⟩] false) (.skip)))
 (.seq (.reg [⟨.mov 5 (.c (.fn 67 [])), none, []⟩] false)
 (.seq (.reg [⟨.mov 11 (.t 5), none, []⟩,
 ⟨.fad 12 (.t 1) 0, none, []⟩,
 ⟨.load 13 (.t 12) 1 false, none, [1]⟩,
 ⟨.callT (some 14) (.t 11) [(.t 13)], none, [0, 2]⟩,
 ⟨.fad 15 (.t 1) 1, none, []⟩,
 ⟨.fad 16 (.t 15) 0, none, [4]⟩,
 ⟨.load 17 (.t 16) 1 false, none, [5]⟩,
 ⟨.fad 18 (.t 1) 1, none, []⟩,
 ⟨.fad 19 (.t 18) 1, none, [7]⟩,
 ⟨.load 20 (.t 19) 1 false, none, [8]⟩,
 ⟨.mov 21 (.t 5), none, []⟩,
 ⟨.fad 22 (.t 1) 1, none, []⟩,
 ⟨.fad 23 (.t 22) 2, none, [11]⟩,
 ⟨.load 24 (.t 23) 1 false, none, [12]⟩,
 ⟨.callT (some 25) (.t 21) [(.t 24)], none, [10, 13, 3]⟩,
 ⟨.mov 26 (.t 5), none, []⟩,
 ⟨.fad 27 (.t 1) 4, none, []⟩,
 ⟨.load 28 (.t 27) 1 false, none, [16]⟩,
 ⟨.callT (some 29) (.t 26) [(.t 28)], none, [15, 17, 14]⟩,
 ⟨.mov 30 (.t 5), none, []⟩,
 ⟨.fad 31 (.t 1) 5, none, []⟩,
 ⟨.load 32 (.t 31) 1 false, none, [20]⟩,
 ⟨.callT (some 33) (.t 30) [(.t 32)], none, [19, 21, 18]⟩,
 ⟨.mov 34 (.t 5), none, []⟩,
 ⟨.fad 35 (.t 1) 6, none, []⟩,
 ⟨.load 36 (.t 35) 1 false, none, [24]⟩,
 ⟨.callT (some 37) (.t 34) [(.t 36)], none, [23, 25, 22]⟩,
 ⟨.fad 38 (.t 1) 7, none, []⟩,
 ⟨.load 39 (.t 38) 1 false, none, [27]⟩,
 ⟨.mov 40 (.t 4), none, []⟩,
 ⟨.bsl 41 9 1 9 [(0, (.t 14)), (1, (.t 17)), (2, (.t 20)), (3, (.t 25)), (4, (.t 29)), (5, (.t 33)), (6, (.t 37)), (7, (.t 39)), (8, (.t 40))], none, [3, 6, 9, 14, 18, 22, 26, 28, 29]⟩,
 ⟨.callT (some 42) (.c (.fn 58 [])) [(.t 41)], none, [30, 26]⟩,
 ⟨.ext 43 (.t 42) 0, none, [31]⟩,
 ⟨.ext 44 (.t 42) 1, none, [31]⟩,
 ⟨.mov 2 (.t 43), none, [32, 31, 0, 1, 2, 3, 4, 5, 6, 7, 8, 9, 10, 11, 12, 13, 14, 15, 16, 17, 18, 19, 20, 21, 22, 23, 24, 25, 26, 27, 28, 29, 30, 31, 32, 33]⟩,
 ⟨.mov 3 (.t 44), none, [33, 34, 0, 1, 2, 3, 4, 5, 6, 7, 8, 9, 10, 11, 12, 13, 14, 15, 16, 17, 18, 19, 20, 21, 22, 23, 24, 25, 26, 27, 28, 29, 30, 31, 32, 33, 34]⟩] true)
 (.ret))))))
theorem ok38 : FnOK Tryz.prog 38 45 [.t 2, .t 3] sc38 :=
 ⟨Tryz.call38, Tryz.f38, (Tryz.f38).body.getD .skip, Tryz.func38, by kernel_rfl, by kernel_rfl, by kernel_rfl, by kernel_rfl, by kernel_rfl⟩
/-- assessor/book.clone -/
def sc44 : SCode := .seq (.reg [⟨.box 1 31 2 (.t 0), none, []⟩,
 ⟨.alloc 2 31 [.int .i64 0, .nils], none, []⟩] false)
 (.seq (.reg [⟨.fad 5 (.t 1) 1, none, []⟩,
 ⟨.load 6 (.t 5) 1 false, none, []⟩,
 ⟨.len 7 false (.t 6), none, []⟩,
 ⟨.mks 8 39 7 112 (.t 7) (.t 7) [.str [], .str [], .int .i64 0, .int .i64 0, .str [], .nils, .nils], none, []⟩,
 ⟨.mov 3 (.t 8), none, []⟩] false)
 (.seq (.reg [⟨.mov 9 (.t 3), none, []⟩,
 ⟨.fad 10 (.t 1) 1, none, []⟩,
 ⟨.load 11 (.t 10) 1 false, none, []⟩,
 ⟨.copy 12 7 (.t 9) (.t 11), none, []⟩] false)
 (.seq (.reg [⟨.mov 13 (.t 3), none, []⟩,
 ⟨.fad 14 (.t 1) 1, none, []⟩,
 ⟨.store (.t 14) (.t 13) 1, none, []⟩] false)
 (.seq (.seq (.reg [⟨.fad 15 (.t 1) 1, none, []⟩,
 ⟨.load 16 (.t 15) 1 false, none, []⟩,
 ⟨.len 17 false (.t 16), none, []⟩,
 ⟨.mov 18 (.c (.int .i64 0)), none, []⟩] false)
 (.block 0 (.loop (.seq (.reg [⟨.bin 19 .lss (.t 18) (.t 17), none, []⟩] false)
 (.seq (.cond (.t 19) (.skip) (.exit 0))
 (.seq (.block 1 (.seq (.reg [⟨.mov 20 (.t 18), none, []⟩,
 ⟨.mov 4 (.t 20), none, []⟩] false)
 (.seq (.reg [⟨.fad 21 (.t 1) 1, none, []⟩,
 ⟨.load 22 (.t 21) 1 false, none, [0]⟩,
 ⟨.mov 23 (.t 4), none, []⟩,
 ⟨.fad 24 (.t 1) 1, none, []⟩,
 ⟨.load 25 (.t 24) 1 false, none, [3]⟩,
 ⟨.mov 26 (.t 4), none, []⟩,
 ⟨.idx 27 (.t 25) (.t 26) 7, none, [4, 5]⟩,
 ⟨.fad 28 (.t 27) 5, none, [6]⟩,
 ⟨.load 29 (.t 28) 1 false, none, [7]⟩,
 ⟨.callT (some 30) (.c (.fn 74 [])) [(.t 29)], none, [8]⟩,
 ⟨.idx 31 (.t 22) (.t 23) 7, none, [1, 2, 0, 1, 2, 3, 4, 5, 6, 7, 8, 9]⟩,
 ⟨.fad 32 (.t 31) 5, none, [10, 0, 1, 2, 3, 4, 5, 6, 7, 8, 9]⟩,
 ⟨.store (.t 32) (.t 30) 1, none, [11, 9, 9, 0, 1, 2, 3, 4, 5, 6, 7, 8, 9]⟩] true)
 (.reg [⟨.fad 33 (.t 1) 1, none, []⟩,
 ⟨.load 34 (.t 33) 1 false, none, [0]⟩,
 ⟨.mov 35 (.t 4), none, []⟩,
 ⟨.fad 36 (.t 1) 1, none, []⟩,
 ⟨.load 37 (.t 36) 1 false, none, [3]⟩,
 ⟨.mov 38 (.t 4), none, []⟩,
 ⟨.idx 39 (.t 37) (.t 38) 7, none, [4, 5]⟩,
 ⟨.fad 40 (.t 39) 6, none, [6]⟩,
 ⟨.load 41 (.t 40) 1 false, none, [7]⟩,
 ⟨.callT (some 42) (.c (.fn 75 [])) [(.t 41)], none, [8]⟩,
 ⟨.idx 43 (.t 34) (.t 35) 7, none, [1, 2, 0, 1, 2, 3, 4, 5, 6, 7, 8, 9]⟩,
 ⟨.fad 44 (.t 43) 6, none, [10, 0, 1, 2, 3, 4, 5, 6, 7, 8, 9]⟩,
 ⟨.store (.t 44) (.t 42) 1, none, [11, 9, 9, 0, 1, 2, 3, 4, 5, 6, 7, 8, 9]⟩] true))))
 (.reg [⟨.bin 45 .add (.t 18) (.c (.int .i64 1)), none, []⟩,
 ⟨.mov 18 (.t 45), none, []⟩] false)))))))
 (.seq (.reg [⟨.load 46 (.t 1) 2 true, none, []⟩,
 ⟨.store (.t 2) (.t 46) 2, none, []⟩] false)
 (.ret))))))
theorem ok44 : FnOK Tryz.prog 44 47 [.c 2 2 true] sc44 :=
 ⟨Tryz.call44, Tryz.f44, (Tryz.f44).body.getD .skip, Tryz.func44, by kernel_rfl, by kernel_rfl, by kernel_rfl, by kernel_rfl, by kernel_rfl⟩
/-- (*assessor/book.builder).apply -/
def sc45 : SCode := .seq (.reg [⟨.box 3 26 9 (.t 1), none, []⟩,
 ⟨.mov 4 (.c (.int .i64 0)), none, []⟩] false)
 (.seq (.reg [⟨.build 9 [.nilfn, .nilfn, .nilfn, .nilfn] [(0, 1, (.c (.fn 76 []))), (1, 1, (.c (.fn 77 []))), (2, 1, (.c (.fn 78 []))), (3, 1, (.c (.fn 79 [])))], none, []⟩,
 ⟨.alloc 5 106 [.nilfn, .nilfn, .nilfn, .nilfn], none, []⟩,
 ⟨.store (.t 5) (.t 9) 4, none, []⟩] false)
 (.seq (.block 0 (.seq (.reg [⟨.mov 11 (.t 0), none, []⟩,
 ⟨.nilc (some 12) (.t 11), none, [0]⟩,
 ⟨.fad 13 (.t 12) 0, none, [1]⟩,
 ⟨.load 14 (.t 13) 2 true, none, [2]⟩,
 ⟨.load 15 (.t 3) 9 true, none, []⟩,
 ⟨.callT (some 16) (.c (.fn 49 [])) [(.t 14), (.t 15)], none, [3, 4]⟩,
 ⟨.mov 10 (.t 16), none, [5, 5]⟩] true)
 (.cond (.t 10) (.seq (.reg [⟨.mov 4 (.c (.int .i64 6)), none, []⟩] false)
 (.ret)) (.seq (.reg [⟨.fad 18 (.t 3) 4, none, []⟩,
 ⟨.load 19 (.t 18) 1 false, none, [0]⟩,
 ⟨.mov 20 (.t 0), none, []⟩,
 ⟨.nilc (some 21) (.t 20), none, [2]⟩,
 ⟨.fad 22 (.t 21) 0, none, [3]⟩,
 ⟨.fad 23 (.t 22) 0, none, [4]⟩,
 ⟨.load 24 (.t 23) 1 false, none, [5]⟩,
 ⟨.bin 25 .lss (.t 19) (.t 24), none, [1, 6]⟩,
 ⟨.mov 17 (.t 25), none, [7]⟩] true)
 (.cond (.t 17) (.seq (.reg [⟨.mov 4 (.c (.int .i64 2)), none, []⟩] false)
 (.ret)) (.skip))))))
 (.seq (.reg [⟨.mov 6 (.c (.nilp)), none, []⟩] false)
 (.seq (.seq (.reg [⟨.mov 26 (.t 0), none, []⟩,
 ⟨.nilc (some 27) (.t 26), none, [0]⟩,
 ⟨.fad 28 (.t 27) 0, none, [1]⟩,
 ⟨.load 29 (.t 28) 2 true, none, [2]⟩,
 ⟨.fad 30 (.t 3) 1, none, []⟩,
 ⟨.load 31 (.t 30) 3 true, none, [4]⟩,
 ⟨.callT (some 32) (.c (.fn 22 [])) [(.t 29), (.t 31)], none, [3, 5]⟩,
 ⟨.mov 7 (.t 32), none, [6, 6, 0, 1, 2, 3, 4, 5, 6]⟩] true)
 (.seq (.reg [⟨.mov 33 (.t 7), none, []⟩,
 ⟨.bin 34 .geq (.t 33) (.c (.int .i64 0)), none, []⟩] false)
 (.cond (.t 34) (.reg [⟨.mov 35 (.t 0), none, []⟩,
 ⟨.nilc (some 36) (.t 35), none, []⟩,
 ⟨.fad 37 (.t 36) 0, none, []⟩,
 ⟨.fad 38 (.t 37) 1, none, []⟩,
 ⟨.load 39 (.t 38) 1 false, none, []⟩,
 ⟨.mov 40 (.t 7), none, []⟩,
 ⟨.idx 41 (.t 39) (.t 40) 7, none, []⟩,
 ⟨.mov 6 (.t 41), none, []⟩] false) (.seq (.reg [⟨.fad 42 (.t 3) 0, none, []⟩,
 ⟨.load 43 (.t 42) 1 false, none, []⟩,
 ⟨.bin 44 .neq (.t 43) (.c (.int .i64 0)), none, []⟩] false)
 (.cond (.t 44) (.seq (.reg [⟨.mov 4 (.c (.int .i64 7)), none, []⟩] false)
 (.ret)) (.skip))))))
 (.seq (.seq (.reg [⟨.fad 45 (.t 3) 0, none, []⟩,
 ⟨.load 46 (.t 45) 1 false, none, [0]⟩,
 ⟨.ida 47 (.t 5) (.t 46) 4 1, none, [1]⟩,
 ⟨.load 48 (.t 47) 1 false, none, [2]⟩,
 ⟨.mov 49 (.t 0), none, []⟩,
 ⟨.load 50 (.t 3) 9 true, none, []⟩,
 ⟨.mov 51 (.t 6), none, []⟩,
 ⟨.callT (some 52) (.t 48) [(.t 49), (.t 50), (.t 51)], none, [3, 4, 5, 6]⟩,
 ⟨.mov 8 (.t 52), none, [7, 7, 0, 1, 2, 3, 4, 5, 6, 7]⟩] true)
 (.seq (.reg [⟨.mov 53 (.t 8), none, []⟩,
 ⟨.bin 54 .neq (.t 53) (.c (.int .i64 0)), none, []⟩] false)
 (.cond (.t 54) (.seq (.reg [⟨.mov 55 (.t 8), none, []⟩,
 ⟨.mov 4 (.t 55), none, []⟩] false)
 (.ret)) (.skip))))
 (.seq (.reg [⟨.mov 56 (.t 0), none, []⟩,
 ⟨.fad 57 (.t 3) 4, none, []⟩,
 ⟨.load 58 (.t 57) 1 false, none, []⟩,
 ⟨.nilc (some 59) (.t 56), none, []⟩,
 ⟨.fad 60 (.t 59) 0, none, []⟩,
 ⟨.fad 61 (.t 60) 0, none, []⟩,
 ⟨.store (.t 61) (.t 58) 1, none, []⟩] false)
 (.seq (.reg [⟨.mov 4 (.c (.int .i64 0)), none, []⟩] false)
 (.ret))))))))
theorem ok45 : FnOK Tryz.prog 45 62 [.t 4] sc45 :=
 ⟨Tryz.call45, Tryz.f45, (Tryz.f45).body.getD .skip, Tryz.func45, by kernel_rfl, by kernel_rfl, by kernel_rfl, by kernel_rfl, by kernel_rfl⟩
/-- assessor/book.validKey -/
def sc47 : SCode := .seq (.reg [⟨.box 1 24 3 (.t 0), none, []⟩,
 ⟨.mov 2 (.c (.bool false)), none, []⟩] false)
 (.seq (.reg [⟨.fad 3 (.t 1) 0, none, []⟩,
 ⟨.load 4 (.t 3) 1 false, none, []⟩,
 ⟨.callT (some 5) (.c (.fn 81 [])) [(.t 4)], none, []⟩,
 ⟨.mov 6 (.t 5), none, []⟩,
 ⟨.fad 7 (.t 1) 1, some (6, true), []⟩,
 ⟨.load 8 (.t 7) 1 false, some (6, true), []⟩,
 ⟨.callT (some 9) (.c (.fn 81 [])) [(.t 8)], some (6, true), []⟩,
 ⟨.pick 10 (.t 6) (.t 9) (.c (.bool false)), none, []⟩,
 ⟨.mov 11 (.t 10), none, []⟩,
 ⟨.fad 12 (.t 1) 2, some (11, true), []⟩,
 ⟨.load 13 (.t 12) 1 false, some (11, true), []⟩,
 ⟨.bin 14 .geq (.t 13) (.c (.int .i64 1)), some (11, true), []⟩,
 ⟨.pick 15 (.t 11) (.t 14) (.c (.bool false)), none, []⟩,
 ⟨.mov 16 (.t 15), none, []⟩,
 ⟨.fad 17 (.t 1) 2, some (16, true), []⟩,
 ⟨.load 18 (.t 17) 1 false, some (16, true), []⟩,
 ⟨.bin 19 .leq (.t 18) (.c (.int .i64 16)), some (16, true), []⟩,
 ⟨.pick 20 (.t 16) (.t 19) (.c (.bool false)), none, []⟩,
 ⟨.mov 2 (.t 20), none, []⟩] false)
 (.ret))
theorem ok47 : FnOK Tryz.prog 47 21 [.t 2] sc47 :=
 ⟨Tryz.call47, Tryz.f47, (Tryz.f47).body.getD .skip, Tryz.func47, by kernel_rfl, by kernel_rfl, by kernel_rfl, by kernel_rfl, by kernel_rfl⟩
/-- assessor/book.has -/
def sc49 : SCode := .seq (.reg [⟨.box 2 31 2 (.t 0), none, []⟩,
 ⟨.box 3 26 9 (.t 1), none, []⟩,
 ⟨.mov 4 (.c (.bool false)), none, []⟩] false)
 (.seq (.reg [⟨.load 6 (.t 2) 2 true, none, []⟩,
 ⟨.fad 7 (.t 3) 1, none, []⟩,
 ⟨.load 8 (.t 7) 3 true, none, []⟩,
 ⟨.callT (some 9) (.c (.fn 22 [])) [(.t 6), (.t 8)], none, []⟩,
 ⟨.mov 5 (.t 9), none, []⟩] false)
 (.seq (.seq (.reg [⟨.mov 10 (.t 5), none, []⟩,
 ⟨.bin 11 .lss (.t 10) (.c (.int .i64 0)), none, []⟩] false)
 (.cond (.t 11) (.seq (.reg [⟨.mov 4 (.c (.bool false)), none, []⟩] false)
 (.ret)) (.skip)))
 (.seq (.reg [⟨.fad 12 (.t 2) 1, none, []⟩,
 ⟨.load 13 (.t 12) 1 false, none, [0]⟩,
 ⟨.mov 14 (.t 5), none, []⟩,
 ⟨.mov 15 (.t 5), none, []⟩,
 ⟨.bin 16 .add (.t 15) (.c (.int .i64 1)), none, [3]⟩,
 ⟨.slice 17 7 (.t 13) (some (.t 14)) (some (.t 16)), none, [1, 2, 4]⟩,
 ⟨.build 18 [.int .i64 0, .nils] [(1, 1, (.t 17))], none, [5]⟩,
 ⟨.callT (some 19) (.c (.fn 53 [])) [(.t 18)], none, [6]⟩,
 ⟨.load 20 (.t 3) 9 true, none, []⟩,
 ⟨.callT (some 21) (.c (.fn 83 [])) [(.t 19), (.t 20)], none, [7, 8, 7]⟩,
 ⟨.mov 4 (.t 21), none, [9, 9, 0, 1, 2, 3, 4, 5, 6, 7, 8, 9]⟩] true)
 (.ret))))
theorem ok49 : FnOK Tryz.prog 49 22 [.t 4] sc49 :=
 ⟨Tryz.call49, Tryz.f49, (Tryz.f49).body.getD .skip, Tryz.func49, by kernel_rfl, by kernel_rfl, by kernel_rfl, by kernel_rfl, by kernel_rfl⟩
/-- assessor/book.Find$1 -/
def sc52 : SCode := .seq (.reg [⟨.box 2 39 7 (.t 0), none, []⟩,
 ⟨.mov 3 (.c (.bool false)), none, []⟩] false)
 (.seq (.reg [⟨.fad 4 (.t 2) 0, none, []⟩,
 ⟨.load 5 (.t 4) 3 true, none, []⟩,
 ⟨.load 6 (.t 1) 3 true, none, []⟩,
 ⟨.eqa 7 false [.s, .s, .i] (.t 5) (.t 6), none, []⟩,
 ⟨.mov 3 (.t 7), none, []⟩] false)
 (.ret))
theorem ok52 : FnOK Tryz.prog 52 8 [.t 3] sc52 :=
 ⟨Tryz.call52, Tryz.f52, (Tryz.f52).body.getD .skip, Tryz.func52, by kernel_rfl, by kernel_rfl, by kernel_rfl, by kernel_rfl, by kernel_rfl⟩
/-- assessor/book.events -/
def sc53 : SCode := .seq (.reg [⟨.box 1 31 2 (.t 0), none, []⟩,
 ⟨.mov 2 (.c (.nils)), none, []⟩] false)
 (.seq (.reg [⟨.mov 3 (.c (.nils)), none, []⟩] false)
 (.seq (.seq (.reg [⟨.fad 10 (.t 1) 1, none, []⟩,
 ⟨.load 11 (.t 10) 1 false, none, []⟩,
 ⟨.len 12 false (.t 11), none, []⟩,
 ⟨.mov 13 (.c (.int .i64 0)), none, []⟩] false)
 (.block 0 (.loop (.seq (.reg [⟨.bin 14 .lss (.t 13) (.t 12), none, []⟩] false)
 (.seq (.cond (.t 14) (.skip) (.exit 0))
 (.seq (.block 1 (.seq (.reg [⟨.idx 15 (.t 11) (.t 13) 7, none, []⟩,
 ⟨.load 16 (.t 15) 7 true, none, []⟩,
 ⟨.alloc 5 39 [.str [], .str [], .int .i64 0, .int .i64 0, .str [], .nils, .nils], none, []⟩,
 ⟨.store (.t 5) (.t 16) 7, none, []⟩] false)
 (.seq (.reg [⟨.mov 17 (.t 3), none, []⟩,
 ⟨.fad 18 (.t 5) 0, none, []⟩,
 ⟨.load 19 (.t 18) 3 true, none, []⟩,
 ⟨.fad 20 (.t 5) 3, none, []⟩,
 ⟨.load 21 (.t 20) 1 false, none, []⟩,
 ⟨.fad 22 (.t 5) 4, none, []⟩,
 ⟨.load 23 (.t 22) 1 false, none, []⟩,
 ⟨.build 24 [.int .i64 0, .str [], .str [], .int .i64 0, .int .i64 0, .int .i64 0, .int .i64 0, .str [], .bool false] [(0, 1, (.c (.int .i64 0))), (1, 3, (.t 19)), (4, 1, (.t 21)), (7, 1, (.t 23))], none, []⟩,
 ⟨.bsl 25 26 9 1 [(0, (.t 24))], none, []⟩,
 ⟨.app 26 26 9 96 (.t 17) (.t 25), none, []⟩,
 ⟨.mov 3 (.t 26), none, []⟩] false)
 (.seq (.seq (.reg [⟨.fad 27 (.t 5) 5, none, []⟩,
 ⟨.load 28 (.t 27) 1 false, none, []⟩,
 ⟨.len 29 false (.t 28), none, []⟩,
 ⟨.mov 30 (.c (.int .i64 0)), none, []⟩] false)
 (.block 2 (.loop (.seq (.reg [⟨.bin 31 .lss (.t 30) (.t 29), none, []⟩] false)
 (.seq (.cond (.t 31) (.skip) (.exit 2))
 (.seq (.block 3 (.seq (.reg [⟨.idx 32 (.t 28) (.t 30) 4, none, []⟩,
 ⟨.load 33 (.t 32) 4 true, none, []⟩,
 ⟨.alloc 7 42 [.int .i64 0, .int .i64 0, .int .i64 0, .str []], none, []⟩,
 ⟨.store (.t 7) (.t 33) 4, none, []⟩] false)
 (.reg [⟨.mov 34 (.t 3), none, []⟩,
 ⟨.fad 35 (.t 5) 0, none, []⟩,
 ⟨.load 36 (.t 35) 3 true, none, []⟩,
 ⟨.fad 37 (.t 7) 2, none, []⟩,
 ⟨.load 38 (.t 37) 1 false, none, []⟩,
 ⟨.fad 39 (.t 7) 0, none, []⟩,
 ⟨.load 40 (.t 39) 1 false, none, []⟩,
 ⟨.fad 41 (.t 7) 1, none, []⟩,
 ⟨.load 42 (.t 41) 1 false, none, []⟩,
 ⟨.fad 43 (.t 7) 3, none, []⟩,
 ⟨.load 44 (.t 43) 1 false, none, []⟩,
 ⟨.build 45 [.int .i64 0, .str [], .str [], .int .i64 0, .int .i64 0, .int .i64 0, .int .i64 0, .str [], .bool false] [(0, 1, (.c (.int .i64 1))), (1, 3, (.t 36)), (4, 1, (.t 38)), (5, 1, (.t 40)), (6, 1, (.t 42)), (7, 1, (.t 44))], none, []⟩,
 ⟨.bsl 46 26 9 1 [(0, (.t 45))], none, []⟩,
 ⟨.app 47 26 9 96 (.t 34) (.t 46), none, []⟩,
 ⟨.mov 3 (.t 47), none, []⟩] false)))
 (.reg [⟨.bin 48 .add (.t 30) (.c (.int .i64 1)), none, []⟩,
 ⟨.mov 30 (.t 48), none, []⟩] false)))))))
 (.seq (.reg [⟨.fad 49 (.t 5) 6, none, []⟩,
 ⟨.load 50 (.t 49) 1 false, none, []⟩,
 ⟨.len 51 false (.t 50), none, []⟩,
 ⟨.mov 52 (.c (.int .i64 0)), none, []⟩] false)
 (.block 4 (.loop (.seq (.reg [⟨.bin 53 .lss (.t 52) (.t 51), none, []⟩] false)
 (.seq (.cond (.t 53) (.skip) (.exit 4))
 (.seq (.block 5 (.seq (.reg [⟨.idx 54 (.t 50) (.t 52) 6, none, []⟩,
 ⟨.load 55 (.t 54) 6 true, none, []⟩,
 ⟨.alloc 9 44 [.int .i64 0, .str [], .bool false, .bool false, .int .i64 0, .str []], none, []⟩,
 ⟨.store (.t 9) (.t 55) 6, none, []⟩] false)
 (.seq (.reg [⟨.mov 56 (.t 3), none, []⟩,
 ⟨.fad 57 (.t 5) 0, none, []⟩,
 ⟨.load 58 (.t 57) 3 true, none, []⟩,
 ⟨.fad 59 (.t 9) 0, none, []⟩,
 ⟨.load 60 (.t 59) 1 false, none, []⟩,
 ⟨.fad 61 (.t 9) 1, none, []⟩,
 ⟨.load 62 (.t 61) 1 false, none, []⟩,
 ⟨.build 63 [.int .i64 0, .str [], .str [], .int .i64 0, .int .i64 0, .int .i64 0, .int .i64 0, .str [], .bool false] [(0, 1, (.c (.int .i64 2))), (1, 3, (.t 58)), (4, 1, (.t 60)), (7, 1, (.t 62))], none, []⟩,
 ⟨.bsl 64 26 9 1 [(0, (.t 63))], none, []⟩,
 ⟨.app 65 26 9 96 (.t 56) (.t 64), none, []⟩,
 ⟨.mov 3 (.t 65), none, []⟩] false)
 (.seq (.reg [⟨.fad 66 (.t 9) 2, none, []⟩,
 ⟨.load 67 (.t 66) 1 false, none, []⟩] false)
 (.cond (.t 67) (.reg [⟨.mov 68 (.t 3), none, []⟩,
 ⟨.fad 69 (.t 5) 0, none, []⟩,
 ⟨.load 70 (.t 69) 3 true, none, []⟩,
 ⟨.fad 71 (.t 9) 4, none, []⟩,
 ⟨.load 72 (.t 71) 1 false, none, []⟩,
 ⟨.fad 73 (.t 9) 5, none, []⟩,
 ⟨.load 74 (.t 73) 1 false, none, []⟩,
 ⟨.fad 75 (.t 9) 3, none, []⟩,
 ⟨.load 76 (.t 75) 1 false, none, []⟩,
 ⟨.build 77 [.int .i64 0, .str [], .str [], .int .i64 0, .int .i64 0, .int .i64 0, .int .i64 0, .str [], .bool false] [(0, 1, (.c (.int .i64 3))), (1, 3, (.t 70)), (4, 1, (.t 72)), (7, 1, (.t 74)), (8, 1, (.t 76))], none, []⟩,
 ⟨.bsl 78 26 9 1 [(0, (.t 77))], none, []⟩,
 ⟨.app 79 26 9 96 (.t 68) (.t 78), none, []⟩,
 ⟨.mov 3 (.t 79), none, []⟩] false) (.skip))))))
 (.reg [⟨.bin 80 .add (.t 52) (.c (.int .i64 1)), none, []⟩,
 ⟨.mov 52 (.t 80), none, []⟩] false)))))))))))
 (.reg [⟨.bin 81 .add (.t 13) (.c (.int .i64 1)), none, []⟩,
 ⟨.mov 13 (.t 81), none, []⟩] false)))))))
 (.seq (.reg [⟨.mov 82 (.t 3), none, []⟩,
 ⟨.callT (some 83) (.c (.fn 84 [])) [(.t 82), (.c (.fn 85 []))], none, []⟩] false)
 (.seq (.reg [⟨.mov 84 (.t 3), none, []⟩,
 ⟨.mov 2 (.t 84), none, []⟩] false)
 (.ret)))))
theorem ok53 : FnOK Tryz.prog 53 85 [.t 2] sc53 :=
 ⟨Tryz.call53, Tryz.f53, (Tryz.f53).body.getD .skip, Tryz.func53, by kernel_rfl, by kernel_rfl, by kernel_rfl, by kernel_rfl, by kernel_rfl⟩
/-- assessor/attempts.Final -/
def sc54 : SCode := .seq (.reg [⟨.box 2 52 4 (.t 0), none, []⟩,
 ⟨.mov 4 (.c (.int .i64 0)), none, []⟩,
 ⟨.mov 5 (.c (.int .i64 0)), none, []⟩] false)
 (.seq (.seq (.reg [⟨.load 6 (.t 2) 4 true, none, []⟩,
 ⟨.mov 7 (.t 1), none, []⟩,
 ⟨.callT (some 8) (.c (.fn 87 [])) [(.t 6), (.t 7)], none, []⟩,
 ⟨.not 9 (.t 8), none, []⟩] false)
 (.cond (.t 9) (.seq (.reg [⟨.mov 4 (.c (.int .i64 0)), none, []⟩,
 ⟨.mov 5 (.c (.int .i64 1)), none, []⟩] false)
 (.ret)) (.skip)))
 (.seq (.reg [⟨.load 10 (.t 2) 4 true, none, []⟩,
 ⟨.mov 11 (.t 1), none, []⟩,
 ⟨.callT (some 12) (.c (.fn 88 [])) [(.t 10), (.t 11)], none, []⟩,
 ⟨.mov 4 (.t 12), none, []⟩,
 ⟨.mov 5 (.c (.int .i64 0)), none, []⟩] false)
 (.ret)))
theorem ok54 : FnOK Tryz.prog 54 13 [.t 4, .t 5] sc54 :=
 ⟨Tryz.call54, Tryz.f54, (Tryz.f54).body.getD .skip, Tryz.func54, by kernel_rfl, by kernel_rfl, by kernel_rfl, by kernel_rfl, by kernel_rfl⟩
/-- assessor/record.Pack -/
def sc58 : SCode := .seq (.reg [⟨.mov 2 (.c (.str [])), none, []⟩,
 ⟨.mov 3 (.c (.int .i64 0)), none, []⟩] false)
 (.seq (.reg [⟨.mov 4 (.c (.int .i64 0)), none, []⟩] false)
 (.seq (.seq (.reg [⟨.mov 10 (.t 0), none, []⟩,
 ⟨.len 11 false (.t 10), none, []⟩,
 ⟨.mov 12 (.c (.int .i64 0)), none, []⟩] false)
 (.block 0 (.loop (.seq (.reg [⟨.bin 13 .lss (.t 12) (.t 11), none, []⟩] false)
 (.seq (.cond (.t 13) (.skip) (.exit 0))
 (.seq (.block 1 (.seq (.reg [⟨.idx 14 (.t 10) (.t 12) 1, none, []⟩,
 ⟨.load 15 (.t 14) 1 false, none, []⟩,
 ⟨.mov 6 (.t 15), none, []⟩] false)
 (.reg [⟨.mov 16 (.t 4), none, []⟩,
 ⟨.mov 17 (.t 6), none, []⟩,
 ⟨.len 18 true (.t 17), none, []⟩,
 ⟨.callT (some 19) (.c (.fn 67 [])) [(.t 18)], none, []⟩,
 ⟨.len 20 true (.t 19), none, []⟩,
 ⟨.bin 21 .add (.t 20) (.c (.int .i64 1)), none, []⟩,
 ⟨.mov 22 (.t 6), none, []⟩,
 ⟨.len 23 true (.t 22), none, []⟩,
 ⟨.bin 24 .add (.t 21) (.t 23), none, []⟩,
 ⟨.bin 25 .add (.t 16) (.t 24), none, []⟩,
 ⟨.mov 4 (.t 25), none, []⟩] false)))
 (.reg [⟨.bin 26 .add (.t 12) (.c (.int .i64 1)), none, []⟩,
 ⟨.mov 12 (.t 26), none, []⟩] false)))))))
 (.seq (.seq (.reg [⟨.mov 27 (.t 0), none, []⟩,
 ⟨.len 28 false (.t 27), none, []⟩,
 ⟨.bin 29 .gtr (.t 28) (.c (.int .i64 4096)), none, []⟩,
 ⟨.mov 30 (.t 29), none, []⟩,
 ⟨.mov 31 (.t 4), some (30, false), []⟩,
 ⟨.bin 32 .gtr (.t 31) (.c (.int .i64 30000)), some (30, false), []⟩,
 ⟨.pick 33 (.t 30) (.c (.bool true)) (.t 32), none, []⟩] false)
 (.cond (.t 33) (.seq (.reg [⟨.mov 2 (.c (.str [])), none, []⟩,
 ⟨.mov 3 (.c (.int .i64 8)), none, []⟩] false)
 (.ret)) (.skip)))
 (.seq (.reg [⟨.alloc 7 124 [.nilp, .nils], none, []⟩] false)
 (.seq (.seq (.reg [⟨.mov 34 (.t 0), none, []⟩,
 ⟨.len 35 false (.t 34), none, []⟩,
 ⟨.mov 36 (.c (.int .i64 0)), none, []⟩] false)
 (.block 2 (.loop (.seq (.reg [⟨.bin 37 .lss (.t 36) (.t 35), none, []⟩] false)
 (.seq (.cond (.t 37) (.skip) (.exit 2))
 (.seq (.block 3 (.seq (.reg [⟨.idx 38 (.t 34) (.t 36) 1, none, []⟩,
 ⟨.load 39 (.t 38) 1 false, none, []⟩,
 ⟨.mov 9 (.t 39), none, []⟩] false)
 (.reg [⟨.mov 40 (.t 9), none, []⟩,
 ⟨.len 41 true (.t 40), none, []⟩,
 ⟨.callT (some 42) (.c (.fn 67 [])) [(.t 41)], none, []⟩,
 ⟨.bin 43 .add (.t 42) (.c (.str [58])), none, []⟩,
 ⟨.mov 44 (.t 9), none, []⟩,
 ⟨.bin 45 .add (.t 43) (.t 44), none, []⟩,
 ⟨.callT (some 46) (.c (.fn 91 [])) [(.t 7), (.t 45)], none, []⟩] false)))
 (.reg [⟨.bin 47 .add (.t 36) (.c (.int .i64 1)), none, []⟩,
 ⟨.mov 36 (.t 47), none, []⟩] false)))))))
 (.seq (.reg [⟨.callT (some 48) (.c (.fn 92 [])) [(.t 7)], none, []⟩,
 ⟨.mov 2 (.t 48), none, []⟩,
 ⟨.mov 3 (.c (.int .i64 0)), none, []⟩] false)
 (.ret)))))))
theorem ok58 : FnOK Tryz.prog 58 49 [.t 2, .t 3] sc58 :=
 ⟨Tryz.call58, Tryz.f58, (Tryz.f58).body.getD .skip, Tryz.func58, by kernel_rfl, by kernel_rfl, by kernel_rfl, by kernel_rfl, by kernel_rfl⟩
/-- assessor/book.Same$1 -/
def sc65 : SCode := .seq (.reg [⟨.box 2 39 7 (.t 0), none, []⟩,
 ⟨.box 3 39 7 (.t 1), none, []⟩,
 ⟨.mov 4 (.c (.bool false)), none, []⟩] false)
 (.seq (.reg [⟨.fad 5 (.t 2) 0, none, []⟩,
 ⟨.load 6 (.t 5) 3 true, none, []⟩,
 ⟨.fad 7 (.t 3) 0, none, []⟩,
 ⟨.load 8 (.t 7) 3 true, none, []⟩,
 ⟨.eqa 9 false [.s, .s, .i] (.t 6) (.t 8), none, []⟩,
 ⟨.mov 10 (.t 9), none, []⟩,
 ⟨.fad 11 (.t 2) 3, some (10, true), []⟩,
 ⟨.load 12 (.t 11) 1 false, some (10, true), []⟩,
 ⟨.fad 13 (.t 3) 3, some (10, true), []⟩,
 ⟨.load 14 (.t 13) 1 false, some (10, true), []⟩,
 ⟨.bin 15 .eql (.t 12) (.t 14), some (10, true), []⟩,
 ⟨.pick 16 (.t 10) (.t 15) (.c (.bool false)), none, []⟩,
 ⟨.mov 17 (.t 16), none, []⟩,
 ⟨.fad 18 (.t 2) 4, some (17, true), []⟩,
 ⟨.load 19 (.t 18) 1 false, some (17, true), []⟩,
 ⟨.fad 20 (.t 3) 4, some (17, true), []⟩,
 ⟨.load 21 (.t 20) 1 false, some (17, true), []⟩,
 ⟨.bin 22 .eql (.t 19) (.t 21), some (17, true), []⟩,
 ⟨.pick 23 (.t 17) (.t 22) (.c (.bool false)), none, []⟩,
 ⟨.mov 24 (.t 23), none, []⟩,
 ⟨.fad 25 (.t 2) 5, some (24, true), []⟩,
 ⟨.load 26 (.t 25) 1 false, some (24, true), []⟩,
 ⟨.fad 27 (.t 3) 5, some (24, true), []⟩,
 ⟨.load 28 (.t 27) 1 false, some (24, true), []⟩,
 ⟨.callT (some 29) (.c (.fn 15 [])) [(.t 26), (.t 28)], some (24, true), []⟩,
 ⟨.pick 30 (.t 24) (.t 29) (.c (.bool false)), none, []⟩,
 ⟨.mov 31 (.t 30), none, []⟩,
 ⟨.fad 32 (.t 2) 6, some (31, true), []⟩,
 ⟨.load 33 (.t 32) 1 false, some (31, true), []⟩,
 ⟨.fad 34 (.t 3) 6, some (31, true), []⟩,
 ⟨.load 35 (.t 34) 1 false, some (31, true), []⟩,
 ⟨.callT (some 36) (.c (.fn 66 [])) [(.t 33), (.t 35)], some (31, true), []⟩,
 ⟨.pick 37 (.t 31) (.t 36) (.c (.bool false)), none, []⟩,
 ⟨.mov 4 (.t 37), none, []⟩] false)
 (.ret))
theorem ok65 : FnOK Tryz.prog 65 38 [.t 4] sc65 :=
 ⟨Tryz.call65, Tryz.f65, (Tryz.f65).body.getD .skip, Tryz.func65, by kernel_rfl, by kernel_rfl, by kernel_rfl, by kernel_rfl, by kernel_rfl⟩
/-- (*assessor/book.builder).submit -/
def sc76 : SCode := .seq (.reg [⟨.box 4 26 9 (.t 1), none, []⟩,
 ⟨.mov 6 (.c (.int .i64 0)), none, []⟩] false)
 (.seq (.reg [⟨.mov 7 (.c (.int .i64 0)), none, []⟩] false)
 (.seq (.seq (.reg [⟨.mov 10 (.t 0), none, []⟩,
 ⟨.nilc (some 11) (.t 10), none, []⟩,
 ⟨.fad 12 (.t 11) 0, none, []⟩,
 ⟨.fad 13 (.t 12) 1, none, []⟩,
 ⟨.load 14 (.t 13) 1 false, none, []⟩,
 ⟨.len 15 false (.t 14), none, []⟩,
 ⟨.mov 16 (.c (.int .i64 0)), none, []⟩] false)
 (.block 0 (.loop (.seq (.reg [⟨.bin 17 .lss (.t 16) (.t 15), none, []⟩] false)
 (.seq (.cond (.t 17) (.skip) (.exit 0))
 (.seq (.block 1 (.seq (.reg [⟨.idx 18 (.t 14) (.t 16) 7, none, []⟩,
 ⟨.load 19 (.t 18) 7 true, none, []⟩,
 ⟨.alloc 9 39 [.str [], .str [], .int .i64 0, .int .i64 0, .str [], .nils, .nils], none, []⟩,
 ⟨.store (.t 9) (.t 19) 7, none, []⟩] false)
 (.seq (.reg [⟨.fad 20 (.t 9) 0, none, []⟩,
 ⟨.fad 21 (.t 20) 0, none, []⟩,
 ⟨.load 22 (.t 21) 1 false, none, []⟩,
 ⟨.fad 23 (.t 4) 1, none, []⟩,
 ⟨.fad 24 (.t 23) 0, none, []⟩,
 ⟨.load 25 (.t 24) 1 false, none, []⟩,
 ⟨.bin 26 .eql (.t 22) (.t 25), none, []⟩,
 ⟨.mov 27 (.t 26), none, []⟩,
 ⟨.fad 28 (.t 9) 0, some (27, true), []⟩,
 ⟨.fad 29 (.t 28) 1, some (27, true), []⟩,
 ⟨.load 30 (.t 29) 1 false, some (27, true), []⟩,
 ⟨.fad 31 (.t 4) 1, some (27, true), []⟩,
 ⟨.fad 32 (.t 31) 1, some (27, true), []⟩,
 ⟨.load 33 (.t 32) 1 false, some (27, true), []⟩,
 ⟨.bin 34 .eql (.t 30) (.t 33), some (27, true), []⟩,
 ⟨.pick 35 (.t 27) (.t 34) (.c (.bool false)), none, []⟩] false)
 (.cond (.t 35) (.reg [⟨.mov 36 (.t 7), none, []⟩,
 ⟨.bin 37 .add (.t 36) (.c (.int .i64 1)), none, []⟩,
 ⟨.mov 7 (.t 37), none, []⟩] false) (.skip)))))
 (.reg [⟨.bin 38 .add (.t 16) (.c (.int .i64 1)), none, []⟩,
 ⟨.mov 16 (.t 38), none, []⟩] false)))))))
 (.seq (.block 2 (.seq (.reg [⟨.fad 40 (.t 4) 1, none, []⟩,
 ⟨.fad 41 (.t 40) 2, none, []⟩,
 ⟨.load 42 (.t 41) 1 false, none, []⟩,
 ⟨.mov 43 (.t 7), none, []⟩,
 ⟨.bin 44 .add (.t 43) (.c (.int .i64 1)), none, []⟩,
 ⟨.bin 45 .neq (.t 42) (.t 44), none, []⟩,
 ⟨.mov 39 (.t 45), none, []⟩] false)
 (.cond (.t 39) (.seq (.reg [⟨.mov 6 (.c (.int .i64 9)), none, []⟩] false)
 (.ret)) (.seq (.reg [⟨.mov 47 (.t 0), none, []⟩,
 ⟨.nilc (some 48) (.t 47), none, []⟩,
 ⟨.fad 49 (.t 48) 0, none, []⟩,
 ⟨.fad 50 (.t 49) 1, none, []⟩,
 ⟨.load 51 (.t 50) 1 false, none, []⟩,
 ⟨.len 52 false (.t 51), none, []⟩,
 ⟨.bin 53 .geq (.t 52) (.c (.int .i64 256)), none, []⟩,
 ⟨.mov 46 (.t 53), none, []⟩] false)
 (.cond (.t 46) (.seq (.reg [⟨.mov 6 (.c (.int .i64 8)), none, []⟩] false)
 (.ret)) (.skip))))))
 (.seq (.reg [⟨.mov 54 (.t 0), none, []⟩,
 ⟨.mov 55 (.t 0), none, []⟩,
 ⟨.nilc (some 56) (.t 55), none, [1]⟩,
 ⟨.fad 57 (.t 56) 0, none, [2]⟩,
 ⟨.fad 58 (.t 57) 1, none, [3]⟩,
 ⟨.load 59 (.t 58) 1 false, none, [4]⟩,
 ⟨.fad 60 (.t 4) 1, none, []⟩,
 ⟨.load 61 (.t 60) 3 true, none, [6]⟩,
 ⟨.fad 62 (.t 4) 4, none, []⟩,
 ⟨.load 63 (.t 62) 1 false, none, [8]⟩,
 ⟨.fad 64 (.t 4) 7, none, []⟩,
 ⟨.load 65 (.t 64) 1 false, none, [10]⟩,
 ⟨.build 66 [.str [], .str [], .int .i64 0, .int .i64 0, .str [], .nils, .nils] [(0, 3, (.t 61)), (3, 1, (.t 63)), (4, 1, (.t 65))], none, [7, 9, 11]⟩,
 ⟨.bsl 67 39 7 1 [(0, (.t 66))], none, [12]⟩,
 ⟨.app 68 39 7 112 (.t 59) (.t 67), none, [5, 13]⟩,
 ⟨.nilc (some 69) (.t 54), none, [0, 0, 1, 2, 3, 4, 5, 6, 7, 8, 9, 10, 11, 12, 13, 14]⟩,
 ⟨.fad 70 (.t 69) 0, none, [15, 0, 1, 2, 3, 4, 5, 6, 7, 8, 9, 10, 11, 12, 13, 14]⟩,
 ⟨.fad 71 (.t 70) 1, none, [16, 0, 1, 2, 3, 4, 5, 6, 7, 8, 9, 10, 11, 12, 13, 14]⟩,
 ⟨.store (.t 71) (.t 68) 1, none, [17, 14, 14, 0, 1, 2, 3, 4, 5, 6, 7, 8, 9, 10, 11, 12, 13, 14]⟩] true)
 (.seq (.reg [⟨.mov 6 (.c (.int .i64 0)), none, []⟩] false)
 (.ret))))))
theorem ok76 : FnOK Tryz.prog 76 72 [.t 6] sc76 :=
 ⟨Tryz.call76, Tryz.f76, (Tryz.f76).body.getD .skip, Tryz.func76, by kernel_rfl, by kernel_rfl, by kernel_rfl, by kernel_rfl, by kernel_rfl⟩
/-- (*assessor/book.builder).grade -/
def sc77 : SCode := .seq (.reg [⟨.box 4 26 9 (.t 1), none, []⟩,
 ⟨.mov 6 (.c (.int .i64 0)), none, []⟩] false)
 (.seq (.reg [⟨.mov 8 (.t 2), none, []⟩,
 ⟨.nilc (some 9) (.t 8), none, []⟩,
 ⟨.fad 10 (.t 9) 5, none, []⟩,
 ⟨.load 11 (.t 10) 1 false, none, []⟩,
 ⟨.len 12 false (.t 11), none, []⟩,
 ⟨.mov 7 (.t 12), none, []⟩] false)
 (.seq (.block 0 (.seq (.reg [⟨.mov 14 (.t 7), none, []⟩,
 ⟨.bin 15 .gtr (.t 14) (.c (.int .i64 0)), none, [0]⟩,
 ⟨.mov 16 (.t 15), none, [1]⟩,
 ⟨.fad 17 (.t 4) 5, some (16, true), [2]⟩,
 ⟨.load 18 (.t 17) 1 false, some (16, true), [3, 2]⟩,
 ⟨.mov 19 (.t 2), some (16, true), [2]⟩,
 ⟨.nilc (some 20) (.t 19), some (16, true), [5, 2]⟩,
 ⟨.fad 21 (.t 20) 5, some (16, true), [6, 2]⟩,
 ⟨.load 22 (.t 21) 1 false, some (16, true), [7, 2]⟩,
 ⟨.mov 23 (.t 7), some (16, true), [2]⟩,
 ⟨.bin 24 .sub (.t 23) (.c (.int .i64 1)), some (16, true), [9, 2]⟩,
 ⟨.idx 25 (.t 22) (.t 24) 4, some (16, true), [8, 10, 2]⟩,
 ⟨.fad 26 (.t 25) 0, some (16, true), [11, 2]⟩,
 ⟨.load 27 (.t 26) 1 false, some (16, true), [12, 2]⟩,
 ⟨.bin 28 .leq (.t 18) (.t 27), some (16, true), [4, 13, 2]⟩,
 ⟨.pick 29 (.t 16) (.t 28) (.c (.bool false)), none, [2, 14]⟩,
 ⟨.mov 13 (.t 29), none, [15, 2]⟩] true)
 (.cond (.t 13) (.seq (.reg [⟨.mov 6 (.c (.int .i64 9)), none, []⟩] false)
 (.ret)) (.seq (.reg [⟨.mov 31 (.t 7), none, []⟩,
 ⟨.bin 32 .geq (.t 31) (.c (.int .i64 16)), none, []⟩,
 ⟨.mov 30 (.t 32), none, []⟩] false)
 (.cond (.t 30) (.seq (.reg [⟨.mov 6 (.c (.int .i64 8)), none, []⟩] false)
 (.ret)) (.skip))))))
 (.seq (.reg [⟨.mov 33 (.t 2), none, []⟩,
 ⟨.mov 34 (.t 2), none, []⟩,
 ⟨.nilc (some 35) (.t 34), none, [1]⟩,
 ⟨.fad 36 (.t 35) 5, none, [2]⟩,
 ⟨.load 37 (.t 36) 1 false, none, [3]⟩,
 ⟨.fad 38 (.t 4) 5, none, []⟩,
 ⟨.load 39 (.t 38) 1 false, none, [5]⟩,
 ⟨.fad 40 (.t 4) 6, none, []⟩,
 ⟨.load 41 (.t 40) 1 false, none, [7]⟩,
 ⟨.fad 42 (.t 4) 4, none, []⟩,
 ⟨.load 43 (.t 42) 1 false, none, [9]⟩,
 ⟨.fad 44 (.t 4) 7, none, []⟩,
 ⟨.load 45 (.t 44) 1 false, none, [11]⟩,
 ⟨.build 46 [.int .i64 0, .int .i64 0, .int .i64 0, .str []] [(0, 1, (.t 39)), (1, 1, (.t 41)), (2, 1, (.t 43)), (3, 1, (.t 45))], none, [6, 8, 10, 12]⟩,
 ⟨.bsl 47 42 4 1 [(0, (.t 46))], none, [13]⟩,
 ⟨.app 48 42 4 40 (.t 37) (.t 47), none, [4, 14]⟩,
 ⟨.nilc (some 49) (.t 33), none, [0, 0, 1, 2, 3, 4, 5, 6, 7, 8, 9, 10, 11, 12, 13, 14, 15]⟩,
 ⟨.fad 50 (.t 49) 5, none, [16, 0, 1, 2, 3, 4, 5, 6, 7, 8, 9, 10, 11, 12, 13, 14, 15]⟩,
 ⟨.store (.t 50) (.t 48) 1, none, [17, 15, 15, 0, 1, 2, 3, 4, 5, 6, 7, 8, 9, 10, 11, 12, 13, 14, 15]⟩] true)
 (.seq (.reg [⟨.mov 6 (.c (.int .i64 0)), none, []⟩] false)
 (.ret)))))
theorem ok77 : FnOK Tryz.prog 77 51 [.t 6] sc77 :=
 ⟨Tryz.call77, Tryz.f77, (Tryz.f77).body.getD .skip, Tryz.func77, by kernel_rfl, by kernel_rfl, by kernel_rfl, by kernel_rfl, by kernel_rfl⟩
/-- (*assessor/book.builder).appeal -/
def sc78 : SCode := .seq (.reg [⟨.box 4 26 9 (.t 1), none, []⟩,
 ⟨.mov 6 (.c (.int .i64 0)), none, []⟩] false)
 (.seq (.block 0 (.seq (.reg [⟨.mov 8 (.t 2), none, []⟩,
 ⟨.nilc (some 9) (.t 8), none, []⟩,
 ⟨.fad 10 (.t 9) 5, none, []⟩,
 ⟨.load 11 (.t 10) 1 false, none, []⟩,
 ⟨.len 12 false (.t 11), none, []⟩,
 ⟨.bin 13 .eql (.t 12) (.c (.int .i64 0)), none, []⟩,
 ⟨.mov 14 (.t 13), none, []⟩,
 ⟨.mov 15 (.t 2), some (14, false), []⟩,
 ⟨.callT (some 16) (.c (.fn 99 [])) [(.t 15)], some (14, false), []⟩,
 ⟨.pick 17 (.t 14) (.c (.bool true)) (.t 16), none, []⟩,
 ⟨.mov 7 (.t 17), none, []⟩] false)
 (.cond (.t 7) (.seq (.reg [⟨.mov 6 (.c (.int .i64 9)), none, []⟩] false)
 (.ret)) (.seq (.reg [⟨.mov 19 (.t 2), none, []⟩,
 ⟨.nilc (some 20) (.t 19), none, []⟩,
 ⟨.fad 21 (.t 20) 6, none, []⟩,
 ⟨.load 22 (.t 21) 1 false, none, []⟩,
 ⟨.len 23 false (.t 22), none, []⟩,
 ⟨.bin 24 .geq (.t 23) (.c (.int .i64 16)), none, []⟩,
 ⟨.mov 18 (.t 24), none, []⟩] false)
 (.cond (.t 18) (.seq (.reg [⟨.mov 6 (.c (.int .i64 8)), none, []⟩] false)
 (.ret)) (.skip))))))
 (.seq (.reg [⟨.mov 25 (.t 2), none, []⟩,
 ⟨.mov 26 (.t 2), none, []⟩,
 ⟨.nilc (some 27) (.t 26), none, [1]⟩,
 ⟨.fad 28 (.t 27) 6, none, [2]⟩,
 ⟨.load 29 (.t 28) 1 false, none, [3]⟩,
 ⟨.fad 30 (.t 4) 4, none, []⟩,
 ⟨.load 31 (.t 30) 1 false, none, [5]⟩,
 ⟨.fad 32 (.t 4) 7, none, []⟩,
 ⟨.load 33 (.t 32) 1 false, none, [7]⟩,
 ⟨.build 34 [.int .i64 0, .str [], .bool false, .bool false, .int .i64 0, .str []] [(0, 1, (.t 31)), (1, 1, (.t 33))], none, [6, 8]⟩,
 ⟨.bsl 35 44 6 1 [(0, (.t 34))], none, [9]⟩,
 ⟨.app 36 44 6 56 (.t 29) (.t 35), none, [4, 10]⟩,
 ⟨.nilc (some 37) (.t 25), none, [0, 0, 1, 2, 3, 4, 5, 6, 7, 8, 9, 10, 11]⟩,
 ⟨.fad 38 (.t 37) 6, none, [12, 0, 1, 2, 3, 4, 5, 6, 7, 8, 9, 10, 11]⟩,
 ⟨.store (.t 38) (.t 36) 1, none, [13, 11, 11, 0, 1, 2, 3, 4, 5, 6, 7, 8, 9, 10, 11]⟩] true)
 (.seq (.reg [⟨.mov 6 (.c (.int .i64 0)), none, []⟩] false)
 (.ret))))
theorem ok78 : FnOK Tryz.prog 78 39 [.t 6] sc78 :=
 ⟨Tryz.call78, Tryz.f78, (Tryz.f78).body.getD .skip, Tryz.func78, by kernel_rfl, by kernel_rfl, by kernel_rfl, by kernel_rfl, by kernel_rfl⟩
/-- (*assessor/book.builder).decide -/
def sc79 : SCode := .seq (.reg [⟨.box 4 26 9 (.t 1), none, []⟩,
 ⟨.mov 6 (.c (.int .i64 0)), none, []⟩] false)
 (.seq (.seq (.reg [⟨.mov 8 (.t 2), none, []⟩,
 ⟨.callT (some 9) (.c (.fn 99 [])) [(.t 8)], none, []⟩,
 ⟨.not 10 (.t 9), none, []⟩] false)
 (.cond (.t 10) (.seq (.reg [⟨.mov 6 (.c (.int .i64 9)), none, []⟩] false)
 (.ret)) (.skip)))
 (.seq (.reg [⟨.mov 11 (.t 2), none, []⟩,
 ⟨.nilc (some 12) (.t 11), none, [0]⟩,
 ⟨.fad 13 (.t 12) 6, none, [1]⟩,
 ⟨.load 14 (.t 13) 1 false, none, [2]⟩,
 ⟨.mov 15 (.t 2), none, []⟩,
 ⟨.nilc (some 16) (.t 15), none, [4]⟩,
 ⟨.fad 17 (.t 16) 6, none, [5]⟩,
 ⟨.load 18 (.t 17) 1 false, none, [6]⟩,
 ⟨.len 19 false (.t 18), none, [7]⟩,
 ⟨.bin 20 .sub (.t 19) (.c (.int .i64 1)), none, [8]⟩,
 ⟨.idx 21 (.t 14) (.t 20) 6, none, [3, 9]⟩,
 ⟨.mov 7 (.t 21), none, [10, 0, 1, 2, 3, 4, 5, 6, 7, 8, 9, 10]⟩] true)
 (.seq (.reg [⟨.mov 22 (.t 7), none, []⟩,
 ⟨.mov 23 (.t 7), none, []⟩,
 ⟨.mov 24 (.t 7), none, []⟩,
 ⟨.mov 25 (.t 7), none, []⟩,
 ⟨.fad 26 (.t 4) 8, none, []⟩,
 ⟨.load 27 (.t 26) 1 false, none, [4]⟩,
 ⟨.fad 28 (.t 4) 4, none, []⟩,
 ⟨.load 29 (.t 28) 1 false, none, [6]⟩,
 ⟨.fad 30 (.t 4) 7, none, []⟩,
 ⟨.load 31 (.t 30) 1 false, none, [8]⟩,
 ⟨.nilc (some 32) (.t 22), none, [0, 0]⟩,
 ⟨.fad 33 (.t 32) 2, none, [10, 0]⟩,
 ⟨.store (.t 33) (.c (.bool true)) 1, none, [11, 0]⟩,
 ⟨.nilc (some 34) (.t 23), none, [1, 0, 1, 4, 5, 10, 11, 12]⟩,
 ⟨.fad 35 (.t 34) 3, none, [13, 0, 1, 4, 5, 10, 11, 12]⟩,
 ⟨.store (.t 35) (.t 27) 1, none, [14, 5, 12, 0, 1, 4, 5, 10, 11, 12]⟩,
 ⟨.nilc (some 36) (.t 24), none, [2, 0, 1, 2, 4, 5, 6, 7, 10, 11, 12, 13, 14, 15]⟩,
 ⟨.fad 37 (.t 36) 4, none, [16, 0, 1, 2, 4, 5, 6, 7, 10, 11, 12, 13, 14, 15]⟩,
 ⟨.store (.t 37) (.t 29) 1, none, [17, 7, 15, 0, 1, 2, 4, 5, 6, 7, 10, 11, 12, 13, 14, 15]⟩,
 ⟨.nilc (some 38) (.t 25), none, [3, 0, 1, 2, 3, 4, 5, 6, 7, 8, 9, 10, 11, 12, 13, 14, 15, 16, 17, 18]⟩,
 ⟨.fad 39 (.t 38) 5, none, [19, 0, 1, 2, 3, 4, 5, 6, 7, 8, 9, 10, 11, 12, 13, 14, 15, 16, 17, 18]⟩,
 ⟨.store (.t 39) (.t 31) 1, none, [20, 9, 18, 0, 1, 2, 3, 4, 5, 6, 7, 8, 9, 10, 11, 12, 13, 14, 15, 16, 17, 18]⟩] true)
 (.seq (.reg [⟨.mov 6 (.c (.int .i64 0)), none, []⟩] false)
 (.ret)))))
theorem ok79 : FnOK Tryz.prog 79 40 [.t 6] sc79 :=
 ⟨Tryz.call79, Tryz.f79, (Tryz.f79).body.getD .skip, Tryz.func79, by kernel_rfl, by kernel_rfl, by kernel_rfl, by kernel_rfl, by kernel_rfl⟩
/-- assessor/book.isName -/
def sc81 : SCode := .seq (.reg [⟨.mov 2 (.c (.bool false)), none, []⟩] false)
 (.seq (.reg [⟨.mov 3 (.t 0), none, []⟩,
 ⟨.build 4 [.int .i64 0, .str [], .int .i64 0, .int .i64 0, .int .i64 0, .nils] [(0, 1, (.c (.int .i64 2))), (1, 1, (.t 3))], none, []⟩,
 ⟨.callT (some 5) (.c (.fn 100 [])) [(.t 4)], none, []⟩,
 ⟨.bin 6 .neq (.t 5) (.c (.str [])), none, []⟩,
 ⟨.mov 2 (.t 6), none, []⟩] false)
 (.ret))
theorem ok81 : FnOK Tryz.prog 81 7 [.t 2] sc81 :=
 ⟨Tryz.call81, Tryz.f81, (Tryz.f81).body.getD .skip, Tryz.func81, by kernel_rfl, by kernel_rfl, by kernel_rfl, by kernel_rfl, by kernel_rfl⟩
/-- assessor/book.events$1 -/
def sc85 : SCode := .seq (.reg [⟨.box 2 26 9 (.t 0), none, []⟩,
 ⟨.box 3 26 9 (.t 1), none, []⟩,
 ⟨.mov 4 (.c (.int .i64 0)), none, []⟩] false)
 (.seq (.reg [⟨.fad 5 (.t 2) 4, none, []⟩,
 ⟨.load 6 (.t 5) 1 false, none, []⟩,
 ⟨.fad 7 (.t 3) 4, none, []⟩,
 ⟨.load 8 (.t 7) 1 false, none, []⟩,
 ⟨.callT (some 9) (.c (.fn 86 [])) [(.t 6), (.t 8)], none, []⟩,
 ⟨.mov 4 (.t 9), none, []⟩] false)
 (.ret))
theorem ok85 : FnOK Tryz.prog 85 10 [.t 4] sc85 :=
 ⟨Tryz.call85, Tryz.f85, (Tryz.f85).body.getD .skip, Tryz.func85, by kernel_rfl, by kernel_rfl, by kernel_rfl, by kernel_rfl, by kernel_rfl⟩
/-- assessor/attempts.Valid -/
def sc87 : SCode := .seq (.reg [⟨.box 2 52 4 (.t 0), none, []⟩,
 ⟨.mov 4 (.c (.bool false)), none, []⟩] false)
 (.seq (.seq (.reg [⟨.load 8 (.t 2) 4 true, none, []⟩,
 ⟨.callT (some 9) (.c (.fn 107 [])) [(.t 8)], none, []⟩,
 ⟨.not 10 (.t 9), none, []⟩,
 ⟨.mov 11 (.t 10), none, []⟩,
 ⟨.mov 12 (.t 1), some (11, false), []⟩,
 ⟨.len 13 false (.t 12), some (11, false), []⟩,
 ⟨.fad 14 (.t 2) 1, some (11, false), []⟩,
 ⟨.load 15 (.t 14) 1 false, some (11, false), []⟩,
 ⟨.bin 16 .gtr (.t 13) (.t 15), some (11, false), []⟩,
 ⟨.pick 17 (.t 11) (.c (.bool true)) (.t 16), none, []⟩] false)
 (.cond (.t 17) (.seq (.reg [⟨.mov 4 (.c (.bool false)), none, []⟩] false)
 (.ret)) (.skip)))
 (.seq (.reg [⟨.mov 5 (.c (.int .i64 0)), none, []⟩] false)
 (.seq (.seq (.reg [⟨.mov 18 (.t 1), none, []⟩,
 ⟨.len 19 false (.t 18), none, []⟩,
 ⟨.mov 20 (.c (.int .i64 0)), none, []⟩] false)
 (.block 0 (.loop (.seq (.reg [⟨.bin 21 .lss (.t 20) (.t 19), none, []⟩] false)
 (.seq (.cond (.t 21) (.skip) (.exit 0))
 (.seq (.block 1 (.seq (.reg [⟨.mov 22 (.t 20), none, []⟩,
 ⟨.idx 23 (.t 18) (.t 20) 3, none, []⟩,
 ⟨.load 24 (.t 23) 3 true, none, []⟩,
 ⟨.alloc 7 57 [.int .i64 0, .int .i64 0, .int .i64 0], none, []⟩,
 ⟨.mov 6 (.t 22), none, []⟩,
 ⟨.store (.t 7) (.t 24) 3, none, []⟩] false)
 (.seq (.seq (.reg [⟨.fad 25 (.t 7) 0, none, []⟩,
 ⟨.load 26 (.t 25) 1 false, none, []⟩,
 ⟨.mov 27 (.t 6), none, []⟩,
 ⟨.bin 28 .add (.t 27) (.c (.int .i64 1)), none, []⟩,
 ⟨.bin 29 .neq (.t 26) (.t 28), none, []⟩,
 ⟨.mov 30 (.t 29), none, []⟩,
 ⟨.fad 31 (.t 7) 1, some (30, false), []⟩,
 ⟨.load 32 (.t 31) 1 false, some (30, false), []⟩,
 ⟨.mov 33 (.t 5), some (30, false), []⟩,
 ⟨.bin 34 .lss (.t 32) (.t 33), some (30, false), []⟩,
 ⟨.pick 35 (.t 30) (.c (.bool true)) (.t 34), none, []⟩,
 ⟨.mov 36 (.t 35), none, []⟩,
 ⟨.fad 37 (.t 7) 1, some (36, false), []⟩,
 ⟨.load 38 (.t 37) 1 false, some (36, false), []⟩,
 ⟨.callT (some 39) (.c (.fn 108 [])) [(.t 38)], some (36, false), []⟩,
 ⟨.not 40 (.t 39), some (36, false), []⟩,
 ⟨.pick 41 (.t 36) (.c (.bool true)) (.t 40), none, []⟩,
 ⟨.mov 42 (.t 41), none, []⟩,
 ⟨.fad 43 (.t 7) 2, some (42, false), []⟩,
 ⟨.load 44 (.t 43) 1 false, some (42, false), []⟩,
 ⟨.bin 45 .lss (.t 44) (.c (.int .i64 0)), some (42, false), []⟩,
 ⟨.pick 46 (.t 42) (.c (.bool true)) (.t 45), none, []⟩,
 ⟨.mov 47 (.t 46), none, []⟩,
 ⟨.fad 48 (.t 7) 2, some (47, false), []⟩,
 ⟨.load 49 (.t 48) 1 false, some (47, false), []⟩,
 ⟨.bin 50 .gtr (.t 49) (.c (.int .i64 100000000)), some (47, false), []⟩,
 ⟨.pick 51 (.t 47) (.c (.bool true)) (.t 50), none, []⟩] false)
 (.cond (.t 51) (.seq (.reg [⟨.mov 4 (.c (.bool false)), none, []⟩] false)
 (.ret)) (.skip)))
 (.reg [⟨.fad 52 (.t 7) 1, none, []⟩,
 ⟨.load 53 (.t 52) 1 false, none, []⟩,
 ⟨.mov 5 (.t 53), none, []⟩] false))))
 (.reg [⟨.bin 54 .add (.t 20) (.c (.int .i64 1)), none, []⟩,
 ⟨.mov 20 (.t 54), none, []⟩] false)))))))
 (.seq (.reg [⟨.mov 4 (.c (.bool true)), none, []⟩] false)
 (.ret)))))
theorem ok87 : FnOK Tryz.prog 87 55 [.t 4] sc87 :=
 ⟨Tryz.call87, Tryz.f87, (Tryz.f87).body.getD .skip, Tryz.func87, by kernel_rfl, by kernel_rfl, by kernel_rfl, by kernel_rfl, by kernel_rfl⟩
/-- assessor/attempts.points -/
def sc88 : SCode := .seq (.reg [⟨.box 2 52 4 (.t 0), none, []⟩,
 ⟨.mov 4 (.c (.int .i64 0)), none, []⟩] false)
 (.seq (.reg [⟨.load 9 (.t 2) 4 true, none, []⟩,
 ⟨.mov 10 (.t 1), none, []⟩,
 ⟨.callT (some 11) (.c (.fn 109 [])) [(.t 9), (.t 10)], none, []⟩,
 ⟨.mov 5 (.t 11), none, []⟩] false)
 (.seq (.seq (.reg [⟨.mov 12 (.t 5), none, []⟩,
 ⟨.len 13 false (.t 12), none, []⟩,
 ⟨.bin 14 .eql (.t 13) (.c (.int .i64 0)), none, []⟩] false)
 (.cond (.t 14) (.seq (.reg [⟨.mov 4 (.c (.int .i64 0)), none, []⟩] false)
 (.ret)) (.skip)))
 (.seq (.reg [⟨.mov 6 (.c (.int .i64 0)), none, []⟩] false)
 (.seq (.seq (.reg [⟨.mov 15 (.t 5), none, []⟩,
 ⟨.len 16 false (.t 15), none, []⟩,
 ⟨.mov 17 (.c (.int .i64 0)), none, []⟩] false)
 (.block 0 (.loop (.seq (.reg [⟨.bin 18 .lss (.t 17) (.t 16), none, []⟩] false)
 (.seq (.cond (.t 18) (.skip) (.exit 0))
 (.seq (.block 1 (.seq (.reg [⟨.idx 19 (.t 15) (.t 17) 3, none, []⟩,
 ⟨.load 20 (.t 19) 3 true, none, []⟩,
 ⟨.alloc 8 57 [.int .i64 0, .int .i64 0, .int .i64 0], none, []⟩,
 ⟨.store (.t 8) (.t 20) 3, none, []⟩] false)
 (.reg [⟨.mov 21 (.t 6), none, []⟩,
 ⟨.fad 22 (.t 8) 2, none, []⟩,
 ⟨.load 23 (.t 22) 1 false, none, []⟩,
 ⟨.bin 24 .add (.t 21) (.t 23), none, []⟩,
 ⟨.mov 6 (.t 24), none, []⟩] false)))
 (.reg [⟨.bin 25 .add (.t 17) (.c (.int .i64 1)), none, []⟩,
 ⟨.mov 17 (.t 25), none, []⟩] false)))))))
 (.seq (.reg [⟨.mov 26 (.t 6), none, []⟩,
 ⟨.bin 27 .mul (.c (.int .i64 2)) (.t 26), none, []⟩,
 ⟨.mov 28 (.t 5), none, []⟩,
 ⟨.len 29 false (.t 28), none, []⟩,
 ⟨.bin 30 .add (.t 27) (.t 29), none, []⟩,
 ⟨.mov 31 (.t 5), none, []⟩,
 ⟨.len 32 false (.t 31), none, []⟩,
 ⟨.bin 33 .mul (.c (.int .i64 2)) (.t 32), none, []⟩,
 ⟨.bin 34 .quo (.t 30) (.t 33), none, []⟩,
 ⟨.mov 4 (.t 34), none, []⟩] false)
 (.ret))))))
theorem ok88 : FnOK Tryz.prog 88 35 [.t 4] sc88 :=
 ⟨Tryz.call88, Tryz.f88, (Tryz.f88).body.getD .skip, Tryz.func88, by kernel_rfl, by kernel_rfl, by kernel_rfl, by kernel_rfl, by kernel_rfl⟩
/-- assessor/book.open -/
def sc99 : SCode := .seq (.reg [⟨.mov 2 (.c (.bool false)), none, []⟩] false)
 (.seq (.reg [⟨.mov 4 (.t 0), none, []⟩,
 ⟨.nilc (some 5) (.t 4), none, []⟩,
 ⟨.fad 6 (.t 5) 6, none, []⟩,
 ⟨.load 7 (.t 6) 1 false, none, []⟩,
 ⟨.len 8 false (.t 7), none, []⟩,
 ⟨.mov 3 (.t 8), none, []⟩] false)
 (.seq (.reg [⟨.mov 9 (.t 3), none, []⟩,
 ⟨.bin 10 .gtr (.t 9) (.c (.int .i64 0)), none, []⟩,
 ⟨.mov 11 (.t 10), none, []⟩,
 ⟨.mov 12 (.t 0), some (11, true), []⟩,
 ⟨.nilc (some 13) (.t 12), some (11, true), []⟩,
 ⟨.fad 14 (.t 13) 6, some (11, true), []⟩,
 ⟨.load 15 (.t 14) 1 false, some (11, true), []⟩,
 ⟨.mov 16 (.t 3), some (11, true), []⟩,
 ⟨.bin 17 .sub (.t 16) (.c (.int .i64 1)), some (11, true), []⟩,
 ⟨.idx 18 (.t 15) (.t 17) 6, some (11, true), []⟩,
 ⟨.fad 19 (.t 18) 2, some (11, true), []⟩,
 ⟨.load 20 (.t 19) 1 false, some (11, true), []⟩,
 ⟨.not 21 (.t 20), some (11, true), []⟩,
 ⟨.pick 22 (.t 11) (.t 21) (.c (.bool false)), none, []⟩,
 ⟨.mov 2 (.t 22), none, []⟩] false)
 (.ret)))
theorem ok99 : FnOK Tryz.prog 99 23 [.t 2] sc99 :=
 ⟨Tryz.call99, Tryz.f99, (Tryz.f99).body.getD .skip, Tryz.func99, by kernel_rfl, by kernel_rfl, by kernel_rfl, by kernel_rfl, by kernel_rfl⟩
/-- assessor/attempts.right -/
def sc107 : SCode := .seq (.reg [⟨.box 1 52 4 (.t 0), none, []⟩,
 ⟨.mov 2 (.c (.bool false)), none, []⟩] false)
 (.seq (.seq (.reg [⟨.fad 3 (.t 1) 0, none, []⟩,
 ⟨.load 4 (.t 3) 1 false, none, []⟩,
 ⟨.bin 5 .lss (.t 4) (.c (.int .i64 0)), none, []⟩,
 ⟨.mov 6 (.t 5), none, []⟩,
 ⟨.fad 7 (.t 1) 0, some (6, false), []⟩,
 ⟨.load 8 (.t 7) 1 false, some (6, false), []⟩,
 ⟨.bin 9 .gtr (.t 8) (.c (.int .i64 2)), some (6, false), []⟩,
 ⟨.pick 10 (.t 6) (.c (.bool true)) (.t 9), none, []⟩,
 ⟨.mov 11 (.t 10), none, []⟩,
 ⟨.fad 12 (.t 1) 1, some (11, false), []⟩,
 ⟨.load 13 (.t 12) 1 false, some (11, false), []⟩,
 ⟨.bin 14 .lss (.t 13) (.c (.int .i64 1)), some (11, false), []⟩,
 ⟨.pick 15 (.t 11) (.c (.bool true)) (.t 14), none, []⟩,
 ⟨.mov 16 (.t 15), none, []⟩,
 ⟨.fad 17 (.t 1) 1, some (16, false), []⟩,
 ⟨.load 18 (.t 17) 1 false, some (16, false), []⟩,
 ⟨.bin 19 .gtr (.t 18) (.c (.int .i64 16)), some (16, false), []⟩,
 ⟨.pick 20 (.t 16) (.c (.bool true)) (.t 19), none, []⟩,
 ⟨.mov 21 (.t 20), none, []⟩,
 ⟨.fad 22 (.t 1) 2, some (21, false), []⟩,
 ⟨.load 23 (.t 22) 1 false, some (21, false), []⟩,
 ⟨.callT (some 24) (.c (.fn 108 [])) [(.t 23)], some (21, false), []⟩,
 ⟨.not 25 (.t 24), some (21, false), []⟩,
 ⟨.pick 26 (.t 21) (.c (.bool true)) (.t 25), none, []⟩] false)
 (.cond (.t 26) (.seq (.reg [⟨.mov 2 (.c (.bool false)), none, []⟩] false)
 (.ret)) (.skip)))
 (.seq (.seq (.reg [⟨.fad 27 (.t 1) 0, none, []⟩,
 ⟨.load 28 (.t 27) 1 false, none, []⟩,
 ⟨.bin 29 .neq (.t 28) (.c (.int .i64 2)), none, []⟩] false)
 (.cond (.t 29) (.seq (.reg [⟨.fad 30 (.t 1) 3, none, []⟩,
 ⟨.load 31 (.t 30) 1 false, none, []⟩,
 ⟨.bin 32 .eql (.t 31) (.c (.int .i64 0)), none, []⟩,
 ⟨.mov 2 (.t 32), none, []⟩] false)
 (.ret)) (.skip)))
 (.seq (.reg [⟨.fad 33 (.t 1) 3, none, []⟩,
 ⟨.load 34 (.t 33) 1 false, none, []⟩,
 ⟨.bin 35 .geq (.t 34) (.c (.int .i64 1)), none, []⟩,
 ⟨.mov 36 (.t 35), none, []⟩,
 ⟨.fad 37 (.t 1) 3, some (36, true), []⟩,
 ⟨.load 38 (.t 37) 1 false, some (36, true), []⟩,
 ⟨.fad 39 (.t 1) 1, some (36, true), []⟩,
 ⟨.load 40 (.t 39) 1 false, some (36, true), []⟩,
 ⟨.bin 41 .leq (.t 38) (.t 40), some (36, true), []⟩,
 ⟨.pick 42 (.t 36) (.t 41) (.c (.bool false)), none, []⟩,
 ⟨.mov 2 (.t 42), none, []⟩] false)
 (.ret))))
theorem ok107 : FnOK Tryz.prog 107 43 [.t 2] sc107 :=
 ⟨Tryz.call107, Tryz.f107, (Tryz.f107).body.getD .skip, Tryz.func107, by kernel_rfl, by kernel_rfl, by kernel_rfl, by kernel_rfl, by kernel_rfl⟩
/-- assessor/attempts.isTime -/
def sc108 : SCode := .seq (.reg [⟨.mov 2 (.c (.bool false)), none, []⟩] false)
 (.seq (.reg [⟨.mov 3 (.t 0), none, []⟩,
 ⟨.bin 4 .geq (.t 3) (.c (.int .i64 0)), none, []⟩,
 ⟨.mov 5 (.t 4), none, []⟩,
 ⟨.mov 6 (.t 0), some (5, true), []⟩,
 ⟨.bin 7 .leq (.t 6) (.c (.int .i64 1099511627776)), some (5, true), []⟩,
 ⟨.pick 8 (.t 5) (.t 7) (.c (.bool false)), none, []⟩,
 ⟨.mov 2 (.t 8), none, []⟩] false)
 (.ret))
theorem ok108 : FnOK Tryz.prog 108 9 [.t 2] sc108 :=
 ⟨Tryz.call108, Tryz.f108, (Tryz.f108).body.getD .skip, Tryz.func108, by kernel_rfl, by kernel_rfl, by kernel_rfl, by kernel_rfl, by kernel_rfl⟩
/-- assessor/attempts.chosen -/
def sc109 : SCode := .seq (.reg [⟨.box 2 52 4 (.t 0), none, []⟩,
 ⟨.mov 4 (.c (.nils)), none, []⟩] false)
 (.seq (.reg [⟨.mov 7 (.t 1), none, []⟩,
 ⟨.len 8 false (.t 7), none, []⟩,
 ⟨.mks 9 57 3 24 (.t 8) (.t 8) [.int .i64 0, .int .i64 0, .int .i64 0], none, []⟩,
 ⟨.mov 5 (.t 9), none, []⟩] false)
 (.seq (.reg [⟨.mov 10 (.t 5), none, []⟩,
 ⟨.mov 11 (.t 1), none, []⟩,
 ⟨.copy 12 3 (.t 10) (.t 11), none, []⟩] false)
 (.seq (.reg [⟨.mov 6 (.c (.int .i64 1)), none, []⟩] false)
 (.seq (.seq (.reg [⟨.fad 13 (.t 2) 0, none, []⟩,
 ⟨.load 14 (.t 13) 1 false, none, []⟩] false)
 (.block 0 (.seq (.reg [⟨.bin 21 .eql (.t 14) (.c (.int .i64 1)), none, []⟩,
 ⟨.mov 20 (.t 21), none, []⟩] false)
 (.cond (.t 20) (.reg [⟨.mov 22 (.t 5), none, []⟩,
 ⟨.callT (some 23) (.c (.fn 128 [])) [(.t 22)], none, []⟩] false) (.seq (.reg [⟨.fad 15 (.t 2) 3, none, []⟩,
 ⟨.load 16 (.t 15) 1 false, none, []⟩,
 ⟨.mx 17 (.c (.int .i64 1)) (.t 16), none, []⟩,
 ⟨.mov 6 (.t 17), none, []⟩] false)
 (.reg [⟨.mov 18 (.t 5), none, []⟩,
 ⟨.callT (some 19) (.c (.fn 129 [])) [(.t 18), (.c (.fn 130 []))], none, []⟩] false))))))
 (.seq (.reg [⟨.mov 24 (.t 5), none, []⟩,
 ⟨.mov 25 (.t 6), none, []⟩,
 ⟨.mov 26 (.t 5), none, []⟩,
 ⟨.len 27 false (.t 26), none, []⟩,
 ⟨.mn 28 (.t 25) (.t 27), none, []⟩,
 ⟨.slice 29 3 (.t 24) none (some (.t 28)), none, []⟩,
 ⟨.mov 4 (.t 29), none, []⟩] false)
 (.ret))))))
theorem ok109 : FnOK Tryz.prog 109 30 [.t 4] sc109 :=
 ⟨Tryz.call109, Tryz.f109, (Tryz.f109).body.getD .skip, Tryz.func109, by kernel_rfl, by kernel_rfl, by kernel_rfl, by kernel_rfl, by kernel_rfl⟩
/-- assessor/attempts.chosen$1 -/
def sc130 : SCode := .seq (.reg [⟨.box 2 57 3 (.t 0), none, []⟩,
 ⟨.box 3 57 3 (.t 1), none, []⟩,
 ⟨.mov 4 (.c (.int .i64 0)), none, []⟩] false)
 (.seq (.reg [⟨.fad 5 (.t 3) 2, none, []⟩,
 ⟨.load 6 (.t 5) 1 false, none, []⟩,
 ⟨.fad 7 (.t 2) 2, none, []⟩,
 ⟨.load 8 (.t 7) 1 false, none, []⟩,
 ⟨.callT (some 9) (.c (.fn 86 [])) [(.t 6), (.t 8)], none, []⟩,
 ⟨.mov 4 (.t 9), none, []⟩] false)
 (.ret))
theorem ok130 : FnOK Tryz.prog 130 10 [.t 4] sc130 :=
 ⟨Tryz.call130, Tryz.f130, (Tryz.f130).body.getD .skip, Tryz.func130, by kernel_rfl, by kernel_rfl, by kernel_rfl, by kernel_rfl, by kernel_rfl⟩
end Go.Proofs
end
/- part GRub -/
section
namespace Go.Proofs
open Go.Av
/-- assessor/rubrictext.FormatExpression -/
def sc100 : SCode := .seq (.reg [⟨.box 1 114 6 (.t 0), none, []⟩,
 ⟨.mov 2 (.c (.str [])), none, []⟩] false)
 (.seq (.seq (.reg [⟨.load 4 (.t 1) 6 true, none, []⟩,
 ⟨.callT (some 5) (.c (.fn 118 [])) [(.t 4)], none, []⟩,
 ⟨.bin 6 .gtr (.t 5) (.c (.int .i64 32)), none, []⟩,
 ⟨.mov 7 (.t 6), none, []⟩,
 ⟨.load 8 (.t 1) 6 true, some (7, false), []⟩,
 ⟨.callT (some 9) (.c (.fn 119 [])) [(.t 8)], some (7, false), []⟩,
 ⟨.not 10 (.t 9), some (7, false), []⟩,
 ⟨.pick 11 (.t 7) (.c (.bool true)) (.t 10), none, []⟩] false)
 (.cond (.t 11) (.seq (.reg [⟨.mov 2 (.c (.str [])), none, []⟩] false)
 (.ret)) (.skip)))
 (.seq (.reg [⟨.load 12 (.t 1) 6 true, none, []⟩,
 ⟨.callT (some 13) (.c (.fn 120 [])) [(.t 12)], none, []⟩,
 ⟨.mov 3 (.t 13), none, []⟩] false)
 (.seq (.seq (.reg [⟨.mov 14 (.t 3), none, []⟩,
 ⟨.len 15 true (.t 14), none, []⟩,
 ⟨.bin 16 .gtr (.t 15) (.c (.int .i64 16384)), none, []⟩] false)
 (.cond (.t 16) (.seq (.reg [⟨.mov 2 (.c (.str [])), none, []⟩] false)
 (.ret)) (.skip)))
 (.seq (.reg [⟨.mov 17 (.t 3), none, []⟩,
 ⟨.mov 2 (.t 17), none, []⟩] false)
 (.ret)))))
theorem ok100 : FnOK Tryz.prog 100 18 [.t 2] sc100 :=
 ⟨Tryz.call100, Tryz.f100, (Tryz.f100).body.getD .skip, Tryz.func100, by kernel_rfl, by kernel_rfl, by kernel_rfl, by kernel_rfl, by kernel_rfl⟩
/-- assessor/rubrictext.depth -/
def sc118 : SCode := .seq (.reg [⟨.box 1 114 6 (.t 0), none, []⟩,
 ⟨.mov 2 (.c (.int .i64 0)), none, []⟩] false)
 (.seq (.reg [⟨.mov 3 (.c (.int .i64 0)), none, []⟩] false)
 (.seq (.seq (.reg [⟨.fad 6 (.t 1) 5, none, []⟩,
 ⟨.load 7 (.t 6) 1 false, none, []⟩,
 ⟨.len 8 false (.t 7), none, []⟩,
 ⟨.mov 9 (.c (.int .i64 0)), none, []⟩] false)
 (.block 0 (.loop (.seq (.reg [⟨.bin 10 .lss (.t 9) (.t 8), none, []⟩] false)
 (.seq (.cond (.t 10) (.skip) (.exit 0))
 (.seq (.block 1 (.seq (.reg [⟨.idx 11 (.t 7) (.t 9) 6, none, []⟩,
 ⟨.load 12 (.t 11) 6 true, none, []⟩,
 ⟨.alloc 5 114 [.int .i64 0, .str [], .int .i64 0, .int .i64 0, .int .i64 0, .nils], none, []⟩,
 ⟨.store (.t 5) (.t 12) 6, none, []⟩] false)
 (.reg [⟨.mov 13 (.t 3), none, []⟩,
 ⟨.load 14 (.t 5) 6 true, none, []⟩,
 ⟨.callT (some 15) (.c (.fn 118 [])) [(.t 14)], none, []⟩,
 ⟨.mx 16 (.t 13) (.t 15), none, []⟩,
 ⟨.mov 3 (.t 16), none, []⟩] false)))
 (.reg [⟨.bin 17 .add (.t 9) (.c (.int .i64 1)), none, []⟩,
 ⟨.mov 9 (.t 17), none, []⟩] false)))))))
 (.seq (.reg [⟨.mov 18 (.t 3), none, []⟩,
 ⟨.bin 19 .add (.t 18) (.c (.int .i64 1)), none, []⟩,
 ⟨.mov 2 (.t 19), none, []⟩] false)
 (.ret))))
theorem ok118 : FnOK Tryz.prog 118 20 [.t 2] sc118 :=
 ⟨Tryz.call118, Tryz.f118, (Tryz.f118).body.getD .skip, Tryz.func118, by kernel_rfl, by kernel_rfl, by kernel_rfl, by kernel_rfl, by kernel_rfl⟩
/-- assessor/rubrictext.right -/
def sc119 : SCode := .seq (.reg [⟨.box 1 114 6 (.t 0), none, []⟩,
 ⟨.mov 2 (.c (.bool false)), none, []⟩] false)
 (.seq (.seq (.reg [⟨.fad 7 (.t 1) 0, none, []⟩,
 ⟨.load 8 (.t 7) 1 false, none, []⟩] false)
 (.block 0 (.seq (.reg [⟨.bin 10 .eql (.t 8) (.c (.int .i64 1)), none, []⟩,
 ⟨.mov 9 (.t 10), none, []⟩] false)
 (.cond (.t 9) (.seq (.reg [⟨.fad 12 (.t 1) 2, none, []⟩,
 ⟨.load 13 (.t 12) 2 true, none, []⟩,
 ⟨.callT (some 14) (.c (.fn 140 [])) [(.t 13)], none, []⟩,
 ⟨.mov 11 (.t 14), none, []⟩,
 ⟨.ext 15 (.t 11) 0, none, []⟩,
 ⟨.ext 16 (.t 11) 1, none, []⟩,
 ⟨.mov 3 (.t 15), none, []⟩,
 ⟨.mov 4 (.t 16), none, []⟩] false)
 (.seq (.reg [⟨.mov 17 (.t 4), none, []⟩,
 ⟨.mov 18 (.t 17), none, []⟩,
 ⟨.fad 19 (.t 1) 1, some (18, true), []⟩,
 ⟨.load 20 (.t 19) 1 false, some (18, true), []⟩,
 ⟨.bin 21 .eql (.t 20) (.c (.str [])), some (18, true), []⟩,
 ⟨.pick 22 (.t 18) (.t 21) (.c (.bool false)), none, []⟩,
 ⟨.mov 23 (.t 22), none, []⟩,
 ⟨.fad 24 (.t 1) 5, some (23, true), []⟩,
 ⟨.load 25 (.t 24) 1 false, some (23, true), []⟩,
 ⟨.len 26 false (.t 25), some (23, true), []⟩,
 ⟨.bin 27 .eql (.t 26) (.c (.int .i64 0)), some (23, true), []⟩,
 ⟨.pick 28 (.t 23) (.t 27) (.c (.bool false)), none, []⟩,
 ⟨.mov 2 (.t 28), none, []⟩] false)
 (.ret))) (.seq (.reg [⟨.bin 30 .eql (.t 8) (.c (.int .i64 2)), none, []⟩,
 ⟨.mov 29 (.t 30), none, []⟩] false)
 (.cond (.t 29) (.seq (.reg [⟨.fad 31 (.t 1) 1, none, []⟩,
 ⟨.load 32 (.t 31) 1 false, none, []⟩,
 ⟨.callT (some 33) (.c (.fn 141 [])) [(.t 32)], none, []⟩,
 ⟨.mov 34 (.t 33), none, []⟩,
 ⟨.fad 35 (.t 1) 2, some (34, true), []⟩,
 ⟨.load 36 (.t 35) 2 true, some (34, true), []⟩,
 ⟨.build 37 [.int .i64 0, .int .i64 0] [], some (34, true), []⟩,
 ⟨.eqa 38 false [.i, .i] (.t 36) (.t 37), some (34, true), []⟩,
 ⟨.pick 39 (.t 34) (.t 38) (.c (.bool false)), none, []⟩,
 ⟨.mov 40 (.t 39), none, []⟩,
 ⟨.fad 41 (.t 1) 5, some (40, true), []⟩,
 ⟨.load 42 (.t 41) 1 false, some (40, true), []⟩,
 ⟨.len 43 false (.t 42), some (40, true), []⟩,
 ⟨.bin 44 .eql (.t 43) (.c (.int .i64 0)), some (40, true), []⟩,
 ⟨.pick 45 (.t 40) (.t 44) (.c (.bool false)), none, []⟩,
 ⟨.mov 2 (.t 45), none, []⟩] false)
 (.ret)) (.seq (.seq (.reg [⟨.bin 47 .eql (.t 8) (.c (.int .i64 3)), none, []⟩,
 ⟨.mov 46 (.t 47), none, []⟩] false)
 (.cond (.t 46) (.skip) (.reg [⟨.bin 48 .eql (.t 8) (.c (.int .i64 4)), none, []⟩,
 ⟨.mov 46 (.t 48), none, []⟩] false)))
 (.cond (.t 46) (.seq (.reg [⟨.load 49 (.t 1) 6 true, none, []⟩,
 ⟨.callT (some 50) (.c (.fn 142 [])) [(.t 49), (.c (.int .i64 0)), (.c (.int .i64 0))], none, []⟩,
 ⟨.mov 2 (.t 50), none, []⟩] false)
 (.ret)) (.seq (.seq (.reg [⟨.bin 52 .eql (.t 8) (.c (.int .i64 5)), none, []⟩,
 ⟨.mov 51 (.t 52), none, []⟩] false)
 (.cond (.t 51) (.skip) (.reg [⟨.bin 53 .eql (.t 8) (.c (.int .i64 18)), none, []⟩,
 ⟨.mov 51 (.t 53), none, []⟩] false)))
 (.cond (.t 51) (.seq (.reg [⟨.load 54 (.t 1) 6 true, none, []⟩,
 ⟨.callT (some 55) (.c (.fn 142 [])) [(.t 54), (.c (.int .i64 1)), (.c (.int .i64 1))], none, []⟩,
 ⟨.mov 2 (.t 55), none, []⟩] false)
 (.ret)) (.seq (.seq (.reg [⟨.bin 57 .eql (.t 8) (.c (.int .i64 10)), none, []⟩,
 ⟨.mov 56 (.t 57), none, []⟩] false)
 (.cond (.t 56) (.skip) (.reg [⟨.bin 58 .eql (.t 8) (.c (.int .i64 11)), none, []⟩,
 ⟨.mov 56 (.t 58), none, []⟩] false)))
 (.cond (.t 56) (.seq (.reg [⟨.load 59 (.t 1) 6 true, none, []⟩,
 ⟨.fad 60 (.t 1) 5, none, []⟩,
 ⟨.load 61 (.t 60) 1 false, none, []⟩,
 ⟨.len 62 false (.t 61), none, []⟩,
 ⟨.callT (some 63) (.c (.fn 142 [])) [(.t 59), (.c (.int .i64 1)), (.t 62)], none, []⟩,
 ⟨.mov 2 (.t 63), none, []⟩] false)
 (.ret)) (.skip)))))))))))))
 (.seq (.reg [⟨.callT (some 65) (.c (.fn 143 [])) [], none, []⟩,
 ⟨.fad 66 (.t 1) 0, none, []⟩,
 ⟨.load 67 (.t 66) 1 false, none, [1]⟩,
 ⟨.bad, none, [0, 2]⟩,
 ⟨.mov 64 (.t 68), none, [3]⟩,
 ⟨.ext 69 (.t 64) 0, none, [4]⟩,
 ⟨.ext 70 (.t 64) 1, none, [4]⟩,
 ⟨.mov 5 (.t 69), none, [5, 0, 0, 1, 2, 3, 4, 5]⟩,
 ⟨.mov 6 (.t 70), none, [6, 7, 0, 1, 2, 3, 4, 5, 6, 7]⟩] true)
 (.seq (.reg [⟨.mov 71 (.t 6), none, []⟩,
 ⟨.mov 72 (.t 71), none, []⟩,
 ⟨.load 73 (.t 1) 6 true, some (72, true), []⟩,
 ⟨.callT (some 74) (.c (.fn 142 [])) [(.t 73), (.c (.int .i64 2)), (.c (.int .i64 2))], some (72, true), []⟩,
 ⟨.pick 75 (.t 72) (.t 74) (.c (.bool false)), none, []⟩,
 ⟨.mov 2 (.t 75), none, []⟩] false)
 (.ret))))
theorem ok119 : FnOK Tryz.prog 119 76 [.t 2] sc119 :=
 ⟨Tryz.call119, Tryz.f119, (Tryz.f119).body.getD .skip, Tryz.func119, by kernel_rfl, by kernel_rfl, by kernel_rfl, by kernel_rfl, by kernel_rfl⟩
/-- assessor/rubrictext.format -/
def sc120 : SCode := .seq (.reg [⟨.box 1 114 6 (.t 0), none, []⟩,
 ⟨.mov 2 (.c (.str [])), none, []⟩] false)
 (.seq (.seq (.reg [⟨.fad 10 (.t 1) 0, none, []⟩,
 ⟨.load 11 (.t 10) 1 false, none, []⟩] false)
 (.block 0 (.seq (.reg [⟨.bin 13 .eql (.t 11) (.c (.int .i64 1)), none, []⟩,
 ⟨.mov 12 (.t 13), none, []⟩] false)
 (.cond (.t 12) (.seq (.reg [⟨.fad 15 (.t 1) 2, none, []⟩,
 ⟨.load 16 (.t 15) 2 true, none, []⟩,
 ⟨.callT (some 17) (.c (.fn 140 [])) [(.t 16)], none, []⟩,
 ⟨.mov 14 (.t 17), none, []⟩,
 ⟨.ext 18 (.t 14) 0, none, []⟩,
 ⟨.ext 19 (.t 14) 1, none, []⟩,
 ⟨.mov 3 (.t 18), none, []⟩,
 ⟨.mov 4 (.t 19), none, []⟩] false)
 (.seq (.reg [⟨.mov 20 (.t 3), none, []⟩,
 ⟨.mov 2 (.t 20), none, []⟩] false)
 (.ret))) (.seq (.reg [⟨.bin 22 .eql (.t 11) (.c (.int .i64 2)), none, []⟩,
 ⟨.mov 21 (.t 22), none, []⟩] false)
 (.cond (.t 21) (.seq (.reg [⟨.fad 23 (.t 1) 1, none, []⟩,
 ⟨.load 24 (.t 23) 1 false, none, []⟩,
 ⟨.mov 2 (.t 24), none, []⟩] false)
 (.ret)) (.seq (.reg [⟨.bin 26 .eql (.t 11) (.c (.int .i64 3)), none, []⟩,
 ⟨.mov 25 (.t 26), none, []⟩] false)
 (.cond (.t 25) (.seq (.reg [⟨.mov 2 (.c (.str [116, 114, 117, 101])), none, []⟩] false)
 (.ret)) (.seq (.reg [⟨.bin 28 .eql (.t 11) (.c (.int .i64 4)), none, []⟩,
 ⟨.mov 27 (.t 28), none, []⟩] false)
 (.cond (.t 27) (.seq (.reg [⟨.mov 2 (.c (.str [102, 97, 108, 115, 101])), none, []⟩] false)
 (.ret)) (.seq (.reg [⟨.bin 30 .eql (.t 11) (.c (.int .i64 5)), none, []⟩,
 ⟨.mov 29 (.t 30), none, []⟩] false)
 (.cond (.t 29) (.seq (.reg [⟨.fad 31 (.t 1) 5, none, []⟩,
 ⟨.load 32 (.t 31) 1 false, none, []⟩,
 ⟨.idx 33 (.t 32) (.c (.int .i64 0)) 6, none, []⟩,
 ⟨.load 34 (.t 33) 6 true, none, []⟩,
 ⟨.callT (some 35) (.c (.fn 144 [])) [(.t 34), (.c (.int .i64 6))], none, []⟩,
 ⟨.bin 36 .add (.c (.str [45])) (.t 35), none, []⟩,
 ⟨.mov 2 (.t 36), none, []⟩] false)
 (.ret)) (.seq (.reg [⟨.bin 38 .eql (.t 11) (.c (.int .i64 18)), none, []⟩,
 ⟨.mov 37 (.t 38), none, []⟩] false)
 (.cond (.t 37) (.seq (.reg [⟨.fad 39 (.t 1) 5, none, []⟩,
 ⟨.load 40 (.t 39) 1 false, none, []⟩,
 ⟨.idx 41 (.t 40) (.c (.int .i64 0)) 6, none, []⟩,
 ⟨.load 42 (.t 41) 6 true, none, []⟩,
 ⟨.callT (some 43) (.c (.fn 144 [])) [(.t 42), (.c (.int .i64 2))], none, []⟩,
 ⟨.bin 44 .add (.c (.str [110, 111, 116, 32])) (.t 43), none, []⟩,
 ⟨.mov 2 (.t 44), none, []⟩] false)
 (.ret)) (.seq (.seq (.reg [⟨.bin 46 .eql (.t 11) (.c (.int .i64 10)), none, []⟩,
 ⟨.mov 45 (.t 46), none, []⟩] false)
 (.cond (.t 45) (.skip) (.reg [⟨.bin 47 .eql (.t 11) (.c (.int .i64 11)), none, []⟩,
 ⟨.mov 45 (.t 47), none, []⟩] false)))
 (.cond (.t 45) (.seq (.reg [⟨.mov 5 (.c (.nils)), none, []⟩] false)
 (.seq (.seq (.reg [⟨.fad 48 (.t 1) 5, none, []⟩,
 ⟨.load 49 (.t 48) 1 false, none, []⟩,
 ⟨.len 50 false (.t 49), none, []⟩,
 ⟨.mov 51 (.c (.int .i64 0)), none, []⟩] false)
 (.block 1 (.loop (.seq (.reg [⟨.bin 52 .lss (.t 51) (.t 50), none, []⟩] false)
 (.seq (.cond (.t 52) (.skip) (.exit 1))
 (.seq (.block 2 (.seq (.reg [⟨.idx 53 (.t 49) (.t 51) 6, none, []⟩,
 ⟨.load 54 (.t 53) 6 true, none, []⟩,
 ⟨.alloc 7 114 [.int .i64 0, .str [], .int .i64 0, .int .i64 0, .int .i64 0, .nils], none, []⟩,
 ⟨.store (.t 7) (.t 54) 6, none, []⟩] false)
 (.reg [⟨.mov 55 (.t 5), none, []⟩,
 ⟨.load 56 (.t 7) 6 true, none, []⟩,
 ⟨.callT (some 57) (.c (.fn 120 [])) [(.t 56)], none, []⟩,
 ⟨.bsl 58 9 1 1 [(0, (.t 57))], none, []⟩,
 ⟨.app 59 9 1 16 (.t 55) (.t 58), none, []⟩,
 ⟨.mov 5 (.t 59), none, []⟩] false)))
 (.reg [⟨.bin 60 .add (.t 51) (.c (.int .i64 1)), none, []⟩,
 ⟨.mov 51 (.t 60), none, []⟩] false)))))))
 (.seq (.seq (.reg [⟨.fad 61 (.t 1) 0, none, []⟩,
 ⟨.load 62 (.t 61) 1 false, none, []⟩,
 ⟨.bin 63 .eql (.t 62) (.c (.int .i64 10)), none, []⟩] false)
 (.cond (.t 63) (.seq (.reg [⟨.mov 64 (.t 5), none, []⟩,
 ⟨.callT (some 65) (.c (.fn 145 [])) [(.t 64), (.c (.str [44, 32]))], none, []⟩,
 ⟨.bin 66 .add (.c (.str [109, 105, 110, 40])) (.t 65), none, []⟩,
 ⟨.bin 67 .add (.t 66) (.c (.str [41])), none, []⟩,
 ⟨.mov 2 (.t 67), none, []⟩] false)
 (.ret)) (.skip)))
 (.seq (.reg [⟨.mov 68 (.t 5), none, []⟩,
 ⟨.callT (some 69) (.c (.fn 145 [])) [(.t 68), (.c (.str [44, 32]))], none, []⟩,
 ⟨.bin 70 .add (.c (.str [109, 97, 120, 40])) (.t 69), none, []⟩,
 ⟨.bin 71 .add (.t 70) (.c (.str [41])), none, []⟩,
 ⟨.mov 2 (.t 71), none, []⟩] false)
 (.ret))))) (.skip)))))))))))))))))
 (.seq (.reg [⟨.load 72 (.t 1) 6 true, none, []⟩,
 ⟨.callT (some 73) (.c (.fn 146 [])) [(.t 72)], none, []⟩,
 ⟨.mov 8 (.t 73), none, []⟩] false)
 (.seq (.reg [⟨.mov 74 (.t 8), none, []⟩,
 ⟨.mov 9 (.t 74), none, []⟩] false)
 (.seq (.seq (.reg [⟨.mov 75 (.t 8), none, []⟩,
 ⟨.bin 76 .eql (.t 75) (.c (.int .i64 3)), none, []⟩] false)
 (.cond (.t 76) (.reg [⟨.mov 77 (.t 9), none, []⟩,
 ⟨.bin 78 .add (.t 77) (.c (.int .i64 1)), none, []⟩,
 ⟨.mov 9 (.t 78), none, []⟩] false) (.skip)))
 (.seq (.reg [⟨.fad 79 (.t 1) 5, none, []⟩,
 ⟨.load 80 (.t 79) 1 false, none, [0]⟩,
 ⟨.idx 81 (.t 80) (.c (.int .i64 0)) 6, none, [1]⟩,
 ⟨.load 82 (.t 81) 6 true, none, [2]⟩,
 ⟨.mov 83 (.t 9), none, []⟩,
 ⟨.callT (some 84) (.c (.fn 144 [])) [(.t 82), (.t 83)], none, [3, 4]⟩,
 ⟨.bin 85 .add (.t 84) (.c (.str [32])), none, [5]⟩,
 ⟨.callT (some 86) (.c (.fn 143 [])) [], none, [5]⟩,
 ⟨.fad 87 (.t 1) 0, none, []⟩,
 ⟨.load 88 (.t 87) 1 false, none, [8]⟩,
 ⟨.bad, none, [7, 9]⟩,
 ⟨.bin 90 .add (.t 85) (.t 89), none, [6, 10]⟩,
 ⟨.bin 91 .add (.t 90) (.c (.str [32])), none, [11]⟩,
 ⟨.fad 92 (.t 1) 5, none, []⟩,
 ⟨.load 93 (.t 92) 1 false, none, [13]⟩,
 ⟨.idx 94 (.t 93) (.c (.int .i64 1)) 6, none, [14]⟩,
 ⟨.load 95 (.t 94) 6 true, none, [15]⟩,
 ⟨.mov 96 (.t 8), none, []⟩,
 ⟨.bin 97 .add (.t 96) (.c (.int .i64 1)), none, [17]⟩,
 ⟨.callT (some 98) (.c (.fn 144 [])) [(.t 95), (.t 97)], none, [16, 18, 7]⟩,
 ⟨.bin 99 .add (.t 91) (.t 98), none, [12, 19]⟩,
 ⟨.mov 2 (.t 99), none, [20, 19, 0, 1, 2, 3, 4, 5, 6, 7, 8, 9, 10, 11, 12, 13, 14, 15, 16, 17, 18, 19, 20]⟩] true)
 (.ret))))))
theorem ok120 : FnOK Tryz.prog 120 100 [.t 2] sc120 :=
 ⟨Tryz.call120, Tryz.f120, (Tryz.f120).body.getD .skip, Tryz.func120, by kernel_rfl, by kernel_rfl, by kernel_rfl, by kernel_rfl, by kernel_rfl⟩
/-- assessor/rubrictext.name -/
def sc141 : SCode := .seq (.reg [⟨.mov 2 (.c (.bool false)), none, []⟩] false)
 (.seq (.reg [⟨.mov 3 (.t 0), none, []⟩,
 ⟨.bin 4 .neq (.t 3) (.c (.str [])), none, []⟩,
 ⟨.mov 5 (.t 4), none, []⟩,
 ⟨.mov 6 (.t 0), some (5, true), []⟩,
 ⟨.len 7 true (.t 6), some (5, true), []⟩,
 ⟨.bin 8 .leq (.t 7) (.c (.int .i64 16)), some (5, true), []⟩,
 ⟨.pick 9 (.t 5) (.t 8) (.c (.bool false)), none, []⟩,
 ⟨.mov 10 (.t 9), none, []⟩,
 ⟨.mov 11 (.t 0), some (10, true), []⟩,
 ⟨.ind 12 (.t 11) (.c (.int .i64 0)), some (10, true), []⟩,
 ⟨.callT (some 13) (.c (.fn 168 [])) [(.t 12)], some (10, true), []⟩,
 ⟨.pick 14 (.t 10) (.t 13) (.c (.bool false)), none, []⟩,
 ⟨.mov 15 (.t 14), none, []⟩,
 ⟨.mov 16 (.t 0), some (15, true), []⟩,
 ⟨.callT (some 17) (.c (.fn 169 [])) [(.t 16), (.c (.fn 170 []))], some (15, true), []⟩,
 ⟨.mov 18 (.t 0), some (15, true), []⟩,
 ⟨.len 19 true (.t 18), some (15, true), []⟩,
 ⟨.bin 20 .eql (.t 17) (.t 19), some (15, true), []⟩,
 ⟨.pick 21 (.t 15) (.t 20) (.c (.bool false)), none, []⟩,
 ⟨.mov 22 (.t 21), none, []⟩,
 ⟨.callT (some 23) (.c (.fn 172 [])) [], some (22, true), []⟩,
 ⟨.mov 24 (.t 0), some (22, true), []⟩,
 ⟨.callT (some 25) (.c (.fn 171 [])) [(.t 23), (.t 24)], some (22, true), []⟩,
 ⟨.not 26 (.t 25), some (22, true), []⟩,
 ⟨.pick 27 (.t 22) (.t 26) (.c (.bool false)), none, []⟩,
 ⟨.mov 2 (.t 27), none, []⟩] false)
 (.ret))
theorem ok141 : FnOK Tryz.prog 141 28 [.t 2] sc141 :=
 ⟨Tryz.call141, Tryz.f141, (Tryz.f141).body.getD .skip, Tryz.func141, by kernel_rfl, by kernel_rfl, by kernel_rfl, by kernel_rfl, by kernel_rfl⟩
/-- assessor/rubrictext.letter -/
def sc168 : SCode := .seq (.reg [⟨.mov 2 (.c (.bool false)), none, []⟩] false)
 (.seq (.reg [⟨.mov 3 (.t 0), none, []⟩,
 ⟨.bin 4 .geq (.t 3) (.c (.int .u8 97)), none, []⟩,
 ⟨.mov 5 (.t 4), none, []⟩,
 ⟨.mov 6 (.t 0), some (5, true), []⟩,
 ⟨.bin 7 .leq (.t 6) (.c (.int .u8 122)), some (5, true), []⟩,
 ⟨.pick 8 (.t 5) (.t 7) (.c (.bool false)), none, []⟩,
 ⟨.mov 2 (.t 8), none, []⟩] false)
 (.ret))
theorem ok168 : FnOK Tryz.prog 168 9 [.t 2] sc168 :=
 ⟨Tryz.call168, Tryz.f168, (Tryz.f168).body.getD .skip, Tryz.func168, by kernel_rfl, by kernel_rfl, by kernel_rfl, by kernel_rfl, by kernel_rfl⟩
/-- assessor/rubrictext.run -/
def sc169 : SCode := .seq (.reg [⟨.mov 4 (.c (.int .i64 0)), none, []⟩] false)
 (.seq (.reg [⟨.mov 5 (.c (.int .i64 0)), none, []⟩] false)
 (.seq (.block 0 (.loop (.seq (.seq (.reg [⟨.mov 6 (.t 5), none, []⟩,
 ⟨.mov 7 (.t 0), none, []⟩,
 ⟨.len 8 true (.t 7), none, []⟩,
 ⟨.bin 9 .lss (.t 6) (.t 8), none, []⟩,
 ⟨.mov 10 (.t 9), none, []⟩,
 ⟨.mov 11 (.t 1), some (10, true), []⟩,
 ⟨.mov 12 (.t 0), some (10, true), []⟩,
 ⟨.mov 13 (.t 5), some (10, true), []⟩,
 ⟨.ind 14 (.t 12) (.t 13), some (10, true), []⟩,
 ⟨.callT (some 15) (.t 11) [(.t 14)], some (10, true), []⟩,
 ⟨.pick 16 (.t 10) (.t 15) (.c (.bool false)), none, []⟩] false)
 (.cond (.t 16) (.skip) (.exit 0)))
 (.block 1 (.reg [⟨.mov 17 (.t 5), none, []⟩,
 ⟨.bin 18 .add (.t 17) (.c (.int .i64 1)), none, []⟩,
 ⟨.mov 5 (.t 18), none, []⟩] false)))))
 (.seq (.reg [⟨.mov 19 (.t 5), none, []⟩,
 ⟨.mov 4 (.t 19), none, []⟩] false)
 (.ret))))
theorem ok169 : FnOK Tryz.prog 169 20 [.t 4] sc169 :=
 ⟨Tryz.call169, Tryz.f169, (Tryz.f169).body.getD .skip, Tryz.func169, by kernel_rfl, by kernel_rfl, by kernel_rfl, by kernel_rfl, by kernel_rfl⟩
/-- assessor/rubrictext.inName -/
def sc170 : SCode := .seq (.reg [⟨.mov 2 (.c (.bool false)), none, []⟩] false)
 (.seq (.reg [⟨.mov 3 (.t 0), none, []⟩,
 ⟨.callT (some 4) (.c (.fn 168 [])) [(.t 3)], none, []⟩,
 ⟨.mov 5 (.t 4), none, []⟩,
 ⟨.mov 6 (.t 0), some (5, false), []⟩,
 ⟨.callT (some 7) (.c (.fn 190 [])) [(.t 6)], some (5, false), []⟩,
 ⟨.pick 8 (.t 5) (.c (.bool true)) (.t 7), none, []⟩,
 ⟨.mov 9 (.t 8), none, []⟩,
 ⟨.mov 10 (.t 0), some (9, false), []⟩,
 ⟨.bin 11 .eql (.t 10) (.c (.int .u8 95)), some (9, false), []⟩,
 ⟨.pick 12 (.t 9) (.c (.bool true)) (.t 11), none, []⟩,
 ⟨.mov 2 (.t 12), none, []⟩] false)
 (.ret))
theorem ok170 : FnOK Tryz.prog 170 13 [.t 2] sc170 :=
 ⟨Tryz.call170, Tryz.f170, (Tryz.f170).body.getD .skip, Tryz.func170, by kernel_rfl, by kernel_rfl, by kernel_rfl, by kernel_rfl, by kernel_rfl⟩
/-- assessor/rubrictext.keywords -/
def sc172 : SCode := .seq (.reg [⟨.mov 0 (.c (.nils)), none, []⟩] false)
 (.seq (.reg [⟨.bsl 1 9 1 13 [(0, (.c (.str [112, 111, 105, 110, 116, 115]))), (1, (.c (.str [112, 101, 110, 97, 108, 116, 121]))), (2, (.c (.str [99, 97, 112]))), (3, (.c (.str [102, 108, 111, 111, 114]))), (4, (.c (.str [105, 110]))), (5, (.c (.str [105, 102]))), (6, (.c (.str [97, 110, 100]))), (7, (.c (.str [111, 114]))), (8, (.c (.str [110, 111, 116]))), (9, (.c (.str [116, 114, 117, 101]))), (10, (.c (.str [102, 97, 108, 115, 101]))), (11, (.c (.str [109, 105, 110]))), (12, (.c (.str [109, 97, 120])))], none, []⟩,
 ⟨.mov 0 (.t 1), none, []⟩] false)
 (.ret))
theorem ok172 : FnOK Tryz.prog 172 2 [.t 0] sc172 :=
 ⟨Tryz.call172, Tryz.f172, (Tryz.f172).body.getD .skip, Tryz.func172, by kernel_rfl, by kernel_rfl, by kernel_rfl, by kernel_rfl, by kernel_rfl⟩
/-- assessor/rubrictext.digit -/
def sc190 : SCode := .seq (.reg [⟨.mov 2 (.c (.bool false)), none, []⟩] false)
 (.seq (.reg [⟨.mov 3 (.t 0), none, []⟩,
 ⟨.bin 4 .geq (.t 3) (.c (.int .u8 48)), none, []⟩,
 ⟨.mov 5 (.t 4), none, []⟩,
 ⟨.mov 6 (.t 0), some (5, true), []⟩,
 ⟨.bin 7 .leq (.t 6) (.c (.int .u8 57)), some (5, true), []⟩,
 ⟨.pick 8 (.t 5) (.t 7) (.c (.bool false)), none, []⟩,
 ⟨.mov 2 (.t 8), none, []⟩] false)
 (.ret))
theorem ok190 : FnOK Tryz.prog 190 9 [.t 2] sc190 :=
 ⟨Tryz.call190, Tryz.f190, (Tryz.f190).body.getD .skip, Tryz.func190, by kernel_rfl, by kernel_rfl, by kernel_rfl, by kernel_rfl, by kernel_rfl⟩
end Go.Proofs
end
/- part GRef -/
section
namespace Go.Proofs
open Go.Av
/-- assessor/assessorref55.Few -/
def sc12 : SCode := .seq (.reg [⟨.mov 4 (.c (.bool false)), none, []⟩] false)
 (.seq (.seq (.reg [⟨.mov 5 (.c (.int .i64 0)), none, []⟩] false)
 (.block 0 (.loop (.seq (.seq (.reg [⟨.mov 6 (.t 5), none, []⟩,
 ⟨.mov 7 (.t 0), none, []⟩,
 ⟨.len 8 false (.t 7), none, []⟩,
 ⟨.bin 9 .lss (.t 6) (.t 8), none, []⟩] false)
 (.cond (.t 9) (.skip) (.exit 0)))
 (.seq (.block 1 (.seq (.reg [⟨.mov 12 (.t 0), none, []⟩,
 ⟨.mov 13 (.t 5), none, []⟩,
 ⟨.idx 14 (.t 12) (.t 13) 9, none, []⟩,
 ⟨.fad 15 (.t 14) 7, none, []⟩,
 ⟨.load 16 (.t 15) 1 false, none, []⟩,
 ⟨.len 17 true (.t 16), none, []⟩,
 ⟨.bin 18 .gtr (.t 17) (.c (.int .i64 60)), none, []⟩,
 ⟨.mov 19 (.t 18), none, []⟩,
 ⟨.mov 20 (.t 0), some (19, false), []⟩,
 ⟨.mov 21 (.t 5), some (19, false), []⟩,
 ⟨.idx 22 (.t 20) (.t 21) 9, some (19, false), []⟩,
 ⟨.fad 23 (.t 22) 1, some (19, false), []⟩,
 ⟨.fad 24 (.t 23) 0, some (19, false), []⟩,
 ⟨.load 25 (.t 24) 1 false, some (19, false), []⟩,
 ⟨.len 26 true (.t 25), some (19, false), []⟩,
 ⟨.bin 27 .gtr (.t 26) (.c (.int .i64 40)), some (19, false), []⟩,
 ⟨.pick 28 (.t 19) (.c (.bool true)) (.t 27), none, []⟩,
 ⟨.mov 29 (.t 28), none, []⟩,
 ⟨.mov 30 (.t 0), some (29, false), []⟩,
 ⟨.mov 31 (.t 5), some (29, false), []⟩,
 ⟨.idx 32 (.t 30) (.t 31) 9, some (29, false), []⟩,
 ⟨.fad 33 (.t 32) 1, some (29, false), []⟩,
 ⟨.fad 34 (.t 33) 1, some (29, false), []⟩,
 ⟨.load 35 (.t 34) 1 false, some (29, false), []⟩,
 ⟨.len 36 true (.t 35), some (29, false), []⟩,
 ⟨.bin 37 .gtr (.t 36) (.c (.int .i64 40)), some (29, false), []⟩,
 ⟨.pick 38 (.t 29) (.c (.bool true)) (.t 37), none, []⟩] false)
 (.cond (.t 38) (.seq (.reg [⟨.mov 4 (.c (.bool false)), none, []⟩] false)
 (.ret)) (.skip))))
 (.reg [⟨.mov 10 (.t 5), none, []⟩,
 ⟨.bin 11 .add (.t 10) (.c (.int .i64 1)), none, []⟩,
 ⟨.mov 5 (.t 11), none, []⟩] false))))))
 (.seq (.reg [⟨.mov 39 (.t 0), none, []⟩,
 ⟨.len 40 false (.t 39), none, []⟩,
 ⟨.mov 41 (.t 1), none, []⟩,
 ⟨.bin 42 .leq (.t 40) (.t 41), none, []⟩,
 ⟨.mov 4 (.t 42), none, []⟩] false)
 (.ret)))
theorem ok12 : FnOK Tryz.prog 12 43 [.t 4] sc12 :=
 ⟨Tryz.call12, Tryz.f12, (Tryz.f12).body.getD .skip, Tryz.func12, by kernel_rfl, by kernel_rfl, by kernel_rfl, by kernel_rfl, by kernel_rfl⟩
/-- assessor/assessorref55.Same -/
def sc17 : SCode := .seq (.reg [⟨.box 2 31 2 (.t 0), none, []⟩,
 ⟨.box 3 31 2 (.t 1), none, []⟩,
 ⟨.mov 4 (.c (.bool false)), none, []⟩] false)
 (.seq (.seq (.reg [⟨.fad 10 (.t 2) 0, none, []⟩,
 ⟨.load 11 (.t 10) 1 false, none, []⟩,
 ⟨.fad 12 (.t 3) 0, none, []⟩,
 ⟨.load 13 (.t 12) 1 false, none, []⟩,
 ⟨.bin 14 .neq (.t 11) (.t 13), none, []⟩,
 ⟨.mov 15 (.t 14), none, []⟩,
 ⟨.fad 16 (.t 2) 1, some (15, false), []⟩,
 ⟨.load 17 (.t 16) 1 false, some (15, false), []⟩,
 ⟨.len 18 false (.t 17), some (15, false), []⟩,
 ⟨.fad 19 (.t 3) 1, some (15, false), []⟩,
 ⟨.load 20 (.t 19) 1 false, some (15, false), []⟩,
 ⟨.len 21 false (.t 20), some (15, false), []⟩,
 ⟨.bin 22 .neq (.t 18) (.t 21), some (15, false), []⟩,
 ⟨.pick 23 (.t 15) (.c (.bool true)) (.t 22), none, []⟩] false)
 (.cond (.t 23) (.seq (.reg [⟨.mov 4 (.c (.bool false)), none, []⟩] false)
 (.ret)) (.skip)))
 (.seq (.seq (.reg [⟨.mov 5 (.c (.int .i64 0)), none, []⟩] false)
 (.block 0 (.loop (.seq (.seq (.reg [⟨.mov 24 (.t 5), none, []⟩,
 ⟨.fad 25 (.t 2) 1, none, []⟩,
 ⟨.load 26 (.t 25) 1 false, none, []⟩,
 ⟨.len 27 false (.t 26), none, []⟩,
 ⟨.bin 28 .lss (.t 24) (.t 27), none, []⟩] false)
 (.cond (.t 28) (.skip) (.exit 0)))
 (.seq (.block 1 (.seq (.reg [⟨.fad 31 (.t 2) 1, none, []⟩,
 ⟨.load 32 (.t 31) 1 false, none, [0]⟩,
 ⟨.mov 33 (.t 5), none, []⟩,
 ⟨.idx 34 (.t 32) (.t 33) 7, none, [1, 2]⟩,
 ⟨.load 35 (.t 34) 7 true, none, [3]⟩,
 ⟨.fad 36 (.t 3) 1, none, []⟩,
 ⟨.load 37 (.t 36) 1 false, none, [5]⟩,
 ⟨.mov 38 (.t 5), none, []⟩,
 ⟨.idx 39 (.t 37) (.t 38) 7, none, [6, 7]⟩,
 ⟨.load 40 (.t 39) 7 true, none, [8]⟩,
 ⟨.alloc 6 39 [.str [], .str [], .int .i64 0, .int .i64 0, .str [], .nils, .nils], none, []⟩,
 ⟨.alloc 7 39 [.str [], .str [], .int .i64 0, .int .i64 0, .str [], .nils, .nils], none, []⟩,
 ⟨.store (.t 6) (.t 35) 7, none, [10, 4, 0, 1, 2, 3, 4, 10, 11]⟩,
 ⟨.store (.t 7) (.t 40) 7, none, [11, 9, 12, 0, 1, 2, 3, 4, 5, 6, 7, 8, 9, 10, 11, 12]⟩] true)
 (.seq (.seq (.reg [⟨.fad 41 (.t 6) 0, none, []⟩,
 ⟨.load 42 (.t 41) 3 true, none, []⟩,
 ⟨.fad 43 (.t 7) 0, none, []⟩,
 ⟨.load 44 (.t 43) 3 true, none, []⟩,
 ⟨.eqa 45 true [.s, .s, .i] (.t 42) (.t 44), none, []⟩,
 ⟨.mov 46 (.t 45), none, []⟩,
 ⟨.fad 47 (.t 6) 3, some (46, false), []⟩,
 ⟨.load 48 (.t 47) 1 false, some (46, false), []⟩,
 ⟨.fad 49 (.t 7) 3, some (46, false), []⟩,
 ⟨.load 50 (.t 49) 1 false, some (46, false), []⟩,
 ⟨.bin 51 .neq (.t 48) (.t 50), some (46, false), []⟩,
 ⟨.pick 52 (.t 46) (.c (.bool true)) (.t 51), none, []⟩,
 ⟨.mov 53 (.t 52), none, []⟩,
 ⟨.fad 54 (.t 6) 4, some (53, false), []⟩,
 ⟨.load 55 (.t 54) 1 false, some (53, false), []⟩,
 ⟨.fad 56 (.t 7) 4, some (53, false), []⟩,
 ⟨.load 57 (.t 56) 1 false, some (53, false), []⟩,
 ⟨.bin 58 .neq (.t 55) (.t 57), some (53, false), []⟩,
 ⟨.pick 59 (.t 53) (.c (.bool true)) (.t 58), none, []⟩,
 ⟨.mov 60 (.t 59), none, []⟩,
 ⟨.fad 61 (.t 6) 5, some (60, false), []⟩,
 ⟨.load 62 (.t 61) 1 false, some (60, false), []⟩,
 ⟨.len 63 false (.t 62), some (60, false), []⟩,
 ⟨.fad 64 (.t 7) 5, some (60, false), []⟩,
 ⟨.load 65 (.t 64) 1 false, some (60, false), []⟩,
 ⟨.len 66 false (.t 65), some (60, false), []⟩,
 ⟨.bin 67 .neq (.t 63) (.t 66), some (60, false), []⟩,
 ⟨.pick 68 (.t 60) (.c (.bool true)) (.t 67), none, []⟩,
 ⟨.mov 69 (.t 68), none, []⟩,
 ⟨.fad 70 (.t 6) 6, some (69, false), []⟩,
 ⟨.load 71 (.t 70) 1 false, some (69, false), []⟩,
 ⟨.len 72 false (.t 71), some (69, false), []⟩,
 ⟨.fad 73 (.t 7) 6, some (69, false), []⟩,
 ⟨.load 74 (.t 73) 1 false, some (69, false), []⟩,
 ⟨.len 75 false (.t 74), some (69, false), []⟩,
 ⟨.bin 76 .neq (.t 72) (.t 75), some (69, false), []⟩,
 ⟨.pick 77 (.t 69) (.c (.bool true)) (.t 76), none, []⟩] false)
 (.cond (.t 77) (.seq (.reg [⟨.mov 4 (.c (.bool false)), none, []⟩] false)
 (.ret)) (.skip)))
 (.seq (.seq (.reg [⟨.mov 8 (.c (.int .i64 0)), none, []⟩] false)
 (.block 2 (.loop (.seq (.seq (.reg [⟨.mov 78 (.t 8), none, []⟩,
 ⟨.fad 79 (.t 6) 5, none, []⟩,
 ⟨.load 80 (.t 79) 1 false, none, []⟩,
 ⟨.len 81 false (.t 80), none, []⟩,
 ⟨.bin 82 .lss (.t 78) (.t 81), none, []⟩] false)
 (.cond (.t 82) (.skip) (.exit 2)))
 (.seq (.block 3 (.seq (.reg [⟨.fad 85 (.t 6) 5, none, []⟩,
 ⟨.load 86 (.t 85) 1 false, none, [0]⟩,
 ⟨.mov 87 (.t 8), none, []⟩,
 ⟨.idx 88 (.t 86) (.t 87) 4, none, [1, 2]⟩,
 ⟨.load 89 (.t 88) 4 true, none, [3]⟩,
 ⟨.fad 90 (.t 7) 5, none, []⟩,
 ⟨.load 91 (.t 90) 1 false, none, [5]⟩,
 ⟨.mov 92 (.t 8), none, []⟩,
 ⟨.idx 93 (.t 91) (.t 92) 4, none, [6, 7]⟩,
 ⟨.load 94 (.t 93) 4 true, none, [8]⟩,
 ⟨.eqa 95 true [.i, .i, .i, .s] (.t 89) (.t 94), none, [4, 9]⟩] true)
 (.cond (.t 95) (.seq (.reg [⟨.mov 4 (.c (.bool false)), none, []⟩] false)
 (.ret)) (.skip))))
 (.reg [⟨.mov 83 (.t 8), none, []⟩,
 ⟨.bin 84 .add (.t 83) (.c (.int .i64 1)), none, []⟩,
 ⟨.mov 8 (.t 84), none, []⟩] false))))))
 (.seq (.reg [⟨.mov 9 (.c (.int .i64 0)), none, []⟩] false)
 (.block 4 (.loop (.seq (.seq (.reg [⟨.mov 96 (.t 9), none, []⟩,
 ⟨.fad 97 (.t 6) 6, none, []⟩,
 ⟨.load 98 (.t 97) 1 false, none, []⟩,
 ⟨.len 99 false (.t 98), none, []⟩,
 ⟨.bin 100 .lss (.t 96) (.t 99), none, []⟩] false)
 (.cond (.t 100) (.skip) (.exit 4)))
 (.seq (.block 5 (.seq (.reg [⟨.fad 103 (.t 6) 6, none, []⟩,
 ⟨.load 104 (.t 103) 1 false, none, [0]⟩,
 ⟨.mov 105 (.t 9), none, []⟩,
 ⟨.idx 106 (.t 104) (.t 105) 6, none, [1, 2]⟩,
 ⟨.load 107 (.t 106) 6 true, none, [3]⟩,
 ⟨.fad 108 (.t 7) 6, none, []⟩,
 ⟨.load 109 (.t 108) 1 false, none, [5]⟩,
 ⟨.mov 110 (.t 9), none, []⟩,
 ⟨.idx 111 (.t 109) (.t 110) 6, none, [6, 7]⟩,
 ⟨.load 112 (.t 111) 6 true, none, [8]⟩,
 ⟨.eqa 113 true [.i, .s, .b, .b, .i, .s] (.t 107) (.t 112), none, [4, 9]⟩] true)
 (.cond (.t 113) (.seq (.reg [⟨.mov 4 (.c (.bool false)), none, []⟩] false)
 (.ret)) (.skip))))
 (.reg [⟨.mov 101 (.t 9), none, []⟩,
 ⟨.bin 102 .add (.t 101) (.c (.int .i64 1)), none, []⟩,
 ⟨.mov 9 (.t 102), none, []⟩] false))))))))))
 (.reg [⟨.mov 29 (.t 5), none, []⟩,
 ⟨.bin 30 .add (.t 29) (.c (.int .i64 1)), none, []⟩,
 ⟨.mov 5 (.t 30), none, []⟩] false))))))
 (.seq (.reg [⟨.mov 4 (.c (.bool true)), none, []⟩] false)
 (.ret))))
theorem ok17 : FnOK Tryz.prog 17 114 [.t 4] sc17 :=
 ⟨Tryz.call17, Tryz.f17, (Tryz.f17).body.getD .skip, Tryz.func17, by kernel_rfl, by kernel_rfl, by kernel_rfl, by kernel_rfl, by kernel_rfl⟩
end Go.Proofs
end
/- part GLaw -/
section
namespace Go.Proofs
open Go.Av
/-- assessor/assessorlaw55.BookStudents -/
def sc7 : SCode := .seq (.reg [⟨.box 5 26 9 (.t 1), none, []⟩,
 ⟨.box 6 26 9 (.t 2), none, []⟩,
 ⟨.box 7 52 4 (.t 3), none, []⟩,
 ⟨.mov 8 (.c (.bool false)), none, []⟩] false)
 (.seq (.seq (.reg [⟨.callT (some 21) (.c (.fn 11 [])) [], none, []⟩,
 ⟨.not 22 (.t 21), none, []⟩] false)
 (.cond (.t 22) (.seq (.reg [⟨.mov 8 (.c (.bool false)), none, []⟩] false)
 (.ret)) (.skip)))
 (.seq (.seq (.reg [⟨.mov 23 (.t 0), none, []⟩,
 ⟨.callT (some 24) (.c (.fn 12 [])) [(.t 23), (.c (.int .i64 24))], none, []⟩,
 ⟨.not 25 (.t 24), none, []⟩,
 ⟨.mov 26 (.t 25), none, []⟩,
 ⟨.load 27 (.t 5) 9 true, some (26, false), []⟩,
 ⟨.load 28 (.t 6) 9 true, some (26, false), []⟩,
 ⟨.bsl 29 26 9 2 [(0, (.t 27)), (1, (.t 28))], some (26, false), []⟩,
 ⟨.callT (some 30) (.c (.fn 12 [])) [(.t 29), (.c (.int .i64 2))], some (26, false), []⟩,
 ⟨.not 31 (.t 30), some (26, false), []⟩,
 ⟨.pick 32 (.t 26) (.c (.bool true)) (.t 31), none, []⟩,
 ⟨.mov 33 (.t 32), none, []⟩,
 ⟨.fad 34 (.t 5) 1, some (33, false), []⟩,
 ⟨.fad 35 (.t 34) 0, some (33, false), []⟩,
 ⟨.load 36 (.t 35) 1 false, some (33, false), []⟩,
 ⟨.fad 37 (.t 6) 1, some (33, false), []⟩,
 ⟨.fad 38 (.t 37) 0, some (33, false), []⟩,
 ⟨.load 39 (.t 38) 1 false, some (33, false), []⟩,
 ⟨.bin 40 .eql (.t 36) (.t 39), some (33, false), []⟩,
 ⟨.pick 41 (.t 33) (.c (.bool true)) (.t 40), none, []⟩] false)
 (.cond (.t 41) (.seq (.reg [⟨.mov 8 (.c (.bool true)), none, []⟩] false)
 (.ret)) (.skip)))
 (.seq (.reg [⟨.mov 42 (.t 0), none, []⟩,
 ⟨.callT (some 43) (.c (.fn 13 [])) [(.t 42)], none, []⟩,
 ⟨.alloc 9 31 [.int .i64 0, .nils], none, []⟩,
 ⟨.store (.t 9) (.t 43) 2, none, []⟩] false)
 (.seq (.reg [⟨.fad 44 (.t 5) 4, none, []⟩,
 ⟨.load 45 (.t 44) 1 false, none, []⟩,
 ⟨.fad 46 (.t 6) 4, none, []⟩,
 ⟨.store (.t 46) (.t 45) 1, none, []⟩] false)
 (.seq (.reg [⟨.fad 47 (.t 6) 1, none, []⟩,
 ⟨.fad 48 (.t 47) 0, none, []⟩,
 ⟨.load 49 (.t 48) 1 false, none, []⟩,
 ⟨.mov 10 (.t 49), none, []⟩] false)
 (.seq (.reg [⟨.load 51 (.t 9) 2 true, none, []⟩,
 ⟨.load 52 (.t 5) 9 true, none, []⟩,
 ⟨.callT (some 53) (.c (.fn 14 [])) [(.t 51), (.t 52)], none, []⟩,
 ⟨.mov 50 (.t 53), none, []⟩,
 ⟨.ext 54 (.t 50) 0, none, []⟩,
 ⟨.ext 55 (.t 50) 1, none, []⟩,
 ⟨.alloc 11 31 [.int .i64 0, .nils], none, []⟩,
 ⟨.store (.t 11) (.t 54) 2, none, []⟩,
 ⟨.mov 12 (.t 55), none, []⟩] false)
 (.seq (.seq (.reg [⟨.mov 56 (.t 12), none, []⟩,
 ⟨.bin 57 .neq (.t 56) (.c (.int .i64 0)), none, []⟩] false)
 (.cond (.t 57) (.seq (.reg [⟨.mov 8 (.c (.bool true)), none, []⟩] false)
 (.ret)) (.skip)))
 (.seq (.reg [⟨.load 59 (.t 9) 2 true, none, []⟩,
 ⟨.mov 60 (.t 10), none, []⟩,
 ⟨.fad 61 (.t 6) 1, none, []⟩,
 ⟨.fad 62 (.t 61) 1, none, []⟩,
 ⟨.load 63 (.t 62) 1 false, none, []⟩,
 ⟨.load 64 (.t 7) 4 true, none, []⟩,
 ⟨.callT (some 65) (.c (.fn 25 [])) [(.t 59), (.t 60), (.t 63), (.t 64)], none, []⟩,
 ⟨.mov 58 (.t 65), none, []⟩,
 ⟨.ext 66 (.t 58) 0, none, []⟩,
 ⟨.ext 67 (.t 58) 1, none, []⟩,
 ⟨.mov 13 (.t 66), none, []⟩,
 ⟨.mov 14 (.t 67), none, []⟩] false)
 (.seq (.reg [⟨.load 69 (.t 11) 2 true, none, []⟩,
 ⟨.mov 70 (.t 10), none, []⟩,
 ⟨.fad 71 (.t 6) 1, none, []⟩,
 ⟨.fad 72 (.t 71) 1, none, []⟩,
 ⟨.load 73 (.t 72) 1 false, none, []⟩,
 ⟨.load 74 (.t 7) 4 true, none, []⟩,
 ⟨.callT (some 75) (.c (.fn 25 [])) [(.t 69), (.t 70), (.t 73), (.t 74)], none, []⟩,
 ⟨.mov 68 (.t 75), none, []⟩,
 ⟨.ext 76 (.t 68) 0, none, []⟩,
 ⟨.ext 77 (.t 68) 1, none, []⟩,
 ⟨.mov 15 (.t 76), none, []⟩,
 ⟨.mov 16 (.t 77), none, []⟩] false)
 (.seq (.seq (.reg [⟨.load 78 (.t 9) 2 true, none, []⟩,
 ⟨.mov 79 (.t 10), none, []⟩,
 ⟨.callT (some 80) (.c (.fn 27 [])) [(.t 78), (.t 79)], none, [0, 1]⟩,
 ⟨.load 81 (.t 11) 2 true, none, []⟩,
 ⟨.mov 82 (.t 10), none, []⟩,
 ⟨.callT (some 83) (.c (.fn 27 [])) [(.t 81), (.t 82)], none, [3, 4, 2]⟩,
 ⟨.callT (some 84) (.c (.fn 17 [])) [(.t 80), (.t 83)], none, [2, 5, 5]⟩,
 ⟨.not 85 (.t 84), none, [6]⟩,
 ⟨.mov 86 (.t 85), none, [7, 6]⟩,
 ⟨.mov 87 (.t 13), some (86, false), [8]⟩,
 ⟨.mov 88 (.t 15), some (86, false), [8]⟩,
 ⟨.bin 89 .neq (.t 87) (.t 88), some (86, false), [9, 10, 8]⟩,
 ⟨.pick 90 (.t 86) (.c (.bool true)) (.t 89), none, [8, 11]⟩,
 ⟨.mov 91 (.t 90), none, [12, 8]⟩,
 ⟨.mov 92 (.t 14), some (91, false), [13]⟩,
 ⟨.mov 93 (.t 16), some (91, false), [13]⟩,
 ⟨.bin 94 .neq (.t 92) (.t 93), some (91, false), [14, 15, 13]⟩,
 ⟨.pick 95 (.t 91) (.c (.bool true)) (.t 94), none, [13, 16]⟩] true)
 (.cond (.t 95) (.seq (.reg [⟨.mov 8 (.c (.bool false)), none, []⟩] false)
 (.ret)) (.skip)))
 (.seq (.reg [⟨.load 97 (.t 9) 2 true, none, []⟩,
 ⟨.load 98 (.t 6) 9 true, none, []⟩,
 ⟨.callT (some 99) (.c (.fn 14 [])) [(.t 97), (.t 98)], none, []⟩,
 ⟨.mov 96 (.t 99), none, []⟩,
 ⟨.ext 100 (.t 96) 0, none, []⟩,
 ⟨.ext 101 (.t 96) 1, none, []⟩,
 ⟨.alloc 17 31 [.int .i64 0, .nils], none, []⟩,
 ⟨.store (.t 17) (.t 100) 2, none, []⟩,
 ⟨.mov 14 (.t 101), none, []⟩] false)
 (.seq (.seq (.reg [⟨.mov 102 (.t 14), none, []⟩,
 ⟨.bin 103 .neq (.t 102) (.c (.int .i64 0)), none, []⟩] false)
 (.cond (.t 103) (.seq (.reg [⟨.mov 8 (.c (.bool true)), none, []⟩] false)
 (.ret)) (.skip)))
 (.seq (.reg [⟨.load 105 (.t 11) 2 true, none, []⟩,
 ⟨.load 106 (.t 6) 9 true, none, []⟩,
 ⟨.callT (some 107) (.c (.fn 14 [])) [(.t 105), (.t 106)], none, []⟩,
 ⟨.mov 104 (.t 107), none, []⟩,
 ⟨.ext 108 (.t 104) 0, none, []⟩,
 ⟨.ext 109 (.t 104) 1, none, []⟩,
 ⟨.alloc 18 31 [.int .i64 0, .nils], none, []⟩,
 ⟨.store (.t 18) (.t 108) 2, none, []⟩,
 ⟨.mov 16 (.t 109), none, []⟩] false)
 (.seq (.reg [⟨.load 111 (.t 17) 2 true, none, []⟩,
 ⟨.load 112 (.t 5) 9 true, none, []⟩,
 ⟨.callT (some 113) (.c (.fn 14 [])) [(.t 111), (.t 112)], none, []⟩,
 ⟨.mov 110 (.t 113), none, []⟩,
 ⟨.ext 114 (.t 110) 0, none, []⟩,
 ⟨.ext 115 (.t 110) 1, none, []⟩,
 ⟨.alloc 19 31 [.int .i64 0, .nils], none, []⟩,
 ⟨.store (.t 19) (.t 114) 2, none, []⟩,
 ⟨.mov 20 (.t 115), none, []⟩] false)
 (.seq (.reg [⟨.mov 116 (.t 16), none, []⟩,
 ⟨.bin 117 .eql (.t 116) (.c (.int .i64 8)), none, [0]⟩,
 ⟨.mov 118 (.t 117), none, [1]⟩,
 ⟨.mov 119 (.t 16), some (118, false), [2]⟩,
 ⟨.bin 120 .eql (.t 119) (.c (.int .i64 0)), some (118, false), [3, 2]⟩,
 ⟨.mov 121 (.t 120), some (118, false), [4, 2, 2]⟩,
 ⟨.mov 122 (.t 20), some (121, true), [5]⟩,
 ⟨.bin 123 .eql (.t 122) (.c (.int .i64 0)), some (121, true), [6, 5]⟩,
 ⟨.pick 124 (.t 121) (.t 123) (.c (.bool false)), some (118, false), [5, 7, 2]⟩,
 ⟨.mov 125 (.t 124), some (118, false), [8, 5, 2]⟩,
 ⟨.load 126 (.t 18) 2 true, some (125, true), [9]⟩,
 ⟨.mov 127 (.t 10), some (125, true), [9]⟩,
 ⟨.callT (some 128) (.c (.fn 27 [])) [(.t 126), (.t 127)], some (125, true), [10, 11, 9, 9]⟩,
 ⟨.load 129 (.t 19) 2 true, some (125, true), [9]⟩,
 ⟨.mov 130 (.t 10), some (125, true), [9]⟩,
 ⟨.callT (some 131) (.c (.fn 27 [])) [(.t 129), (.t 130)], some (125, true), [13, 14, 12, 9]⟩,
 ⟨.callT (some 132) (.c (.fn 17 [])) [(.t 128), (.t 131)], some (125, true), [12, 15, 15, 9]⟩,
 ⟨.pick 133 (.t 125) (.t 132) (.c (.bool false)), some (118, false), [9, 16, 2]⟩,
 ⟨.mov 134 (.t 133), some (118, false), [17, 16, 2]⟩,
 ⟨.load 135 (.t 18) 2 true, some (134, true), [18]⟩,
 ⟨.fad 136 (.t 5) 1, some (134, true), [18]⟩,
 ⟨.fad 137 (.t 136) 0, some (134, true), [20, 18]⟩,
 ⟨.load 138 (.t 137) 1 false, some (134, true), [21, 18]⟩,
 ⟨.callT (some 139) (.c (.fn 27 [])) [(.t 135), (.t 138)], some (134, true), [19, 22, 18, 18]⟩,
 ⟨.load 140 (.t 19) 2 true, some (134, true), [18]⟩,
 ⟨.fad 141 (.t 5) 1, some (134, true), [18]⟩,
 ⟨.fad 142 (.t 141) 0, some (134, true), [25, 18]⟩,
 ⟨.load 143 (.t 142) 1 false, some (134, true), [26, 18]⟩,
 ⟨.callT (some 144) (.c (.fn 27 [])) [(.t 140), (.t 143)], some (134, true), [24, 27, 23, 18]⟩,
 ⟨.callT (some 145) (.c (.fn 17 [])) [(.t 139), (.t 144)], some (134, true), [23, 28, 28, 18]⟩,
 ⟨.pick 146 (.t 134) (.t 145) (.c (.bool false)), some (118, false), [18, 29, 2]⟩,
 ⟨.pick 147 (.t 118) (.c (.bool true)) (.t 146), none, [2, 30]⟩,
 ⟨.mov 8 (.t 147), none, [31, 29, 0, 1, 2, 3, 4, 5, 6, 7, 8, 9, 10, 11, 12, 13, 14, 15, 16, 17, 18, 19, 20, 21, 22, 23, 24, 25, 26, 27, 28, 29, 30, 31]⟩] true)
 (.ret))))))))))))))))
theorem ok7 : FnOK Tryz.prog 7 148 [.t 8] sc7 :=
 ⟨Tryz.call7, Tryz.f7, (Tryz.f7).body.getD .skip, Tryz.func7, by kernel_rfl, by kernel_rfl, by kernel_rfl, by kernel_rfl, by kernel_rfl⟩
/-- assessor/assessorlaw55.awake -/
def sc11 : SCode := .seq (.reg [⟨.mov 0 (.c (.bool false)), none, []⟩] false)
 (.seq (.reg [⟨.build 14 [.str [], .str [], .int .i64 0] [(0, 1, (.c (.str [97, 100, 97]))), (1, 1, (.c (.str [102, 105, 98]))), (2, 1, (.c (.int .i64 1)))], none, []⟩,
 ⟨.alloc 1 24 [.str [], .str [], .int .i64 0], none, []⟩,
 ⟨.store (.t 1) (.t 14) 3, none, []⟩] false)
 (.seq (.reg [⟨.load 15 (.t 1) 3 true, none, []⟩,
 ⟨.build 16 [.int .i64 0, .str [], .str [], .int .i64 0, .int .i64 0, .int .i64 0, .int .i64 0, .str [], .bool false] [(1, 3, (.t 15)), (4, 1, (.c (.int .i64 3)))], none, []⟩,
 ⟨.alloc 2 26 [.int .i64 0, .str [], .str [], .int .i64 0, .int .i64 0, .int .i64 0, .int .i64 0, .str [], .bool false], none, []⟩,
 ⟨.store (.t 2) (.t 16) 9, none, []⟩] false)
 (.seq (.reg [⟨.load 17 (.t 1) 3 true, none, []⟩,
 ⟨.build 18 [.int .i64 0, .str [], .str [], .int .i64 0, .int .i64 0, .int .i64 0, .int .i64 0, .str [], .bool false] [(0, 1, (.c (.int .i64 1))), (1, 3, (.t 17)), (4, 1, (.c (.int .i64 5))), (5, 1, (.c (.int .i64 1))), (6, 1, (.c (.int .i64 750)))], none, []⟩,
 ⟨.alloc 3 26 [.int .i64 0, .str [], .str [], .int .i64 0, .int .i64 0, .int .i64 0, .int .i64 0, .str [], .bool false], none, []⟩,
 ⟨.store (.t 3) (.t 18) 9, none, []⟩] false)
 (.seq (.reg [⟨.build 20 [.int .i64 0, .nils] [], none, []⟩,
 ⟨.load 21 (.t 2) 9 true, none, []⟩,
 ⟨.callT (some 22) (.c (.fn 14 [])) [(.t 20), (.t 21)], none, []⟩,
 ⟨.mov 19 (.t 22), none, []⟩,
 ⟨.ext 23 (.t 19) 0, none, []⟩,
 ⟨.ext 24 (.t 19) 1, none, []⟩,
 ⟨.alloc 4 31 [.int .i64 0, .nils], none, []⟩,
 ⟨.store (.t 4) (.t 23) 2, none, []⟩,
 ⟨.mov 5 (.t 24), none, []⟩] false)
 (.seq (.reg [⟨.load 26 (.t 4) 2 true, none, []⟩,
 ⟨.load 27 (.t 3) 9 true, none, []⟩,
 ⟨.callT (some 28) (.c (.fn 14 [])) [(.t 26), (.t 27)], none, []⟩,
 ⟨.mov 25 (.t 28), none, []⟩,
 ⟨.ext 29 (.t 25) 0, none, []⟩,
 ⟨.ext 30 (.t 25) 1, none, []⟩,
 ⟨.alloc 6 31 [.int .i64 0, .nils], none, []⟩,
 ⟨.store (.t 6) (.t 29) 2, none, []⟩,
 ⟨.mov 7 (.t 30), none, []⟩] false)
 (.seq (.reg [⟨.fad 31 (.t 3) 6, none, []⟩,
 ⟨.store (.t 31) (.c (.int .i64 800)) 1, none, []⟩] false)
 (.seq (.reg [⟨.load 33 (.t 6) 2 true, none, []⟩,
 ⟨.load 34 (.t 3) 9 true, none, []⟩,
 ⟨.callT (some 35) (.c (.fn 14 [])) [(.t 33), (.t 34)], none, []⟩,
 ⟨.mov 32 (.t 35), none, []⟩,
 ⟨.ext 36 (.t 32) 0, none, []⟩,
 ⟨.ext 37 (.t 32) 1, none, []⟩,
 ⟨.alloc 8 31 [.int .i64 0, .nils], none, []⟩,
 ⟨.store (.t 8) (.t 36) 2, none, []⟩,
 ⟨.mov 9 (.t 37), none, []⟩] false)
 (.seq (.reg [⟨.fad 38 (.t 3) 5, none, []⟩,
 ⟨.store (.t 38) (.c (.int .i64 2)) 1, none, []⟩] false)
 (.seq (.reg [⟨.load 40 (.t 6) 2 true, none, []⟩,
 ⟨.load 41 (.t 3) 9 true, none, []⟩,
 ⟨.callT (some 42) (.c (.fn 14 [])) [(.t 40), (.t 41)], none, []⟩,
 ⟨.mov 39 (.t 42), none, []⟩,
 ⟨.ext 43 (.t 39) 0, none, []⟩,
 ⟨.ext 44 (.t 39) 1, none, []⟩,
 ⟨.alloc 10 31 [.int .i64 0, .nils], none, []⟩,
 ⟨.store (.t 10) (.t 43) 2, none, []⟩,
 ⟨.mov 11 (.t 44), none, []⟩] false)
 (.seq (.reg [⟨.load 46 (.t 2) 9 true, none, []⟩,
 ⟨.callT (some 47) (.c (.fn 38 [])) [(.t 46)], none, []⟩,
 ⟨.mov 45 (.t 47), none, []⟩,
 ⟨.ext 48 (.t 45) 0, none, []⟩,
 ⟨.ext 49 (.t 45) 1, none, []⟩,
 ⟨.mov 12 (.t 48), none, []⟩,
 ⟨.mov 13 (.t 49), none, []⟩] false)
 (.seq (.reg [⟨.mov 50 (.t 5), none, []⟩,
 ⟨.bin 51 .eql (.t 50) (.c (.int .i64 0)), none, []⟩,
 ⟨.mov 52 (.t 51), none, []⟩,
 ⟨.mov 53 (.t 7), some (52, true), []⟩,
 ⟨.bin 54 .eql (.t 53) (.c (.int .i64 0)), some (52, true), []⟩,
 ⟨.pick 55 (.t 52) (.t 54) (.c (.bool false)), none, []⟩,
 ⟨.mov 56 (.t 55), none, []⟩,
 ⟨.mov 57 (.t 9), some (56, true), []⟩,
 ⟨.bin 58 .eql (.t 57) (.c (.int .i64 9)), some (56, true), []⟩,
 ⟨.pick 59 (.t 56) (.t 58) (.c (.bool false)), none, []⟩,
 ⟨.mov 60 (.t 59), none, []⟩,
 ⟨.mov 61 (.t 11), some (60, true), []⟩,
 ⟨.bin 62 .eql (.t 61) (.c (.int .i64 0)), some (60, true), []⟩,
 ⟨.pick 63 (.t 60) (.t 62) (.c (.bool false)), none, []⟩,
 ⟨.mov 64 (.t 63), none, []⟩,
 ⟨.fad 65 (.t 10) 1, some (64, true), []⟩,
 ⟨.load 66 (.t 65) 1 false, some (64, true), []⟩,
 ⟨.len 67 false (.t 66), some (64, true), []⟩,
 ⟨.bin 68 .eql (.t 67) (.c (.int .i64 1)), some (64, true), []⟩,
 ⟨.pick 69 (.t 64) (.t 68) (.c (.bool false)), none, []⟩,
 ⟨.mov 70 (.t 69), none, []⟩,
 ⟨.fad 71 (.t 10) 1, some (70, true), []⟩,
 ⟨.load 72 (.t 71) 1 false, some (70, true), []⟩,
 ⟨.idx 73 (.t 72) (.c (.int .i64 0)) 7, some (70, true), []⟩,
 ⟨.fad 74 (.t 73) 5, some (70, true), []⟩,
 ⟨.load 75 (.t 74) 1 false, some (70, true), []⟩,
 ⟨.len 76 false (.t 75), some (70, true), []⟩,
 ⟨.bin 77 .eql (.t 76) (.c (.int .i64 2)), some (70, true), []⟩,
 ⟨.pick 78 (.t 70) (.t 77) (.c (.bool false)), none, []⟩,
 ⟨.mov 79 (.t 78), none, []⟩,
 ⟨.mov 80 (.t 13), some (79, true), []⟩,
 ⟨.bin 81 .eql (.t 80) (.c (.int .i64 0)), some (79, true), []⟩,
 ⟨.pick 82 (.t 79) (.t 81) (.c (.bool false)), none, []⟩,
 ⟨.mov 83 (.t 82), none, []⟩,
 ⟨.mov 84 (.t 12), some (83, true), []⟩,
 ⟨.bin 85 .eql (.t 84) (.c (.str [49, 58, 48, 51, 58, 97, 100, 97, 51, 58, 102, 105, 98, 49, 58, 49, 49, 58, 51, 49, 58, 48, 49, 58, 48, 48, 58, 49, 58, 48])), some (83, true), []⟩,
 ⟨.pick 86 (.t 83) (.t 85) (.c (.bool false)), none, []⟩,
 ⟨.mov 0 (.t 86), none, []⟩] false)
 (.ret))))))))))))
theorem ok11 : FnOK Tryz.prog 11 87 [.t 0] sc11 :=
 ⟨Tryz.call11, Tryz.f11, (Tryz.f11).body.getD .skip, Tryz.func11, by kernel_rfl, by kernel_rfl, by kernel_rfl, by kernel_rfl, by kernel_rfl⟩
/-- assessor/assessorlaw55.Make -/
def sc13 : SCode := .seq (.reg [⟨.alloc 2 31 [.int .i64 0, .nils], none, []⟩] false)
 (.seq (.reg [⟨.build 8 [.int .i64 0, .nils] [], none, []⟩,
 ⟨.alloc 3 31 [.int .i64 0, .nils], none, []⟩,
 ⟨.store (.t 3) (.t 8) 2, none, []⟩] false)
 (.seq (.seq (.reg [⟨.mov 9 (.t 0), none, []⟩,
 ⟨.len 10 false (.t 9), none, []⟩,
 ⟨.mov 11 (.c (.int .i64 0)), none, []⟩] false)
 (.block 0 (.loop (.seq (.reg [⟨.bin 12 .lss (.t 11) (.t 10), none, []⟩] false)
 (.seq (.cond (.t 12) (.skip) (.exit 0))
 (.seq (.block 1 (.seq (.reg [⟨.idx 13 (.t 9) (.t 11) 9, none, []⟩,
 ⟨.load 14 (.t 13) 9 true, none, []⟩,
 ⟨.alloc 5 26 [.int .i64 0, .str [], .str [], .int .i64 0, .int .i64 0, .int .i64 0, .int .i64 0, .str [], .bool false], none, []⟩,
 ⟨.store (.t 5) (.t 14) 9, none, []⟩] false)
 (.seq (.reg [⟨.load 16 (.t 3) 2 true, none, []⟩,
 ⟨.load 17 (.t 5) 9 true, none, []⟩,
 ⟨.callT (some 18) (.c (.fn 14 [])) [(.t 16), (.t 17)], none, []⟩,
 ⟨.mov 15 (.t 18), none, []⟩,
 ⟨.ext 19 (.t 15) 0, none, []⟩,
 ⟨.ext 20 (.t 15) 1, none, []⟩,
 ⟨.alloc 6 31 [.int .i64 0, .nils], none, []⟩,
 ⟨.store (.t 6) (.t 19) 2, none, []⟩,
 ⟨.mov 7 (.t 20), none, []⟩] false)
 (.seq (.reg [⟨.mov 21 (.t 7), none, []⟩,
 ⟨.bin 22 .eql (.t 21) (.c (.int .i64 0)), none, []⟩] false)
 (.cond (.t 22) (.reg [⟨.load 23 (.t 6) 2 true, none, []⟩,
 ⟨.store (.t 3) (.t 23) 2, none, []⟩] false) (.skip))))))
 (.reg [⟨.bin 24 .add (.t 11) (.c (.int .i64 1)), none, []⟩,
 ⟨.mov 11 (.t 24), none, []⟩] false)))))))
 (.seq (.reg [⟨.load 25 (.t 3) 2 true, none, []⟩,
 ⟨.store (.t 2) (.t 25) 2, none, []⟩] false)
 (.ret))))
theorem ok13 : FnOK Tryz.prog 13 26 [.c 2 2 true] sc13 :=
 ⟨Tryz.call13, Tryz.f13, (Tryz.f13).body.getD .skip, Tryz.func13, by kernel_rfl, by kernel_rfl, by kernel_rfl, by kernel_rfl, by kernel_rfl⟩
end Go.Proofs
end
/- part GStr -/
section
namespace Go.Proofs
open Go.Av
/-- strconv.Itoa -/
def sc67 : SCode := .seq (.reg [⟨.mov 2 (.c (.str [])), none, []⟩] false)
 (.seq (.reg [⟨.mov 3 (.t 0), none, []⟩,
 ⟨.callT (some 4) (.c (.fn 94 [])) [(.t 3)], none, []⟩,
 ⟨.mov 2 (.t 4), none, []⟩] false)
 (.ret))
theorem ok67 : FnOK Tryz.prog 67 5 [.t 2] sc67 :=
 ⟨Tryz.call67, Tryz.f67, (Tryz.f67).body.getD .skip, Tryz.func67, by kernel_rfl, by kernel_rfl, by kernel_rfl, by kernel_rfl, by kernel_rfl⟩
/-- (*strings.Builder).WriteString -/
def sc91 : SCode := .seq (.reg [⟨.mov 4 (.c (.int .i64 0)), none, []⟩,
 ⟨.mov 5 (.c (.nilif)), none, []⟩] false)
 (.seq (.reg [⟨.mov 6 (.t 0), none, []⟩,
 ⟨.callT (some 7) (.c (.fn 110 [])) [(.t 6)], none, []⟩] false)
 (.seq (.reg [⟨.mov 8 (.t 0), none, []⟩,
 ⟨.mov 9 (.t 0), none, []⟩,
 ⟨.nilc (some 10) (.t 9), none, []⟩,
 ⟨.fad 11 (.t 10) 1, none, []⟩,
 ⟨.load 12 (.t 11) 1 false, none, []⟩,
 ⟨.mov 13 (.t 1), none, []⟩,
 ⟨.app 14 5 1 1 (.t 12) (.t 13), none, []⟩,
 ⟨.nilc (some 15) (.t 8), none, []⟩,
 ⟨.fad 16 (.t 15) 1, none, []⟩,
 ⟨.store (.t 16) (.t 14) 1, none, []⟩] false)
 (.seq (.reg [⟨.mov 17 (.t 1), none, []⟩,
 ⟨.len 18 true (.t 17), none, []⟩,
 ⟨.mov 4 (.t 18), none, []⟩,
 ⟨.mov 5 (.c (.nilif)), none, []⟩] false)
 (.ret))))
theorem ok91 : FnOK Tryz.prog 91 19 [.t 4, .t 5] sc91 :=
 ⟨Tryz.call91, Tryz.f91, (Tryz.f91).body.getD .skip, Tryz.func91, by kernel_rfl, by kernel_rfl, by kernel_rfl, by kernel_rfl, by kernel_rfl⟩
/-- (*strings.Builder).String -/
def sc92 : SCode := .seq (.reg [⟨.mov 2 (.c (.str [])), none, []⟩] false)
 (.seq (.reg [⟨.mov 3 (.t 0), none, []⟩,
 ⟨.nilc (some 4) (.t 3), none, [0]⟩,
 ⟨.fad 5 (.t 4) 1, none, [1]⟩,
 ⟨.load 6 (.t 5) 1 false, none, [2]⟩,
 ⟨.usd 7 (.t 6), none, [3]⟩,
 ⟨.mov 8 (.t 0), none, []⟩,
 ⟨.nilc (some 9) (.t 8), none, [5]⟩,
 ⟨.fad 10 (.t 9) 1, none, [6]⟩,
 ⟨.load 11 (.t 10) 1 false, none, [7]⟩,
 ⟨.len 12 false (.t 11), none, [8]⟩,
 ⟨.ust 13 5 (.t 7) (.t 12), none, [4, 9]⟩,
 ⟨.mov 2 (.t 13), none, [10, 0, 1, 2, 3, 4, 5, 6, 7, 8, 9, 10]⟩] true)
 (.ret))
theorem ok92 : FnOK Tryz.prog 92 14 [.t 2] sc92 :=
 ⟨Tryz.call92, Tryz.f92, (Tryz.f92).body.getD .skip, Tryz.func92, by kernel_rfl, by kernel_rfl, by kernel_rfl, by kernel_rfl, by kernel_rfl⟩
/-- internal/strconv.Itoa -/
def sc94 : SCode := .seq (.reg [⟨.mov 2 (.c (.str [])), none, []⟩] false)
 (.seq (.reg [⟨.mov 3 (.t 0), none, []⟩,
 ⟨.callT (some 4) (.c (.fn 111 [])) [(.t 3), (.c (.int .i64 10))], none, []⟩,
 ⟨.mov 2 (.t 4), none, []⟩] false)
 (.ret))
theorem ok94 : FnOK Tryz.prog 94 5 [.t 2] sc94 :=
 ⟨Tryz.call94, Tryz.f94, (Tryz.f94).body.getD .skip, Tryz.func94, by kernel_rfl, by kernel_rfl, by kernel_rfl, by kernel_rfl, by kernel_rfl⟩
/-- (*strings.Builder).copyCheck -/
def sc110 : SCode := .seq (.reg [⟨.mov 2 (.t 0), none, []⟩,
 ⟨.nilc (some 3) (.t 2), none, []⟩,
 ⟨.fad 4 (.t 3) 0, none, []⟩,
 ⟨.load 5 (.t 4) 1 false, none, []⟩,
 ⟨.eqn 6 false .q (.t 5) (.c (.nilp)), none, []⟩] false)
 (.cond (.t 6) (.reg [⟨.mov 7 (.t 0), none, []⟩,
 ⟨.mov 8 (.t 0), none, []⟩,
 ⟨.cvp 9 124 (.t 8), none, []⟩,
 ⟨.callT (some 10) (.c (.fn 131 [])) [(.t 9)], none, []⟩,
 ⟨.cvq 11 124 2 (.t 10), none, []⟩,
 ⟨.nilc (some 12) (.t 7), none, []⟩,
 ⟨.fad 13 (.t 12) 0, none, []⟩,
 ⟨.store (.t 13) (.t 11) 1, none, []⟩] false) (.seq (.reg [⟨.mov 14 (.t 0), none, []⟩,
 ⟨.nilc (some 15) (.t 14), none, []⟩,
 ⟨.fad 16 (.t 15) 0, none, []⟩,
 ⟨.load 17 (.t 16) 1 false, none, []⟩,
 ⟨.mov 18 (.t 0), none, []⟩,
 ⟨.eqn 19 true .q (.t 17) (.t 18), none, []⟩] false)
 (.cond (.t 19) (.bad) (.skip))))
theorem ok110 : FnOK Tryz.prog 110 20 [] sc110 :=
 ⟨Tryz.call110, Tryz.f110, (Tryz.f110).body.getD .skip, Tryz.func110, by kernel_rfl, by kernel_rfl, by kernel_rfl, by kernel_rfl, by kernel_rfl⟩
/-- internal/strconv.FormatInt -/
def sc111 : SCode := .seq (.reg [⟨.mov 4 (.c (.str [])), none, []⟩] false)
 (.seq (.seq (.reg [⟨.mov 10 (.t 1), none, []⟩,
 ⟨.bin 11 .eql (.t 10) (.c (.int .i64 10)), none, []⟩] false)
 (.cond (.t 11) (.seq (.seq (.reg [⟨.mov 12 (.t 0), none, []⟩,
 ⟨.bin 13 .leq (.c (.int .i64 0)) (.t 12), none, []⟩,
 ⟨.mov 14 (.t 13), none, []⟩,
 ⟨.mov 15 (.t 0), some (14, true), []⟩,
 ⟨.bin 16 .lss (.t 15) (.c (.int .i64 100)), some (14, true), []⟩,
 ⟨.pick 17 (.t 14) (.t 16) (.c (.bool false)), none, []⟩] false)
 (.cond (.t 17) (.seq (.reg [⟨.mov 18 (.t 0), none, []⟩,
 ⟨.callT (some 19) (.c (.fn 132 [])) [(.t 18)], none, []⟩,
 ⟨.mov 4 (.t 19), none, []⟩] false)
 (.ret)) (.skip)))
 (.seq (.reg [⟨.alloc 5 158 [.int .u8 0, .int .u8 0, .int .u8 0, .int .u8 0, .int .u8 0, .int .u8 0, .int .u8 0, .int .u8 0, .int .u8 0, .int .u8 0, .int .u8 0, .int .u8 0, .int .u8 0, .int .u8 0, .int .u8 0, .int .u8 0, .int .u8 0, .int .u8 0, .int .u8 0, .int .u8 0, .int .u8 0, .int .u8 0, .int .u8 0, .int .u8 0], none, []⟩] false)
 (.seq (.reg [⟨.mov 20 (.t 0), none, []⟩,
 ⟨.cvi 21 .u64 (.t 20), none, []⟩,
 ⟨.mov 6 (.t 21), none, []⟩] false)
 (.seq (.seq (.reg [⟨.mov 22 (.t 0), none, []⟩,
 ⟨.bin 23 .lss (.t 22) (.c (.int .i64 0)), none, []⟩] false)
 (.cond (.t 23) (.reg [⟨.mov 24 (.t 6), none, []⟩,
 ⟨.neg 25 (.t 24), none, []⟩,
 ⟨.mov 6 (.t 25), none, []⟩] false) (.skip)))
 (.seq (.reg [⟨.mov 26 (.t 6), none, []⟩,
 ⟨.callT (some 27) (.c (.fn 133 [])) [(.t 26)], none, []⟩,
 ⟨.mov 7 (.t 27), none, []⟩] false)
 (.seq (.reg [⟨.mov 28 (.t 7), none, []⟩,
 ⟨.bin 29 .add (.c (.int .i64 1)) (.t 28), none, []⟩,
 ⟨.bad, none, []⟩,
 ⟨.mov 31 (.t 6), none, []⟩,
 ⟨.callT (some 32) (.c (.fn 134 [])) [(.t 30), (.t 31)], none, []⟩] false)
 (.seq (.seq (.reg [⟨.mov 33 (.t 0), none, []⟩,
 ⟨.bin 34 .lss (.t 33) (.c (.int .i64 0)), none, []⟩] false)
 (.cond (.t 34) (.seq (.reg [⟨.ida 35 (.t 5) (.c (.int .i64 0)) 24 1, none, []⟩,
 ⟨.store (.t 35) (.c (.int .u8 45)) 1, none, []⟩] false)
 (.seq (.reg [⟨.mov 36 (.t 7), none, []⟩,
 ⟨.bin 37 .add (.c (.int .i64 1)) (.t 36), none, []⟩,
 ⟨.bad, none, []⟩,
 ⟨.bst 39 (.t 38), none, []⟩,
 ⟨.mov 4 (.t 39), none, []⟩] false)
 (.ret))) (.skip)))
 (.seq (.reg [⟨.mov 40 (.t 7), none, []⟩,
 ⟨.bin 41 .add (.c (.int .i64 1)) (.t 40), none, []⟩,
 ⟨.bad, none, []⟩,
 ⟨.bst 43 (.t 42), none, []⟩,
 ⟨.mov 4 (.t 43), none, []⟩] false)
 (.ret))))))))) (.skip)))
 (.seq (.reg [⟨.mov 45 (.t 0), none, []⟩,
 ⟨.cvi 46 .u64 (.t 45), none, []⟩,
 ⟨.mov 47 (.t 1), none, []⟩,
 ⟨.mov 48 (.t 0), none, []⟩,
 ⟨.bin 49 .lss (.t 48) (.c (.int .i64 0)), none, []⟩,
 ⟨.callT (some 50) (.c (.fn 135 [])) [(.c (.nils)), (.t 46), (.t 47), (.t 49), (.c (.bool false))], none, []⟩,
 ⟨.mov 44 (.t 50), none, []⟩,
 ⟨.ext 51 (.t 44) 0, none, []⟩,
 ⟨.ext 52 (.t 44) 1, none, []⟩,
 ⟨.mov 8 (.t 51), none, []⟩,
 ⟨.mov 9 (.t 52), none, []⟩] false)
 (.seq (.reg [⟨.mov 53 (.t 9), none, []⟩,
 ⟨.mov 4 (.t 53), none, []⟩] false)
 (.ret))))
theorem ok111 : FnOK Tryz.prog 111 54 [.t 4] sc111 :=
 ⟨Tryz.call111, Tryz.f111, (Tryz.f111).body.getD .skip, Tryz.func111, by kernel_rfl, by kernel_rfl, by kernel_rfl, by kernel_rfl, by kernel_rfl⟩
/-- internal/strconv.small -/
def sc132 : SCode := .seq (.reg [⟨.mov 2 (.c (.str [])), none, []⟩] false)
 (.seq (.seq (.reg [⟨.mov 3 (.t 0), none, []⟩,
 ⟨.bin 4 .lss (.t 3) (.c (.int .i64 10)), none, []⟩] false)
 (.cond (.t 4) (.seq (.reg [⟨.mov 5 (.t 0), none, []⟩,
 ⟨.mov 6 (.t 0), none, []⟩,
 ⟨.bin 7 .add (.t 6) (.c (.int .i64 1)), none, []⟩,
 ⟨.slice 8 0 (.c (.str [48, 49, 50, 51, 52, 53, 54, 55, 56, 57, 97, 98, 99, 100, 101, 102, 103, 104, 105, 106, 107, 108, 109, 110, 111, 112, 113, 114, 115, 116, 117, 118, 119, 120, 121, 122])) (some (.t 5)) (some (.t 7)), none, []⟩,
 ⟨.mov 2 (.t 8), none, []⟩] false)
 (.ret)) (.skip)))
 (.seq (.reg [⟨.mov 9 (.t 0), none, []⟩,
 ⟨.bin 10 .mul (.t 9) (.c (.int .i64 2)), none, []⟩,
 ⟨.mov 11 (.t 0), none, []⟩,
 ⟨.bin 12 .mul (.t 11) (.c (.int .i64 2)), none, []⟩,
 ⟨.bin 13 .add (.t 12) (.c (.int .i64 2)), none, []⟩,
 ⟨.slice 14 0 (.c (.str [48, 48, 48, 49, 48, 50, 48, 51, 48, 52, 48, 53, 48, 54, 48, 55, 48, 56, 48, 57, 49, 48, 49, 49, 49, 50, 49, 51, 49, 52, 49, 53, 49, 54, 49, 55, 49, 56, 49, 57, 50, 48, 50, 49, 50, 50, 50, 51, 50, 52, 50, 53, 50, 54, 50, 55, 50, 56, 50, 57, 51, 48, 51, 49, 51, 50, 51, 51, 51, 52, 51, 53, 51, 54, 51, 55, 51, 56, 51, 57, 52, 48, 52, 49, 52, 50, 52, 51, 52, 52, 52, 53, 52, 54, 52, 55, 52, 56, 52, 57, 53, 48, 53, 49, 53, 50, 53, 51, 53, 52, 53, 53, 53, 54, 53, 55, 53, 56, 53, 57, 54, 48, 54, 49, 54, 50, 54, 51, 54, 52, 54, 53, 54, 54, 54, 55, 54, 56, 54, 57, 55, 48, 55, 49, 55, 50, 55, 51, 55, 52, 55, 53, 55, 54, 55, 55, 55, 56, 55, 57, 56, 48, 56, 49, 56, 50, 56, 51, 56, 52, 56, 53, 56, 54, 56, 55, 56, 56, 56, 57, 57, 48, 57, 49, 57, 50, 57, 51, 57, 52, 57, 53, 57, 54, 57, 55, 57, 56, 57, 57])) (some (.t 10)) (some (.t 13)), none, []⟩,
 ⟨.mov 2 (.t 14), none, []⟩] false)
 (.ret)))
theorem ok132 : FnOK Tryz.prog 132 15 [.t 2] sc132 :=
 ⟨Tryz.call132, Tryz.f132, (Tryz.f132).body.getD .skip, Tryz.func132, by kernel_rfl, by kernel_rfl, by kernel_rfl, by kernel_rfl, by kernel_rfl⟩
end Go.Proofs
end
/- part BkData -/
section
namespace Go.Proofs
open Go.Av Go.Pu
@[reducible] def kA (k : K) : List AV := [.str k.stu, .str k.ex, .int .i64 k.att]
@[reducible] def evA (e : Ev) : List AV := [.int .i64 e.kind, .str e.key.stu, .str e.key.ex, .int .i64 e.key.att, .int .i64 e.tick, .int .i64 e.ver, .int .i64 e.hun, .str e.text, .bool e.acc]
@[reducible] def grA (g : Gr) : List AV := [.int .i64 g.ver, .int .i64 g.hun, .int .i64 g.tick, .str g.text]
@[reducible] def apA (a : Ap) : List AV := [.int .i64 a.tick, .str a.text, .bool a.dec, .bool a.acc, .int .i64 a.at, .str a.ans]
@[reducible] def lsA {α : Type} [Inhabited α] (sz : Nat) (f : α → List AV) (l : List α) : AV := .sl sz l.length fun i => f (l.getD i default)
@[reducible] def enA (e : En) : List AV := [.str e.key.stu, .str e.key.ex, .int .i64 e.key.att, .int .i64 e.tick, .str e.text, lsA 4 grA e.grs, lsA 6 apA e.aps]
@[reducible] def bkA (b : Bk) : AV := .agg [.int .i64 b.tick, lsA 7 enA b.ens]
@[reducible] def evsA (l : List Ev) : AV := lsA 9 evA l
@[reducible] def strA (s : List UInt8) : List AV := [.str s]
def maxL : Nat := 140737488355328
theorem maxL_eq : maxL = 140737488355328 := rfl
theorem getD_lt {α : Type} [Inhabited α] {l : List α} {k : Nat} (h : k < l.length) : l.getD k default = l[k] := by
  simp [List.getD_eq_getElem?_getD, h]
theorem all_take_succ {α : Type} {p : α → Bool} {l : List α} {k : Nat} (h : k < l.length) : (l.take (k + 1)).all p = ((l.take k).all p && p l[k]) := by
  rw [List.take_succ_eq_append_getElem h, List.all_append]; simp only [List.all_cons, List.all_nil, Bool.and_true]
theorem take_succ_get {α : Type} {l : List α} {k : Nat} (h : k < l.length) : l.take (k + 1) = l.take k ++ [l[k]] := List.take_succ_eq_append_getElem h
theorem fin_mkR {rvs : List RV} {res : AV} {rout : List (Nat × Rt)} {s : St} {vs : List AV} {ob : List Prop} (h : resVs s rvs = some (vs, ob)) (k : allP (ob ++ leAV (resV vs) res)) (k2 : allP (leR s.rts rout)) : FinR rvs res rout s := ⟨vs, ob, h, k, k2⟩
theorem ev_eq (a b : Ev) : (a.kind == b.kind && (a.key.stu == b.key.stu && (a.key.ex == b.key.ex && (a.key.att == b.key.att && (a.tick == b.tick && (a.ver == b.ver && (a.hun == b.hun && (a.text == b.text && (a.acc == b.acc && true))))))))) = (a == b) := by
  rw [Bool.eq_iff_iff]
  simp only [Bool.and_eq_true, beq_iff_eq, and_true]
  constructor
  · rintro ⟨h1, h2, h3, h4, h5, h6, h7, h8, h9⟩
    cases a with | mk k1 k2 t v h x c => cases b with | mk k1' k2' t' v' h' x' c' => cases k2; cases k2'; simp_all
  · rintro rfl; simp
theorem gr_eq (a b : Gr) : (a.ver == b.ver && (a.hun == b.hun && (a.tick == b.tick && (a.text == b.text && true)))) = (a == b) := by
  rw [Bool.eq_iff_iff]
  simp only [Bool.and_eq_true, beq_iff_eq, and_true]
  constructor
  · rintro ⟨h1, h2, h3, h4⟩; cases a; cases b; simp_all
  · rintro rfl; simp
theorem ap_eq (a b : Ap) : (a.tick == b.tick && (a.text == b.text && (a.dec == b.dec && (a.acc == b.acc && (a.at == b.at && (a.ans == b.ans && true)))))) = (a == b) := by
  rw [Bool.eq_iff_iff]
  simp only [Bool.and_eq_true, beq_iff_eq, and_true]
  constructor
  · rintro ⟨h1, h2, h3, h4, h5, h6⟩; cases a; cases b; simp_all
  · rintro rfl; simp
theorem k_eq (a b : K) : (a.stu == b.stu && (a.ex == b.ex && (a.att == b.att && true))) = (a == b) := by
  rw [Bool.eq_iff_iff]
  simp only [Bool.and_eq_true, beq_iff_eq, and_true]
  constructor
  · rintro ⟨h1, h2, h3⟩; cases a; cases b; simp_all
  · rintro rfl; simp
theorem xorb_f (b : Bool) : xorb false b = b := rfl
theorem xorb_t (b : Bool) : xorb true b = !b := rfl
theorem joined_eq (n : Nat) (f g : Nat → List AV) (i : Nat) : joined n f g i = if i < n then f i else g (i - n) := by
  unfold joined
  by_cases h : i < n
  · have : Nat.blt i n = true := by rw [Nat.blt_eq]; exact h
    simp [this, h]
  · have : Nat.blt i n = false := by rw [Bool.eq_false_iff]; intro hh; rw [Nat.blt_eq] at hh; exact h hh
    simp [this, h]
theorem copied_eq (n : Nat) (f g : Nat → List AV) (i : Nat) : copied n f g i = if i < n then g i else f i := by
  unfold copied
  by_cases h : i < n
  · have : Nat.blt i n = true := by rw [Nat.blt_eq]; exact h
    simp [this, h]
  · have : Nat.blt i n = false := by rw [Bool.eq_false_iff]; intro hh; rw [Nat.blt_eq] at hh; exact h hh
    simp [this, h]
theorem stored_eq (k off : Nat) (vs : List AV) (f : Nat → List AV) (i : Nat) : Go.Av.stored k off vs f i = if i = k then setAt off vs (f i) else f i := by
  unfold Go.Av.stored
  by_cases h : i = k
  · have : Nat.beq i k = true := beq_iff.2 h
    simp [this, h]
  · have : Nat.beq i k = false := beq_ne h
    simp [this, h]
theorem getD_app {α : Type} [Inhabited α] (l m : List α) (i : Nat) : (l ++ m).getD i default = if i < l.length then l.getD i default else m.getD (i - l.length) default := by
  simp only [List.getD_eq_getElem?_getD, List.getElem?_append]
  split <;> rfl
theorem app1 {α : Type} [Inhabited α] (enc : α → List AV) (l : List α) (x : α) (g : Nat → List AV) (hg : g 0 = enc x) (i : Nat) (hi : i < l.length + 1) : joined l.length (fun i => enc (l.getD i default)) g i = enc ((l ++ [x]).getD i default) := by
  rw [joined_eq, getD_app]
  by_cases h : i < l.length
  · rw [if_pos h, if_pos h]
  · rw [if_neg h, if_neg h, show i - l.length = 0 by omega, hg]
    rfl
/-- a row with one element more -/
theorem ent_app1 {P : Program} {C : Ctx P} {s : St} {α : Type} [Inhabited α] (q : Nat) (enc : α → List AV) {ety sz n : Nat} {l : List α} {x : α} {f g : Nat → List AV} (l' : List α) (hl : l' = l ++ [x]) (hr : lookR s.rts q = some (.row ety sz n f)) (hn : n = l.length + 1) (hf : f = joined l.length (fun i => enc (l.getD i default)) g) (hg : g 0 = enc x) :
    Ent C s ⟨s.env, setR q (.row ety sz l'.length fun i => enc (l'.getD i default)) s.rts⟩ := by
  subst hl hn hf
  exact ent_row q _ _ hr (by simp) (app1 enc l x g hg)
end Go.Proofs
end
/- part BkA -/
section
namespace Go.Proofs
open Go.Av Go.Pu
theorem nan_spec (x : Int) : Spec0 Tryz.prog 106 [.int .i64 x] (.bool false) := by
  refine spec0 ok106 rfl fun C _ => ?_
  (repeat (first | refine wpS_seq ?_ | refine wpS_reg ?_ | refine run_step rfl (by ((repeat' (first | exact aN | refine aC ?_ ?_ | intro _)) <;> first | assumption | omega | (simp only [obS] at *; omega) | (intros; first | rfl | assumption | omega | simp_all; done))) ?_ | refine run_nil ?_ | refine wpS_block ?_ | refine wpS_skip ?_ | refine wpS_exit ?_ | refine wpS_ret ?_))
  refine fin_mk rfl ?_; (repeat' (first | exact aN | refine aC ?_ ?_))
  simp
def cmpI (x y : Int) : Int := if x < y then -1 else if y < x then 1 else 0
theorem cmp_spec (x y : Int) : Spec0 Tryz.prog 86 [.int .i64 x, .int .i64 y] (.int .i64 (cmpI x y)) := by
  refine spec0 ok86 rfl fun C _ => ?_
  (repeat (first | refine wpS_seq ?_ | refine wpS_reg ?_ | refine run_step rfl (by ((repeat' (first | exact aN | refine aC ?_ ?_ | intro _)) <;> first | assumption | omega | (simp only [obS] at *; omega) | (intros; first | rfl | assumption | omega | simp_all; done))) ?_ | refine run_nil ?_ | refine wpS_block ?_ | refine wpS_skip ?_ | refine wpS_exit ?_ | refine wpS_ret ?_))
  refine run_c ((nan_spec x)) rfl (by ((repeat' (first | exact aN | refine aC ?_ ?_ | intro _)) <;> first | assumption | omega | (simp only [obS] at *; omega) | (intros; first | rfl | assumption | omega | simp_all; done))) rfl rfl (.inl rfl) ?_
  (repeat (first | refine wpS_seq ?_ | refine wpS_reg ?_ | refine run_step rfl (by ((repeat' (first | exact aN | refine aC ?_ ?_ | intro _)) <;> first | assumption | omega | (simp only [obS] at *; omega) | (intros; first | rfl | assumption | omega | simp_all; done))) ?_ | refine run_nil ?_ | refine wpS_block ?_ | refine wpS_skip ?_ | refine wpS_exit ?_ | refine wpS_ret ?_))
  refine run_c ((nan_spec y)) rfl (by ((repeat' (first | exact aN | refine aC ?_ ?_ | intro _)) <;> first | assumption | omega | (simp only [obS] at *; omega) | (intros; first | rfl | assumption | omega | simp_all; done))) rfl rfl (.inl rfl) ?_
  (repeat (first | refine wpS_seq ?_ | refine wpS_reg ?_ | refine run_step rfl (by ((repeat' (first | exact aN | refine aC ?_ ?_ | intro _)) <;> first | assumption | omega | (simp only [obS] at *; omega) | (intros; first | rfl | assumption | omega | simp_all; done))) ?_ | refine run_nil ?_ | refine wpS_block ?_ | refine wpS_skip ?_ | refine wpS_exit ?_ | refine wpS_ret ?_))
  refine wpS_cond rfl (by ((repeat' (first | exact aN | refine aC ?_ ?_ | intro _)) <;> first | assumption | omega | (simp only [obS] at *; omega) | (intros; first | rfl | assumption | omega | simp_all; done))) (fun h => ?_) (fun h => ?_)
  · cases h
  (repeat (first | refine wpS_seq ?_ | refine wpS_reg ?_ | refine run_step rfl (by ((repeat' (first | exact aN | refine aC ?_ ?_ | intro _)) <;> first | assumption | omega | (simp only [obS] at *; omega) | (intros; first | rfl | assumption | omega | simp_all; done))) ?_ | refine run_nil ?_ | refine wpS_block ?_ | refine wpS_skip ?_ | refine wpS_exit ?_ | refine wpS_ret ?_))
  refine wpS_cond rfl (by ((repeat' (first | exact aN | refine aC ?_ ?_ | intro _)) <;> first | assumption | omega | (simp only [obS] at *; omega) | (intros; first | rfl | assumption | omega | simp_all; done))) (fun h => ?_) (fun h => ?_)
  · cases h
  (repeat (first | refine wpS_seq ?_ | refine wpS_reg ?_ | refine run_step rfl (by ((repeat' (first | exact aN | refine aC ?_ ?_ | intro _)) <;> first | assumption | omega | (simp only [obS] at *; omega) | (intros; first | rfl | assumption | omega | simp_all; done))) ?_ | refine run_nil ?_ | refine wpS_block ?_ | refine wpS_skip ?_ | refine wpS_exit ?_ | refine wpS_ret ?_))
  refine wpS_cond rfl (by ((repeat' (first | exact aN | refine aC ?_ ?_ | intro _)) <;> first | assumption | omega | (simp only [obS] at *; omega) | (intros; first | rfl | assumption | omega | simp_all; done))) (fun h => ?_) (fun h => ?_)
  · (repeat (first | refine wpS_seq ?_ | refine wpS_reg ?_ | refine run_step rfl (by ((repeat' (first | exact aN | refine aC ?_ ?_ | intro _)) <;> first | assumption | omega | (simp only [obS] at *; omega) | (intros; first | rfl | assumption | omega | simp_all; done))) ?_ | refine run_nil ?_ | refine wpS_block ?_ | refine wpS_skip ?_ | refine wpS_exit ?_ | refine wpS_ret ?_))
    refine fin_mk rfl ?_; (repeat' (first | exact aN | refine aC ?_ ?_))
    have : x < y := by simpa using h
    simp [cmpI, this]
  (repeat (first | refine wpS_seq ?_ | refine wpS_reg ?_ | refine run_step rfl (by ((repeat' (first | exact aN | refine aC ?_ ?_ | intro _)) <;> first | assumption | omega | (simp only [obS] at *; omega) | (intros; first | rfl | assumption | omega | simp_all; done))) ?_ | refine run_nil ?_ | refine wpS_block ?_ | refine wpS_skip ?_ | refine wpS_exit ?_ | refine wpS_ret ?_))
  refine wpS_cond rfl (by ((repeat' (first | exact aN | refine aC ?_ ?_ | intro _)) <;> first | assumption | omega | (simp only [obS] at *; omega) | (intros; first | rfl | assumption | omega | simp_all; done))) (fun h => ?_) (fun h => ?_)
  · (repeat (first | refine wpS_seq ?_ | refine wpS_reg ?_ | refine run_step rfl (by ((repeat' (first | exact aN | refine aC ?_ ?_ | intro _)) <;> first | assumption | omega | (simp only [obS] at *; omega) | (intros; first | rfl | assumption | omega | simp_all; done))) ?_ | refine run_nil ?_ | refine wpS_block ?_ | refine wpS_skip ?_ | refine wpS_exit ?_ | refine wpS_ret ?_))
    refine fin_mk rfl ?_; (repeat' (first | exact aN | refine aC ?_ ?_))
    have h1 : y < x := by simpa using h
    have : ¬ x < y := by omega
    simp [cmpI, this, h1]
  · (repeat (first | refine wpS_seq ?_ | refine wpS_reg ?_ | refine run_step rfl (by ((repeat' (first | exact aN | refine aC ?_ ?_ | intro _)) <;> first | assumption | omega | (simp only [obS] at *; omega) | (intros; first | rfl | assumption | omega | simp_all; done))) ?_ | refine run_nil ?_ | refine wpS_block ?_ | refine wpS_skip ?_ | refine wpS_exit ?_ | refine wpS_ret ?_))
    refine fin_mk rfl ?_; (repeat' (first | exact aN | refine aC ?_ ?_))
    rename_i h2
    have h1 : ¬ x < y := by simpa using h2
    have h3 : ¬ y < x := by simpa using h
    simp [cmpI, h1, h3]
theorem evcmp_spec (a b : Ev) : Spec0 Tryz.prog 85 [.agg (evA a), .agg (evA b)] (.int .i64 (cmpI a.tick b.tick)) := by
  refine spec0 ok85 rfl fun C _ => ?_
  (repeat (first | refine wpS_seq ?_ | refine wpS_reg ?_ | refine run_step rfl (by ((repeat' (first | exact aN | refine aC ?_ ?_ | intro _)) <;> first | assumption | omega | (simp only [obS] at *; omega) | (intros; first | rfl | assumption | omega | simp_all; done))) ?_ | refine run_nil ?_ | refine wpS_block ?_ | refine wpS_skip ?_ | refine wpS_exit ?_ | refine wpS_ret ?_))
  refine run_c ((cmp_spec a.tick b.tick)) rfl (by ((repeat' (first | exact aN | refine aC ?_ ?_ | intro _)) <;> first | assumption | omega | (simp only [obS] at *; omega) | (intros; first | rfl | assumption | omega | simp_all; done))) rfl rfl (.inl rfl) ?_
  (repeat (first | refine wpS_seq ?_ | refine wpS_reg ?_ | refine run_step rfl (by ((repeat' (first | exact aN | refine aC ?_ ?_ | intro _)) <;> first | assumption | omega | (simp only [obS] at *; omega) | (intros; first | rfl | assumption | omega | simp_all; done))) ?_ | refine run_nil ?_ | refine wpS_block ?_ | refine wpS_skip ?_ | refine wpS_exit ?_ | refine wpS_ret ?_))
  refine fin_mk rfl ?_; (repeat' (first | exact aN | refine aC ?_ ?_))
  rfl
end Go.Proofs
end
/- part BkB -/
section
namespace Go.Proofs
open Go.Av Go.Pu
/-- where an element is, or -1 -/
def idxI {α : Type} (p : α → Bool) (l : List α) : Int := match l.findIdx? p with
  | some i => (i : Int)
  | none => -1
theorem idxI_at {α : Type} {p : α → Bool} {l : List α} {k : Nat} (hk : k < l.length) (h : ∀ j (hj : j < k), p (l[j]'(by omega)) = false) (hp : p l[k] = true) : idxI p l = k := by
  unfold idxI
  have : l.findIdx? p = some k := by
    rw [List.findIdx?_eq_some_iff_getElem]
    exact ⟨hk, hp, fun j hj => by simp [h j hj]⟩
  rw [this]
theorem idxI_no {α : Type} {p : α → Bool} {l : List α} (h : ∀ j (hj : j < l.length), p l[j] = false) : idxI p l = -1 := by
  unfold idxI
  have : l.findIdx? p = none := by
    rw [List.findIdx?_eq_none_iff]
    intro x hx
    obtain ⟨j, hj, rfl⟩ := List.getElem_of_mem hx
    exact h j hj
  rw [this]
theorem idxI_nonneg {α : Type} {p : α → Bool} {l : List α} : decide (0 ≤ idxI p l) = l.any p := by
  unfold idxI
  cases h : l.findIdx? p with
  | some i =>
    rw [List.findIdx?_eq_some_iff_getElem] at h
    obtain ⟨h1, h2, _⟩ := h
    have : l.any p = true := List.any_eq_true.2 ⟨_, List.getElem_mem h1, h2⟩
    simp [this]
  | none =>
    rw [List.findIdx?_eq_none_iff] at h
    have : l.any p = false := by
      rw [Bool.eq_false_iff]
      intro hh
      obtain ⟨x, hx, hp⟩ := List.any_eq_true.1 hh
      simp [h x hx] at hp
    simp [this]
theorem beq_false_of {α : Type} [BEq α] {a b : α} (h : ¬ (a == b) = true) : (a == b) = false := by simpa using h
theorem evIndex_spec (l : List Ev) (e : Ev) (hl : l.length ≤ maxL) : Spec0 Tryz.prog 104 [evsA l, .agg (evA e)] (.int .i64 (idxI (fun x => e == x) l)) := by
  rw [maxL_eq] at hl
  refine spec0 ok104 rfl fun C _ => ?_
  (repeat (first | refine wpS_seq ?_ | refine wpS_reg ?_ | refine run_step rfl (by ((repeat' (first | exact aN | refine aC ?_ ?_ | intro _)) <;> first | assumption | omega | (simp only [obS] at *; omega) | (intros; first | rfl | assumption | omega | simp_all; done))) ?_ | refine run_nil ?_ | refine wpS_block ?_ | refine wpS_skip ?_ | refine wpS_exit ?_ | refine wpS_ret ?_))
  refine wpS_loop (fun k => k ≤ l.length ∧ ∀ j (hj : j < k) (hl : j < l.length), (e == l[j]) = false) (fun k => ⟨[(0, evsA l), (3, .loc 3 0), (7, .int .i64 (l.length : Nat)), (8, .int .i64 (k : Nat))], [(3, .blk 26 (evA e))]⟩) (fun k => l.length - k) 0 ⟨by omega, by intro j hj; omega⟩ (by refine ent_le ?_; (repeat' (first | exact aN | refine aC ?_ ?_)) <;> simp) ?_
  rintro k ⟨hk, hall⟩
  (repeat (first | refine wpS_seq ?_ | refine wpS_reg ?_ | refine run_step rfl (by ((repeat' (first | exact aN | refine aC ?_ ?_ | intro _)) <;> first | assumption | omega | (simp only [obS] at *; omega) | (intros; first | rfl | assumption | omega | simp_all; done))) ?_ | refine run_nil ?_ | refine wpS_block ?_ | refine wpS_skip ?_ | refine wpS_exit ?_ | refine wpS_ret ?_))
  refine wpS_cond rfl (by ((repeat' (first | exact aN | refine aC ?_ ?_ | intro _)) <;> first | assumption | omega | (simp only [obS] at *; omega) | (intros; first | rfl | assumption | omega | simp_all; done))) (fun h => ?_) (fun h => ?_)
  · have hlt : k < l.length := by simpa using h
    (repeat (first | refine wpS_seq ?_ | refine wpS_reg ?_ | refine run_step rfl (by ((repeat' (first | exact aN | refine aC ?_ ?_ | intro _)) <;> first | assumption | omega | (simp only [obS] at *; omega) | (intros; first | rfl | assumption | omega | simp_all; done))) ?_ | refine run_nil ?_ | refine wpS_block ?_ | refine wpS_skip ?_ | refine wpS_exit ?_ | refine wpS_ret ?_))
    refine wpS_D (by kernel_rfl) ?_; (repeat (refine trg_step rfl (by ((repeat' (first | exact aN | refine aC ?_ ?_ | intro _)) <;> first | assumption | omega | (simp only [obS] at *; omega) | (intros; first | rfl | assumption | omega | simp_all; done))) ?_)); refine trg_nil ⟨rfl, ?_⟩
    refine wpS_cond rfl (by ((repeat' (first | exact aN | refine aC ?_ ?_ | intro _)) <;> first | assumption | omega | (simp only [obS] at *; omega) | (intros; first | rfl | assumption | omega | simp_all; done))) (fun h => ?_) (fun h => ?_)
    · (repeat (first | refine wpS_seq ?_ | refine wpS_reg ?_ | refine run_step rfl (by ((repeat' (first | exact aN | refine aC ?_ ?_ | intro _)) <;> first | assumption | omega | (simp only [obS] at *; omega) | (intros; first | rfl | assumption | omega | simp_all; done))) ?_ | refine run_nil ?_ | refine wpS_block ?_ | refine wpS_skip ?_ | refine wpS_exit ?_ | refine wpS_ret ?_))
      refine fin_mk rfl ?_; (repeat' (first | exact aN | refine aC ?_ ?_))
      simp only [Int.toNat_natCast, getD_lt hlt, ev_eq, xorb_f] at h
      rw [idxI_at (p := fun x => e == x) hlt (fun j hj => hall j hj (by omega)) h]
    · (repeat (first | refine wpS_seq ?_ | refine wpS_reg ?_ | refine run_step rfl (by ((repeat' (first | exact aN | refine aC ?_ ?_ | intro _)) <;> first | assumption | omega | (simp only [obS] at *; omega) | (intros; first | rfl | assumption | omega | simp_all; done))) ?_ | refine run_nil ?_ | refine wpS_block ?_ | refine wpS_skip ?_ | refine wpS_exit ?_ | refine wpS_ret ?_))
      simp only [Int.toNat_natCast, getD_lt hlt, ev_eq, xorb_f] at h
      refine ⟨k + 1, ⟨by omega, ?_⟩, by dsimp only; omega, ?_⟩
      · intro j hj hl
        by_cases hjk : j < k
        · exact hall j hjk hl
        · obtain rfl : j = k := by omega
          exact h
      · refine ent_le ?_; (repeat' (first | exact aN | refine aC ?_ ?_)) <;> simp
  · have hlt : k = l.length := by simp at h; omega
    (repeat (first | refine wpS_seq ?_ | refine wpS_reg ?_ | refine run_step rfl (by ((repeat' (first | exact aN | refine aC ?_ ?_ | intro _)) <;> first | assumption | omega | (simp only [obS] at *; omega) | (intros; first | rfl | assumption | omega | simp_all; done))) ?_ | refine run_nil ?_ | refine wpS_block ?_ | refine wpS_skip ?_ | refine wpS_exit ?_ | refine wpS_ret ?_))
    refine fin_mk rfl ?_; (repeat' (first | exact aN | refine aC ?_ ?_))
    rw [idxI_no (fun j hj => hall j (by omega) hj)]
theorem any_beq {α : Type} [BEq α] [LawfulBEq α] (l : List α) (e : α) : (l.any fun x => e == x) = l.contains e := by
  rw [List.contains_eq_any_beq]
theorem evContains_spec (l : List Ev) (e : Ev) (hl : l.length ≤ maxL) : Spec0 Tryz.prog 83 [evsA l, .agg (evA e)] (.bool (l.contains e)) := by
  refine spec0 ok83 rfl fun C _ => ?_
  (repeat (first | refine wpS_seq ?_ | refine wpS_reg ?_ | refine run_step rfl (by ((repeat' (first | exact aN | refine aC ?_ ?_ | intro _)) <;> first | assumption | omega | (simp only [obS] at *; omega) | (intros; first | rfl | assumption | omega | simp_all; done))) ?_ | refine run_nil ?_ | refine wpS_block ?_ | refine wpS_skip ?_ | refine wpS_exit ?_ | refine wpS_ret ?_))
  refine run_c ((evIndex_spec l e hl)) rfl (by ((repeat' (first | exact aN | refine aC ?_ ?_ | intro _)) <;> first | assumption | omega | (simp only [obS] at *; omega) | (intros; first | rfl | assumption | omega | simp_all; done))) rfl rfl (.inl rfl) ?_
  (repeat (first | refine wpS_seq ?_ | refine wpS_reg ?_ | refine run_step rfl (by ((repeat' (first | exact aN | refine aC ?_ ?_ | intro _)) <;> first | assumption | omega | (simp only [obS] at *; omega) | (intros; first | rfl | assumption | omega | simp_all; done))) ?_ | refine run_nil ?_ | refine wpS_block ?_ | refine wpS_skip ?_ | refine wpS_exit ?_ | refine wpS_ret ?_))
  refine fin_mk rfl ?_; (repeat' (first | exact aN | refine aC ?_ ?_))
  rw [idxI_nonneg, any_beq]
theorem strIndex_spec (l : List (List UInt8)) (e : List UInt8) (hl : l.length ≤ maxL) : Spec0 Tryz.prog 191 [lsA 1 strA l, .str e] (.int .i64 (idxI (fun x => e == x) l)) := by
  rw [maxL_eq] at hl
  refine spec0 ok191 rfl fun C _ => ?_
  (repeat (first | refine wpS_seq ?_ | refine wpS_reg ?_ | refine run_step rfl (by ((repeat' (first | exact aN | refine aC ?_ ?_ | intro _)) <;> first | assumption | omega | (simp only [obS] at *; omega) | (intros; first | rfl | assumption | omega | simp_all; done))) ?_ | refine run_nil ?_ | refine wpS_block ?_ | refine wpS_skip ?_ | refine wpS_exit ?_ | refine wpS_ret ?_))
  refine wpS_loop (fun k => k ≤ l.length ∧ ∀ j (hj : j < k) (hl : j < l.length), (e == l[j]) = false) (fun k => ⟨[(0, lsA 1 strA l), (1, .str e), (7, .int .i64 (l.length : Nat)), (8, .int .i64 (k : Nat))], []⟩) (fun k => l.length - k) 0 ⟨by omega, by intro j hj; omega⟩ (by refine ent_le ?_; (repeat' (first | exact aN | refine aC ?_ ?_)) <;> simp) ?_
  rintro k ⟨hk, hall⟩
  (repeat (first | refine wpS_seq ?_ | refine wpS_reg ?_ | refine run_step rfl (by ((repeat' (first | exact aN | refine aC ?_ ?_ | intro _)) <;> first | assumption | omega | (simp only [obS] at *; omega) | (intros; first | rfl | assumption | omega | simp_all; done))) ?_ | refine run_nil ?_ | refine wpS_block ?_ | refine wpS_skip ?_ | refine wpS_exit ?_ | refine wpS_ret ?_))
  refine wpS_cond rfl (by ((repeat' (first | exact aN | refine aC ?_ ?_ | intro _)) <;> first | assumption | omega | (simp only [obS] at *; omega) | (intros; first | rfl | assumption | omega | simp_all; done))) (fun h => ?_) (fun h => ?_)
  · have hlt : k < l.length := by simpa using h
    (repeat (first | refine wpS_seq ?_ | refine wpS_reg ?_ | refine run_step rfl (by ((repeat' (first | exact aN | refine aC ?_ ?_ | intro _)) <;> first | assumption | omega | (simp only [obS] at *; omega) | (intros; first | rfl | assumption | omega | simp_all; done))) ?_ | refine run_nil ?_ | refine wpS_block ?_ | refine wpS_skip ?_ | refine wpS_exit ?_ | refine wpS_ret ?_))
    refine wpS_cond rfl (by ((repeat' (first | exact aN | refine aC ?_ ?_ | intro _)) <;> first | assumption | omega | (simp only [obS] at *; omega) | (intros; first | rfl | assumption | omega | simp_all; done))) (fun h => ?_) (fun h => ?_)
    · (repeat (first | refine wpS_seq ?_ | refine wpS_reg ?_ | refine run_step rfl (by ((repeat' (first | exact aN | refine aC ?_ ?_ | intro _)) <;> first | assumption | omega | (simp only [obS] at *; omega) | (intros; first | rfl | assumption | omega | simp_all; done))) ?_ | refine run_nil ?_ | refine wpS_block ?_ | refine wpS_skip ?_ | refine wpS_exit ?_ | refine wpS_ret ?_))
      refine fin_mk rfl ?_; (repeat' (first | exact aN | refine aC ?_ ?_))
      simp only [Int.toNat_natCast, getD_lt hlt] at h
      rw [idxI_at (p := fun x => e == x) hlt (fun j hj => hall j hj (by omega)) h]
    · (repeat (first | refine wpS_seq ?_ | refine wpS_reg ?_ | refine run_step rfl (by ((repeat' (first | exact aN | refine aC ?_ ?_ | intro _)) <;> first | assumption | omega | (simp only [obS] at *; omega) | (intros; first | rfl | assumption | omega | simp_all; done))) ?_ | refine run_nil ?_ | refine wpS_block ?_ | refine wpS_skip ?_ | refine wpS_exit ?_ | refine wpS_ret ?_))
      simp only [Int.toNat_natCast, getD_lt hlt] at h
      refine ⟨k + 1, ⟨by omega, ?_⟩, by dsimp only; omega, ?_⟩
      · intro j hj hl
        by_cases hjk : j < k
        · exact hall j hjk hl
        · obtain rfl : j = k := by omega
          exact h
      · refine ent_le ?_; (repeat' (first | exact aN | refine aC ?_ ?_)) <;> simp
  · have hlt : k = l.length := by simp at h; omega
    (repeat (first | refine wpS_seq ?_ | refine wpS_reg ?_ | refine run_step rfl (by ((repeat' (first | exact aN | refine aC ?_ ?_ | intro _)) <;> first | assumption | omega | (simp only [obS] at *; omega) | (intros; first | rfl | assumption | omega | simp_all; done))) ?_ | refine run_nil ?_ | refine wpS_block ?_ | refine wpS_skip ?_ | refine wpS_exit ?_ | refine wpS_ret ?_))
    refine fin_mk rfl ?_; (repeat' (first | exact aN | refine aC ?_ ?_))
    rw [idxI_no (fun j hj => hall j (by omega) hj)]
theorem strContains_spec (l : List (List UInt8)) (e : List UInt8) (hl : l.length ≤ maxL) : Spec0 Tryz.prog 171 [lsA 1 strA l, .str e] (.bool (l.contains e)) := by
  refine spec0 ok171 rfl fun C _ => ?_
  (repeat (first | refine wpS_seq ?_ | refine wpS_reg ?_ | refine run_step rfl (by ((repeat' (first | exact aN | refine aC ?_ ?_ | intro _)) <;> first | assumption | omega | (simp only [obS] at *; omega) | (intros; first | rfl | assumption | omega | simp_all; done))) ?_ | refine run_nil ?_ | refine wpS_block ?_ | refine wpS_skip ?_ | refine wpS_exit ?_ | refine wpS_ret ?_))
  refine run_c ((strIndex_spec l e hl)) rfl (by ((repeat' (first | exact aN | refine aC ?_ ?_ | intro _)) <;> first | assumption | omega | (simp only [obS] at *; omega) | (intros; first | rfl | assumption | omega | simp_all; done))) rfl rfl (.inl rfl) ?_
  (repeat (first | refine wpS_seq ?_ | refine wpS_reg ?_ | refine run_step rfl (by ((repeat' (first | exact aN | refine aC ?_ ?_ | intro _)) <;> first | assumption | omega | (simp only [obS] at *; omega) | (intros; first | rfl | assumption | omega | simp_all; done))) ?_ | refine run_nil ?_ | refine wpS_block ?_ | refine wpS_skip ?_ | refine wpS_exit ?_ | refine wpS_ret ?_))
  refine fin_mk rfl ?_; (repeat' (first | exact aN | refine aC ?_ ?_))
  rw [idxI_nonneg, any_beq]
theorem list_beq_true {α : Type} [Inhabited α] [BEq α] [LawfulBEq α] {l m : List α} (hl : l.length = m.length) (h : ∀ j (hj : j < l.length), (l[j] == m[j]'(hl ▸ hj)) = true) : (l == m) = true := by
  rw [beq_iff_eq]
  refine List.ext_getElem hl fun j h1 h2 => ?_
  simpa using h j h1
theorem grEqual_spec (l m : List Gr) (hl : l.length ≤ maxL) : Spec0 Tryz.prog 15 [lsA 4 grA l, lsA 4 grA m] (.bool (l == m)) := by
  rw [maxL_eq] at hl
  refine spec0 ok15 rfl fun C _ => ?_
  (repeat (first | refine wpS_seq ?_ | refine wpS_reg ?_ | refine run_step rfl (by ((repeat' (first | exact aN | refine aC ?_ ?_ | intro _)) <;> first | assumption | omega | (simp only [obS] at *; omega) | (intros; first | rfl | assumption | omega | simp_all; done))) ?_ | refine run_nil ?_ | refine wpS_block ?_ | refine wpS_skip ?_ | refine wpS_exit ?_ | refine wpS_ret ?_))
  refine wpS_cond rfl (by ((repeat' (first | exact aN | refine aC ?_ ?_ | intro _)) <;> first | assumption | omega | (simp only [obS] at *; omega) | (intros; first | rfl | assumption | omega | simp_all; done))) (fun h => ?_) (fun h => ?_)
  · (repeat (first | refine wpS_seq ?_ | refine wpS_reg ?_ | refine run_step rfl (by ((repeat' (first | exact aN | refine aC ?_ ?_ | intro _)) <;> first | assumption | omega | (simp only [obS] at *; omega) | (intros; first | rfl | assumption | omega | simp_all; done))) ?_ | refine run_nil ?_ | refine wpS_block ?_ | refine wpS_skip ?_ | refine wpS_exit ?_ | refine wpS_ret ?_))
    refine fin_mk rfl ?_; (repeat' (first | exact aN | refine aC ?_ ?_))
    have hne : ¬ l = m := by rintro rfl; simp at h
    simpa using hne
  have hlm : l.length = m.length := by simp at h; omega
  (repeat (first | refine wpS_seq ?_ | refine wpS_reg ?_ | refine run_step rfl (by ((repeat' (first | exact aN | refine aC ?_ ?_ | intro _)) <;> first | assumption | omega | (simp only [obS] at *; omega) | (intros; first | rfl | assumption | omega | simp_all; done))) ?_ | refine run_nil ?_ | refine wpS_block ?_ | refine wpS_skip ?_ | refine wpS_exit ?_ | refine wpS_ret ?_))
  refine wpS_loop (fun k => k ≤ l.length ∧ ∀ j (hj : j < k) (hl : j < l.length), (l[j] == m[j]'(hlm ▸ hl)) = true) (fun k => ⟨[(0, lsA 4 grA l), (1, lsA 4 grA m), (12, .int .i64 (l.length : Nat)), (13, .int .i64 (k : Nat))], []⟩) (fun k => l.length - k) 0 ⟨by omega, by intro j hj; omega⟩ (by refine ent_le ?_; (repeat' (first | exact aN | refine aC ?_ ?_)) <;> simp) ?_
  rintro k ⟨hk, hall⟩
  clear h
  (repeat (first | refine wpS_seq ?_ | refine wpS_reg ?_ | refine run_step rfl (by ((repeat' (first | exact aN | refine aC ?_ ?_ | intro _)) <;> first | assumption | omega | (simp only [obS] at *; omega) | (intros; first | rfl | assumption | omega | simp_all; done))) ?_ | refine run_nil ?_ | refine wpS_block ?_ | refine wpS_skip ?_ | refine wpS_exit ?_ | refine wpS_ret ?_))
  refine wpS_cond rfl (by ((repeat' (first | exact aN | refine aC ?_ ?_ | intro _)) <;> first | assumption | omega | (simp only [obS] at *; omega) | (intros; first | rfl | assumption | omega | simp_all; done))) (fun h => ?_) (fun h => ?_)
  · have hlt : k < l.length := by simpa using h
    have hlt' : k < m.length := hlm ▸ hlt
    (repeat (first | refine wpS_seq ?_ | refine wpS_reg ?_ | refine run_step rfl (by ((repeat' (first | exact aN | refine aC ?_ ?_ | intro _)) <;> first | assumption | omega | (simp only [obS] at *; omega) | (intros; first | rfl | assumption | omega | simp_all; done))) ?_ | refine run_nil ?_ | refine wpS_block ?_ | refine wpS_skip ?_ | refine wpS_exit ?_ | refine wpS_ret ?_))
    refine wpS_D (by kernel_rfl) ?_; (repeat (refine trg_step rfl (by ((repeat' (first | exact aN | refine aC ?_ ?_ | intro _)) <;> first | assumption | omega | (simp only [obS] at *; omega) | (intros; first | rfl | assumption | omega | simp_all; done))) ?_)); refine trg_nil ⟨rfl, ?_⟩
    refine wpS_cond rfl (by ((repeat' (first | exact aN | refine aC ?_ ?_ | intro _)) <;> first | assumption | omega | (simp only [obS] at *; omega) | (intros; first | rfl | assumption | omega | simp_all; done))) (fun h => ?_) (fun h => ?_)
    · (repeat (first | refine wpS_seq ?_ | refine wpS_reg ?_ | refine run_step rfl (by ((repeat' (first | exact aN | refine aC ?_ ?_ | intro _)) <;> first | assumption | omega | (simp only [obS] at *; omega) | (intros; first | rfl | assumption | omega | simp_all; done))) ?_ | refine run_nil ?_ | refine wpS_block ?_ | refine wpS_skip ?_ | refine wpS_exit ?_ | refine wpS_ret ?_))
      refine fin_mk rfl ?_; (repeat' (first | exact aN | refine aC ?_ ?_))
      simp only [Int.toNat_natCast, getD_lt hlt, getD_lt hlt', gr_eq, xorb_t] at h
      have hne : ¬ l = m := by rintro rfl; simp at h
      simpa using hne
    · (repeat (first | refine wpS_seq ?_ | refine wpS_reg ?_ | refine run_step rfl (by ((repeat' (first | exact aN | refine aC ?_ ?_ | intro _)) <;> first | assumption | omega | (simp only [obS] at *; omega) | (intros; first | rfl | assumption | omega | simp_all; done))) ?_ | refine run_nil ?_ | refine wpS_block ?_ | refine wpS_skip ?_ | refine wpS_exit ?_ | refine wpS_ret ?_))
      simp only [Int.toNat_natCast, getD_lt hlt, getD_lt hlt', gr_eq, xorb_t] at h
      refine ⟨k + 1, ⟨by omega, ?_⟩, by dsimp only; omega, ?_⟩
      · intro j hj hl
        by_cases hjk : j < k
        · exact hall j hjk hl
        · obtain rfl : j = k := by omega
          simpa using h
      · refine ent_le ?_; (repeat' (first | exact aN | refine aC ?_ ?_)) <;> simp
  · have hlt : k = l.length := by simp at h; omega
    (repeat (first | refine wpS_seq ?_ | refine wpS_reg ?_ | refine run_step rfl (by ((repeat' (first | exact aN | refine aC ?_ ?_ | intro _)) <;> first | assumption | omega | (simp only [obS] at *; omega) | (intros; first | rfl | assumption | omega | simp_all; done))) ?_ | refine run_nil ?_ | refine wpS_block ?_ | refine wpS_skip ?_ | refine wpS_exit ?_ | refine wpS_ret ?_))
    refine fin_mk rfl ?_; (repeat' (first | exact aN | refine aC ?_ ?_))
    exact (list_beq_true hlm fun j hj => hall j (by omega) hj).symm
theorem evEqual_spec (l m : List Ev) (hl : l.length ≤ maxL) : Spec0 Tryz.prog 62 [lsA 9 evA l, lsA 9 evA m] (.bool (l == m)) := by
  rw [maxL_eq] at hl
  refine spec0 ok62 rfl fun C _ => ?_
  (repeat (first | refine wpS_seq ?_ | refine wpS_reg ?_ | refine run_step rfl (by ((repeat' (first | exact aN | refine aC ?_ ?_ | intro _)) <;> first | assumption | omega | (simp only [obS] at *; omega) | (intros; first | rfl | assumption | omega | simp_all; done))) ?_ | refine run_nil ?_ | refine wpS_block ?_ | refine wpS_skip ?_ | refine wpS_exit ?_ | refine wpS_ret ?_))
  refine wpS_cond rfl (by ((repeat' (first | exact aN | refine aC ?_ ?_ | intro _)) <;> first | assumption | omega | (simp only [obS] at *; omega) | (intros; first | rfl | assumption | omega | simp_all; done))) (fun h => ?_) (fun h => ?_)
  · (repeat (first | refine wpS_seq ?_ | refine wpS_reg ?_ | refine run_step rfl (by ((repeat' (first | exact aN | refine aC ?_ ?_ | intro _)) <;> first | assumption | omega | (simp only [obS] at *; omega) | (intros; first | rfl | assumption | omega | simp_all; done))) ?_ | refine run_nil ?_ | refine wpS_block ?_ | refine wpS_skip ?_ | refine wpS_exit ?_ | refine wpS_ret ?_))
    refine fin_mk rfl ?_; (repeat' (first | exact aN | refine aC ?_ ?_))
    have hne : ¬ l = m := by rintro rfl; simp at h
    simpa using hne
  have hlm : l.length = m.length := by simp at h; omega
  (repeat (first | refine wpS_seq ?_ | refine wpS_reg ?_ | refine run_step rfl (by ((repeat' (first | exact aN | refine aC ?_ ?_ | intro _)) <;> first | assumption | omega | (simp only [obS] at *; omega) | (intros; first | rfl | assumption | omega | simp_all; done))) ?_ | refine run_nil ?_ | refine wpS_block ?_ | refine wpS_skip ?_ | refine wpS_exit ?_ | refine wpS_ret ?_))
  refine wpS_loop (fun k => k ≤ l.length ∧ ∀ j (hj : j < k) (hl : j < l.length), (l[j] == m[j]'(hlm ▸ hl)) = true) (fun k => ⟨[(0, lsA 9 evA l), (1, lsA 9 evA m), (12, .int .i64 (l.length : Nat)), (13, .int .i64 (k : Nat))], []⟩) (fun k => l.length - k) 0 ⟨by omega, by intro j hj; omega⟩ (by refine ent_le ?_; (repeat' (first | exact aN | refine aC ?_ ?_)) <;> simp) ?_
  rintro k ⟨hk, hall⟩
  clear h
  (repeat (first | refine wpS_seq ?_ | refine wpS_reg ?_ | refine run_step rfl (by ((repeat' (first | exact aN | refine aC ?_ ?_ | intro _)) <;> first | assumption | omega | (simp only [obS] at *; omega) | (intros; first | rfl | assumption | omega | simp_all; done))) ?_ | refine run_nil ?_ | refine wpS_block ?_ | refine wpS_skip ?_ | refine wpS_exit ?_ | refine wpS_ret ?_))
  refine wpS_cond rfl (by ((repeat' (first | exact aN | refine aC ?_ ?_ | intro _)) <;> first | assumption | omega | (simp only [obS] at *; omega) | (intros; first | rfl | assumption | omega | simp_all; done))) (fun h => ?_) (fun h => ?_)
  · have hlt : k < l.length := by simpa using h
    have hlt' : k < m.length := hlm ▸ hlt
    (repeat (first | refine wpS_seq ?_ | refine wpS_reg ?_ | refine run_step rfl (by ((repeat' (first | exact aN | refine aC ?_ ?_ | intro _)) <;> first | assumption | omega | (simp only [obS] at *; omega) | (intros; first | rfl | assumption | omega | simp_all; done))) ?_ | refine run_nil ?_ | refine wpS_block ?_ | refine wpS_skip ?_ | refine wpS_exit ?_ | refine wpS_ret ?_))
    refine wpS_D (by kernel_rfl) ?_; (repeat (refine trg_step rfl (by ((repeat' (first | exact aN | refine aC ?_ ?_ | intro _)) <;> first | assumption | omega | (simp only [obS] at *; omega) | (intros; first | rfl | assumption | omega | simp_all; done))) ?_)); refine trg_nil ⟨rfl, ?_⟩
    refine wpS_cond rfl (by ((repeat' (first | exact aN | refine aC ?_ ?_ | intro _)) <;> first | assumption | omega | (simp only [obS] at *; omega) | (intros; first | rfl | assumption | omega | simp_all; done))) (fun h => ?_) (fun h => ?_)
    · (repeat (first | refine wpS_seq ?_ | refine wpS_reg ?_ | refine run_step rfl (by ((repeat' (first | exact aN | refine aC ?_ ?_ | intro _)) <;> first | assumption | omega | (simp only [obS] at *; omega) | (intros; first | rfl | assumption | omega | simp_all; done))) ?_ | refine run_nil ?_ | refine wpS_block ?_ | refine wpS_skip ?_ | refine wpS_exit ?_ | refine wpS_ret ?_))
      refine fin_mk rfl ?_; (repeat' (first | exact aN | refine aC ?_ ?_))
      simp only [Int.toNat_natCast, getD_lt hlt, getD_lt hlt', ev_eq, xorb_t] at h
      have hne : ¬ l = m := by rintro rfl; simp at h
      simpa using hne
    · (repeat (first | refine wpS_seq ?_ | refine wpS_reg ?_ | refine run_step rfl (by ((repeat' (first | exact aN | refine aC ?_ ?_ | intro _)) <;> first | assumption | omega | (simp only [obS] at *; omega) | (intros; first | rfl | assumption | omega | simp_all; done))) ?_ | refine run_nil ?_ | refine wpS_block ?_ | refine wpS_skip ?_ | refine wpS_exit ?_ | refine wpS_ret ?_))
      simp only [Int.toNat_natCast, getD_lt hlt, getD_lt hlt', ev_eq, xorb_t] at h
      refine ⟨k + 1, ⟨by omega, ?_⟩, by dsimp only; omega, ?_⟩
      · intro j hj hl
        by_cases hjk : j < k
        · exact hall j hjk hl
        · obtain rfl : j = k := by omega
          simpa using h
      · refine ent_le ?_; (repeat' (first | exact aN | refine aC ?_ ?_)) <;> simp
  · have hlt : k = l.length := by simp at h; omega
    (repeat (first | refine wpS_seq ?_ | refine wpS_reg ?_ | refine run_step rfl (by ((repeat' (first | exact aN | refine aC ?_ ?_ | intro _)) <;> first | assumption | omega | (simp only [obS] at *; omega) | (intros; first | rfl | assumption | omega | simp_all; done))) ?_ | refine run_nil ?_ | refine wpS_block ?_ | refine wpS_skip ?_ | refine wpS_exit ?_ | refine wpS_ret ?_))
    refine fin_mk rfl ?_; (repeat' (first | exact aN | refine aC ?_ ?_))
    exact (list_beq_true hlm fun j hj => hall j (by omega) hj).symm
theorem apEqual_spec (l m : List Ap) (hl : l.length ≤ maxL) : Spec0 Tryz.prog 66 [lsA 6 apA l, lsA 6 apA m] (.bool (l == m)) := by
  rw [maxL_eq] at hl
  refine spec0 ok66 rfl fun C _ => ?_
  (repeat (first | refine wpS_seq ?_ | refine wpS_reg ?_ | refine run_step rfl (by ((repeat' (first | exact aN | refine aC ?_ ?_ | intro _)) <;> first | assumption | omega | (simp only [obS] at *; omega) | (intros; first | rfl | assumption | omega | simp_all; done))) ?_ | refine run_nil ?_ | refine wpS_block ?_ | refine wpS_skip ?_ | refine wpS_exit ?_ | refine wpS_ret ?_))
  refine wpS_cond rfl (by ((repeat' (first | exact aN | refine aC ?_ ?_ | intro _)) <;> first | assumption | omega | (simp only [obS] at *; omega) | (intros; first | rfl | assumption | omega | simp_all; done))) (fun h => ?_) (fun h => ?_)
  · (repeat (first | refine wpS_seq ?_ | refine wpS_reg ?_ | refine run_step rfl (by ((repeat' (first | exact aN | refine aC ?_ ?_ | intro _)) <;> first | assumption | omega | (simp only [obS] at *; omega) | (intros; first | rfl | assumption | omega | simp_all; done))) ?_ | refine run_nil ?_ | refine wpS_block ?_ | refine wpS_skip ?_ | refine wpS_exit ?_ | refine wpS_ret ?_))
    refine fin_mk rfl ?_; (repeat' (first | exact aN | refine aC ?_ ?_))
    have hne : ¬ l = m := by rintro rfl; simp at h
    simpa using hne
  have hlm : l.length = m.length := by simp at h; omega
  (repeat (first | refine wpS_seq ?_ | refine wpS_reg ?_ | refine run_step rfl (by ((repeat' (first | exact aN | refine aC ?_ ?_ | intro _)) <;> first | assumption | omega | (simp only [obS] at *; omega) | (intros; first | rfl | assumption | omega | simp_all; done))) ?_ | refine run_nil ?_ | refine wpS_block ?_ | refine wpS_skip ?_ | refine wpS_exit ?_ | refine wpS_ret ?_))
  refine wpS_loop (fun k => k ≤ l.length ∧ ∀ j (hj : j < k) (hl : j < l.length), (l[j] == m[j]'(hlm ▸ hl)) = true) (fun k => ⟨[(0, lsA 6 apA l), (1, lsA 6 apA m), (12, .int .i64 (l.length : Nat)), (13, .int .i64 (k : Nat))], []⟩) (fun k => l.length - k) 0 ⟨by omega, by intro j hj; omega⟩ (by refine ent_le ?_; (repeat' (first | exact aN | refine aC ?_ ?_)) <;> simp) ?_
  rintro k ⟨hk, hall⟩
  clear h
  (repeat (first | refine wpS_seq ?_ | refine wpS_reg ?_ | refine run_step rfl (by ((repeat' (first | exact aN | refine aC ?_ ?_ | intro _)) <;> first | assumption | omega | (simp only [obS] at *; omega) | (intros; first | rfl | assumption | omega | simp_all; done))) ?_ | refine run_nil ?_ | refine wpS_block ?_ | refine wpS_skip ?_ | refine wpS_exit ?_ | refine wpS_ret ?_))
  refine wpS_cond rfl (by ((repeat' (first | exact aN | refine aC ?_ ?_ | intro _)) <;> first | assumption | omega | (simp only [obS] at *; omega) | (intros; first | rfl | assumption | omega | simp_all; done))) (fun h => ?_) (fun h => ?_)
  · have hlt : k < l.length := by simpa using h
    have hlt' : k < m.length := hlm ▸ hlt
    (repeat (first | refine wpS_seq ?_ | refine wpS_reg ?_ | refine run_step rfl (by ((repeat' (first | exact aN | refine aC ?_ ?_ | intro _)) <;> first | assumption | omega | (simp only [obS] at *; omega) | (intros; first | rfl | assumption | omega | simp_all; done))) ?_ | refine run_nil ?_ | refine wpS_block ?_ | refine wpS_skip ?_ | refine wpS_exit ?_ | refine wpS_ret ?_))
    refine wpS_D (by kernel_rfl) ?_; (repeat (refine trg_step rfl (by ((repeat' (first | exact aN | refine aC ?_ ?_ | intro _)) <;> first | assumption | omega | (simp only [obS] at *; omega) | (intros; first | rfl | assumption | omega | simp_all; done))) ?_)); refine trg_nil ⟨rfl, ?_⟩
    refine wpS_cond rfl (by ((repeat' (first | exact aN | refine aC ?_ ?_ | intro _)) <;> first | assumption | omega | (simp only [obS] at *; omega) | (intros; first | rfl | assumption | omega | simp_all; done))) (fun h => ?_) (fun h => ?_)
    · (repeat (first | refine wpS_seq ?_ | refine wpS_reg ?_ | refine run_step rfl (by ((repeat' (first | exact aN | refine aC ?_ ?_ | intro _)) <;> first | assumption | omega | (simp only [obS] at *; omega) | (intros; first | rfl | assumption | omega | simp_all; done))) ?_ | refine run_nil ?_ | refine wpS_block ?_ | refine wpS_skip ?_ | refine wpS_exit ?_ | refine wpS_ret ?_))
      refine fin_mk rfl ?_; (repeat' (first | exact aN | refine aC ?_ ?_))
      simp only [Int.toNat_natCast, getD_lt hlt, getD_lt hlt', ap_eq, xorb_t] at h
      have hne : ¬ l = m := by rintro rfl; simp at h
      simpa using hne
    · (repeat (first | refine wpS_seq ?_ | refine wpS_reg ?_ | refine run_step rfl (by ((repeat' (first | exact aN | refine aC ?_ ?_ | intro _)) <;> first | assumption | omega | (simp only [obS] at *; omega) | (intros; first | rfl | assumption | omega | simp_all; done))) ?_ | refine run_nil ?_ | refine wpS_block ?_ | refine wpS_skip ?_ | refine wpS_exit ?_ | refine wpS_ret ?_))
      simp only [Int.toNat_natCast, getD_lt hlt, getD_lt hlt', ap_eq, xorb_t] at h
      refine ⟨k + 1, ⟨by omega, ?_⟩, by dsimp only; omega, ?_⟩
      · intro j hj hl
        by_cases hjk : j < k
        · exact hall j hjk hl
        · obtain rfl : j = k := by omega
          simpa using h
      · refine ent_le ?_; (repeat' (first | exact aN | refine aC ?_ ?_)) <;> simp
  · have hlt : k = l.length := by simp at h; omega
    (repeat (first | refine wpS_seq ?_ | refine wpS_reg ?_ | refine run_step rfl (by ((repeat' (first | exact aN | refine aC ?_ ?_ | intro _)) <;> first | assumption | omega | (simp only [obS] at *; omega) | (intros; first | rfl | assumption | omega | simp_all; done))) ?_ | refine run_nil ?_ | refine wpS_block ?_ | refine wpS_skip ?_ | refine wpS_exit ?_ | refine wpS_ret ?_))
    refine fin_mk rfl ?_; (repeat' (first | exact aN | refine aC ?_ ?_))
    exact (list_beq_true hlm fun j hj => hall j (by omega) hj).symm
theorem find1_spec (y : En) (k : K) : Spec0 Tryz.prog 52 [.agg (enA y), .ptr (kA k)] (.bool (y.key == k)) := by
  refine spec0 ok52 rfl fun C _ => ?_
  (repeat (first | refine wpS_seq ?_ | refine wpS_reg ?_ | refine run_step rfl (by ((repeat' (first | exact aN | refine aC ?_ ?_ | intro _)) <;> first | assumption | omega | (simp only [obS] at *; omega) | (intros; first | rfl | assumption | omega | simp_all; done))) ?_ | refine run_nil ?_ | refine wpS_block ?_ | refine wpS_skip ?_ | refine wpS_exit ?_ | refine wpS_ret ?_))
  refine fin_mk rfl ?_; (repeat' (first | exact aN | refine aC ?_ ?_))
  rw [k_eq, xorb_f]
end Go.Proofs
end
/- part BkC -/
section
namespace Go.Proofs
open Go.Av Go.Pu
abbrev byA (c : UInt8) : AV := .int .u8 (c.toNat : Int)
theorem letter_spec (c : UInt8) : Spec0 Tryz.prog 168 [byA c] (.bool (letterB c)) := by
  refine spec0 ok168 rfl fun C _ => ?_
  (repeat (first | refine wpS_seq ?_ | refine wpS_reg ?_ | refine run_step rfl (by ((repeat' (first | exact aN | refine aC ?_ ?_ | intro _)) <;> first | assumption | omega | (simp only [obS] at *; omega) | (intros; first | rfl | assumption | omega | simp_all; done))) ?_ | refine run_nil ?_ | refine wpS_block ?_ | refine wpS_skip ?_ | refine wpS_exit ?_ | refine wpS_ret ?_))
  refine fin_mk rfl ?_; (repeat' (first | exact aN | refine aC ?_ ?_))
  unfold letterB
  by_cases h : (97 : Int) ≤ c.toNat
  · have : 97 ≤ c.toNat := by omega
    by_cases h2 : (c.toNat : Int) ≤ 122
    · have : c.toNat ≤ 122 := by omega
      simp [*]
    · have : ¬ c.toNat ≤ 122 := by omega
      simp [*]
  · have : ¬ 97 ≤ c.toNat := by omega
    simp [*]
theorem digit_spec (c : UInt8) : Spec0 Tryz.prog 190 [byA c] (.bool (digitB c)) := by
  refine spec0 ok190 rfl fun C _ => ?_
  (repeat (first | refine wpS_seq ?_ | refine wpS_reg ?_ | refine run_step rfl (by ((repeat' (first | exact aN | refine aC ?_ ?_ | intro _)) <;> first | assumption | omega | (simp only [obS] at *; omega) | (intros; first | rfl | assumption | omega | simp_all; done))) ?_ | refine run_nil ?_ | refine wpS_block ?_ | refine wpS_skip ?_ | refine wpS_exit ?_ | refine wpS_ret ?_))
  refine fin_mk rfl ?_; (repeat' (first | exact aN | refine aC ?_ ?_))
  unfold digitB
  by_cases h : (48 : Int) ≤ c.toNat
  · have : 48 ≤ c.toNat := by omega
    by_cases h2 : (c.toNat : Int) ≤ 57
    · have : c.toNat ≤ 57 := by omega
      simp [*]
    · have : ¬ c.toNat ≤ 57 := by omega
      simp [*]
  · have : ¬ 48 ≤ c.toNat := by omega
    simp [*]
theorem inName_spec (c : UInt8) : Spec0 Tryz.prog 170 [byA c] (.bool (inNameB c)) := by
  refine spec0 ok170 rfl fun C _ => ?_
  (repeat (first | refine wpS_seq ?_ | refine wpS_reg ?_ | refine run_step rfl (by ((repeat' (first | exact aN | refine aC ?_ ?_ | intro _)) <;> first | assumption | omega | (simp only [obS] at *; omega) | (intros; first | rfl | assumption | omega | simp_all; done))) ?_ | refine run_nil ?_ | refine wpS_block ?_ | refine wpS_skip ?_ | refine wpS_exit ?_ | refine wpS_ret ?_))
  refine run_c ((letter_spec c)) rfl (by ((repeat' (first | exact aN | refine aC ?_ ?_ | intro _)) <;> first | assumption | omega | (simp only [obS] at *; omega) | (intros; first | rfl | assumption | omega | simp_all; done))) rfl rfl (.inl rfl) ?_
  (repeat (first | refine wpS_seq ?_ | refine wpS_reg ?_ | refine run_step rfl (by ((repeat' (first | exact aN | refine aC ?_ ?_ | intro _)) <;> first | assumption | omega | (simp only [obS] at *; omega) | (intros; first | rfl | assumption | omega | simp_all; done))) ?_ | refine run_nil ?_ | refine wpS_block ?_ | refine wpS_skip ?_ | refine wpS_exit ?_ | refine wpS_ret ?_))
  refine run_cg rfl (fun hG => ((digit_spec c))) rfl (fun hG => by ((repeat' (first | exact aN | refine aC ?_ ?_ | intro _)) <;> first | assumption | omega | (simp only [obS] at *; omega) | (intros; first | rfl | assumption | omega | simp_all; done))) rfl rfl (.inl rfl) ?_
  (repeat (first | refine wpS_seq ?_ | refine wpS_reg ?_ | refine run_step rfl (by ((repeat' (first | exact aN | refine aC ?_ ?_ | intro _)) <;> first | assumption | omega | (simp only [obS] at *; omega) | (intros; first | rfl | assumption | omega | simp_all; done))) ?_ | refine run_nil ?_ | refine wpS_block ?_ | refine wpS_skip ?_ | refine wpS_exit ?_ | refine wpS_ret ?_))
  refine fin_mk rfl ?_; (repeat' (first | exact aN | refine aC ?_ ?_))
  unfold inNameB
  cases letterB c <;> cases digitB c <;> simp
  by_cases h : c.toNat = 95
  · simp [h]
  · have : ¬ (c.toNat : Int) = 95 := by omega
    simp [h, this]
def runN (s : List UInt8) : Nat := (s.takeWhile inNameB).length
theorem runN_le (s : List UInt8) : runN s ≤ s.length := (List.takeWhile_prefix inNameB).length_le
theorem runN_at {s : List UInt8} {k : Nat} (hk : k ≤ s.length) (h : ∀ j (_ : j < k) (hl : j < s.length), inNameB s[j] = true) (he : k = s.length ∨ ∃ hl : k < s.length, inNameB s[k] = false) : runN s = k := by
  unfold runN
  have hs : s = s.take k ++ s.drop k := (List.take_append_drop k s).symm
  have ha : ∀ x ∈ s.take k, inNameB x = true := by
    intro x hx
    obtain ⟨j, hj, rfl⟩ := List.getElem_of_mem hx
    rw [List.length_take] at hj
    rw [List.getElem_take]
    exact h j (by omega) (by omega)
  rw [hs, List.takeWhile_append_of_pos ha]
  have : (s.drop k).takeWhile inNameB = [] := by
    rcases he with he | ⟨hl, he⟩
    · rw [List.drop_eq_nil_of_le (by omega)]; rfl
    · rw [List.drop_eq_getElem_cons hl, List.takeWhile_cons_of_neg (by simp [he])]
  rw [this, List.append_nil, List.length_take]
  omega
theorem run_spec (s : List UInt8) (hl : s.length ≤ maxL) : Spec0 Tryz.prog 169 [.str s, .fn 170 []] (.int .i64 (runN s : Nat)) := by
  rw [maxL_eq] at hl
  refine spec0 ok169 rfl fun C _ => ?_
  (repeat (first | refine wpS_seq ?_ | refine wpS_reg ?_ | refine run_step rfl (by ((repeat' (first | exact aN | refine aC ?_ ?_ | intro _)) <;> first | assumption | omega | (simp only [obS] at *; omega) | (intros; first | rfl | assumption | omega | simp_all; done))) ?_ | refine run_nil ?_ | refine wpS_block ?_ | refine wpS_skip ?_ | refine wpS_exit ?_ | refine wpS_ret ?_))
  refine wpS_loop (fun k => k ≤ s.length ∧ ∀ j (hj : j < k) (hl : j < s.length), inNameB s[j] = true) (fun k => ⟨[(0, .str s), (1, .fn 170 []), (5, .int .i64 (k : Nat))], []⟩) (fun k => s.length - k) 0 ⟨by omega, by intro j hj; omega⟩ (by refine ent_le ?_; (repeat' (first | exact aN | refine aC ?_ ?_)) <;> simp) ?_
  rintro k ⟨hk, hall⟩
  (repeat (first | refine wpS_seq ?_ | refine wpS_reg ?_ | refine run_step rfl (by ((repeat' (first | exact aN | refine aC ?_ ?_ | intro _)) <;> first | assumption | omega | (simp only [obS] at *; omega) | (intros; first | rfl | assumption | omega | simp_all; done))) ?_ | refine run_nil ?_ | refine wpS_block ?_ | refine wpS_skip ?_ | refine wpS_exit ?_ | refine wpS_ret ?_))
  refine run_cg rfl (fun hG => ((inName_spec (s.getD k 0)))) rfl (fun hG => by ((repeat' (first | exact aN | refine aC ?_ ?_ | intro _)) <;> first | assumption | omega | (simp only [obS] at *; omega) | (intros; first | rfl | assumption | omega | simp_all; done))) rfl rfl (.inl rfl) ?_
  (repeat (first | refine wpS_seq ?_ | refine wpS_reg ?_ | refine run_step rfl (by ((repeat' (first | exact aN | refine aC ?_ ?_ | intro _)) <;> first | assumption | omega | (simp only [obS] at *; omega) | (intros; first | rfl | assumption | omega | simp_all; done))) ?_ | refine run_nil ?_ | refine wpS_block ?_ | refine wpS_skip ?_ | refine wpS_exit ?_ | refine wpS_ret ?_))
  refine wpS_cond rfl (by ((repeat' (first | exact aN | refine aC ?_ ?_ | intro _)) <;> first | assumption | omega | (simp only [obS] at *; omega) | (intros; first | rfl | assumption | omega | simp_all; done))) (fun h => ?_) (fun h => ?_)
  · have hlt : k < s.length := by
      by_cases hh : k < s.length
      · exact hh
      · have : ¬ (k : Int) < s.length := by omega
        simp [this] at h
    (repeat (first | refine wpS_seq ?_ | refine wpS_reg ?_ | refine run_step rfl (by ((repeat' (first | exact aN | refine aC ?_ ?_ | intro _)) <;> first | assumption | omega | (simp only [obS] at *; omega) | (intros; first | rfl | assumption | omega | simp_all; done))) ?_ | refine run_nil ?_ | refine wpS_block ?_ | refine wpS_skip ?_ | refine wpS_exit ?_ | refine wpS_ret ?_))
    refine ⟨k + 1, ⟨by omega, ?_⟩, by dsimp only; omega, ?_⟩
    · intro j hj hl
      by_cases hjk : j < k
      · exact hall j hjk hl
      · obtain rfl : j = k := by omega
        have : (j : Int) < s.length := by omega
        simpa [this, List.getD_eq_getElem?_getD, hl] using h
    · refine ent_le ?_; (repeat' (first | exact aN | refine aC ?_ ?_)) <;> simp
  · (repeat (first | refine wpS_seq ?_ | refine wpS_reg ?_ | refine run_step rfl (by ((repeat' (first | exact aN | refine aC ?_ ?_ | intro _)) <;> first | assumption | omega | (simp only [obS] at *; omega) | (intros; first | rfl | assumption | omega | simp_all; done))) ?_ | refine run_nil ?_ | refine wpS_block ?_ | refine wpS_skip ?_ | refine wpS_exit ?_ | refine wpS_ret ?_))
    refine fin_mk rfl ?_; (repeat' (first | exact aN | refine aC ?_ ?_))
    rw [runN_at hk hall]
    by_cases hlt : k < s.length
    · right
      refine ⟨hlt, ?_⟩
      have : (k : Int) < s.length := by omega
      simpa [this, List.getD_eq_getElem?_getD, hlt] using h
    · left; omega
theorem keywords_spec : Spec0 Tryz.prog 172 [] (lsA 1 strA keywords) := by
  refine spec0 ok172 rfl fun C _ => ?_
  (repeat (first | refine wpS_seq ?_ | refine wpS_reg ?_ | refine run_step rfl (by ((repeat' (first | exact aN | refine aC ?_ ?_ | intro _)) <;> first | assumption | omega | (simp only [obS] at *; omega) | (intros; first | rfl | assumption | omega | simp_all; done))) ?_ | refine run_nil ?_ | refine wpS_block ?_ | refine wpS_skip ?_ | refine wpS_exit ?_))
  refine wpS_ent (ent_fz 1) ?_
  (repeat (first | refine wpS_seq ?_ | refine wpS_reg ?_ | refine run_step rfl (by ((repeat' (first | exact aN | refine aC ?_ ?_ | intro _)) <;> first | assumption | omega | (simp only [obS] at *; omega) | (intros; first | rfl | assumption | omega | simp_all; done))) ?_ | refine run_nil ?_ | refine wpS_block ?_ | refine wpS_skip ?_ | refine wpS_exit ?_ | refine wpS_ret ?_))
  refine fin_mk rfl ?_; (repeat' (first | exact aN | refine aC ?_ ?_))
  refine ⟨rfl, ?_⟩
  intro i hi
  match i, hi with
  | 0, _ | 1, _ | 2, _ | 3, _ | 4, _ | 5, _ | 6, _ | 7, _ | 8, _ | 9, _ | 10, _ | 11, _ | 12, _ => rfl
theorem keywords_small : keywords.length ≤ maxL := by decide
theorem pos_of_ne {α : Type} {l : List α} (h : ¬ l = []) : 0 < l.length := List.length_pos_iff.2 h
theorem takeWhile_self {α : Type} {p : α → Bool} : ∀ {l : List α}, l.takeWhile p = l ↔ ∀ x ∈ l, p x = true
  | [] => by simp
  | x :: l => by
    by_cases h : p x = true
    · simp [List.takeWhile_cons, h, takeWhile_self (l := l)]
    · simp [List.takeWhile_cons, h]
theorem all_runN {s : List UInt8} : s.all inNameB = decide (runN s = s.length) := by
  rw [Bool.eq_iff_iff, List.all_eq_true, decide_eq_true_eq]
  constructor
  · intro h
    unfold runN
    rw [takeWhile_self.2 h]
  · intro h
    have : s.takeWhile inNameB = s := (List.takeWhile_prefix inNameB).eq_of_length h
    exact takeWhile_self.1 this
theorem nameB_eq (s : List UInt8) (h : ¬ s = []) : nameB s = (decide (s.length ≤ 16) && letterB (s.getD 0 0) && decide (runN s = s.length) && !keywords.contains s) := by
  cases s with
  | nil => exact absurd rfl h
  | cons c r =>
    simp only [nameB, all_runN, List.length_cons]
    congr 1
theorem name_spec (s : List UInt8) (hl : s.length ≤ maxL) : Spec0 Tryz.prog 141 [.str s] (.bool (nameB s)) := by
  have hl' := hl
  rw [maxL_eq] at hl'
  have hpos := @pos_of_ne _ s
  refine spec0 ok141 rfl fun C _ => ?_
  (repeat (first | refine wpS_seq ?_ | refine wpS_reg ?_ | refine run_step rfl (by ((repeat' (first | exact aN | refine aC ?_ ?_ | intro _)) <;> first | assumption | omega | (simp only [obS] at *; omega) | (intros; first | rfl | assumption | omega | simp_all; done))) ?_ | refine run_nil ?_ | refine wpS_block ?_ | refine wpS_skip ?_ | refine wpS_exit ?_ | refine wpS_ret ?_))
  refine run_cg rfl (fun hG => ((letter_spec (s.getD 0 0)))) rfl (fun hG => by ((repeat' (first | exact aN | refine aC ?_ ?_ | intro _)) <;> first | assumption | omega | (simp only [obS] at *; omega) | (intros; first | rfl | assumption | omega | simp_all; done))) rfl rfl (.inl rfl) ?_
  (repeat (first | refine wpS_seq ?_ | refine wpS_reg ?_ | refine run_step rfl (by ((repeat' (first | exact aN | refine aC ?_ ?_ | intro _)) <;> first | assumption | omega | (simp only [obS] at *; omega) | (intros; first | rfl | assumption | omega | simp_all; done))) ?_ | refine run_nil ?_ | refine wpS_block ?_ | refine wpS_skip ?_ | refine wpS_exit ?_ | refine wpS_ret ?_))
  refine run_cg rfl (fun hG => ((run_spec s hl))) rfl (fun hG => by ((repeat' (first | exact aN | refine aC ?_ ?_ | intro _)) <;> first | assumption | omega | (simp only [obS] at *; omega) | (intros; first | rfl | assumption | omega | simp_all; done))) rfl rfl (.inl rfl) ?_
  (repeat (first | refine wpS_seq ?_ | refine wpS_reg ?_ | refine run_step rfl (by ((repeat' (first | exact aN | refine aC ?_ ?_ | intro _)) <;> first | assumption | omega | (simp only [obS] at *; omega) | (intros; first | rfl | assumption | omega | simp_all; done))) ?_ | refine run_nil ?_ | refine wpS_block ?_ | refine wpS_skip ?_ | refine wpS_exit ?_ | refine wpS_ret ?_))
  refine run_cg rfl (fun hG => (keywords_spec)) rfl (fun hG => by ((repeat' (first | exact aN | refine aC ?_ ?_ | intro _)) <;> first | assumption | omega | (simp only [obS] at *; omega) | (intros; first | rfl | assumption | omega | simp_all; done))) rfl rfl (.inr rfl) ?_
  (repeat (first | refine wpS_seq ?_ | refine wpS_reg ?_ | refine run_step rfl (by ((repeat' (first | exact aN | refine aC ?_ ?_ | intro _)) <;> first | assumption | omega | (simp only [obS] at *; omega) | (intros; first | rfl | assumption | omega | simp_all; done))) ?_ | refine run_nil ?_ | refine wpS_block ?_ | refine wpS_skip ?_ | refine wpS_exit ?_ | refine wpS_ret ?_))
  refine run_cg rfl (fun hG => ((strContains_spec keywords s keywords_small))) rfl (fun hG => by ((repeat' (first | exact aN | refine aC ?_ ?_ | intro _)) <;> first | assumption | omega | (simp only [obS] at *; omega) | (intros; first | rfl | assumption | omega | simp_all; done))) rfl rfl (.inl rfl) ?_
  (repeat (first | refine wpS_seq ?_ | refine wpS_reg ?_ | refine run_step rfl (by ((repeat' (first | exact aN | refine aC ?_ ?_ | intro _)) <;> first | assumption | omega | (simp only [obS] at *; omega) | (intros; first | rfl | assumption | omega | simp_all; done))) ?_ | refine run_nil ?_ | refine wpS_block ?_ | refine wpS_skip ?_ | refine wpS_exit ?_ | refine wpS_ret ?_))
  refine fin_mk rfl ?_; (repeat' (first | exact aN | refine aC ?_ ?_))
  by_cases hs : s = []
  · subst hs; rfl
  · rw [nameB_eq s hs]
    have e1 : (!s == []) = true := by simpa using hs
    have e2 : decide ((s.length : Int) ≤ 16) = decide (s.length ≤ 16) := decide_eq_decide.2 (by omega)
    simp only [bif_and, e1, e2, beq_cast, Bool.true_and]
end Go.Proofs
end
/- part BkD -/
section
namespace Go.Proofs
open Go.Av Go.Pu
@[reducible] def exA (s : List UInt8) : List AV := [.int .i64 2, .str s, .int .i64 0, .int .i64 0, .int .i64 0, .nils]
theorem depth_spec (s : List UInt8) : Spec0 Tryz.prog 118 [.agg (exA s)] (.int .i64 1) := by
  refine spec0 ok118 rfl fun C _ => ?_
  (repeat (first | refine wpS_seq ?_ | refine wpS_reg ?_ | refine run_step rfl (by ((repeat' (first | exact aN | refine aC ?_ ?_ | intro _)) <;> first | assumption | omega | (simp only [obS] at *; omega) | (intros; first | rfl | assumption | omega | simp_all; done))) ?_ | refine run_nil ?_ | refine wpS_block ?_ | refine wpS_skip ?_ | refine wpS_exit ?_ | refine wpS_ret ?_))
  refine wpS_loop (fun _ => True) (fun _ : Unit => ⟨[(3, .int .i64 0), (8, .int .i64 0), (9, .int .i64 0)], []⟩) (fun _ => 0) () trivial (by refine ent_le ?_; (repeat' (first | exact aN | refine aC ?_ ?_)) <;> simp) ?_
  rintro _ _
  (repeat (first | refine wpS_condT rfl (by ((repeat' (first | exact aN | refine aC ?_ ?_ | intro _)) <;> first | assumption | omega | (simp only [obS] at *; omega) | (intros; first | rfl | assumption | omega | simp_all; done))) ?_ | refine wpS_condF rfl (by ((repeat' (first | exact aN | refine aC ?_ ?_ | intro _)) <;> first | assumption | omega | (simp only [obS] at *; omega) | (intros; first | rfl | assumption | omega | simp_all; done))) ?_ | refine wpS_seq ?_ | refine wpS_reg ?_ | refine run_step rfl (by ((repeat' (first | exact aN | refine aC ?_ ?_ | intro _)) <;> first | assumption | omega | (simp only [obS] at *; omega) | (intros; first | rfl | assumption | omega | simp_all; done))) ?_ | refine run_nil ?_ | refine wpS_block ?_ | refine wpS_skip ?_ | refine wpS_exit ?_ | refine wpS_ret ?_))
  refine fin_mk rfl ?_; (repeat' (first | exact aN | refine aC ?_ ?_))
  simp
theorem right_spec (s : List UInt8) (hl : s.length ≤ maxL) : Spec0 Tryz.prog 119 [.agg (exA s)] (.bool (nameB s)) := by
  refine spec0 ok119 rfl fun C _ => ?_
  (repeat (first | refine wpS_condT rfl (by ((repeat' (first | exact aN | refine aC ?_ ?_ | intro _)) <;> first | assumption | omega | (simp only [obS] at *; omega) | (intros; first | rfl | assumption | omega | simp_all; done))) ?_ | refine wpS_condF rfl (by ((repeat' (first | exact aN | refine aC ?_ ?_ | intro _)) <;> first | assumption | omega | (simp only [obS] at *; omega) | (intros; first | rfl | assumption | omega | simp_all; done))) ?_ | refine wpS_seq ?_ | refine wpS_reg ?_ | refine run_step rfl (by ((repeat' (first | exact aN | refine aC ?_ ?_ | intro _)) <;> first | assumption | omega | (simp only [obS] at *; omega) | (intros; first | rfl | assumption | omega | simp_all; done))) ?_ | refine run_nil ?_ | refine wpS_block ?_ | refine wpS_skip ?_ | refine wpS_exit ?_ | refine wpS_ret ?_))
  refine run_c ((name_spec s hl)) rfl (by ((repeat' (first | exact aN | refine aC ?_ ?_ | intro _)) <;> first | assumption | omega | (simp only [obS] at *; omega) | (intros; first | rfl | assumption | omega | simp_all; done))) rfl rfl (.inl rfl) ?_
  (repeat (first | refine wpS_condT rfl (by ((repeat' (first | exact aN | refine aC ?_ ?_ | intro _)) <;> first | assumption | omega | (simp only [obS] at *; omega) | (intros; first | rfl | assumption | omega | simp_all; done))) ?_ | refine wpS_condF rfl (by ((repeat' (first | exact aN | refine aC ?_ ?_ | intro _)) <;> first | assumption | omega | (simp only [obS] at *; omega) | (intros; first | rfl | assumption | omega | simp_all; done))) ?_ | refine wpS_seq ?_ | refine wpS_reg ?_ | refine run_step rfl (by ((repeat' (first | exact aN | refine aC ?_ ?_ | intro _)) <;> first | assumption | omega | (simp only [obS] at *; omega) | (intros; first | rfl | assumption | omega | simp_all; done))) ?_ | refine run_nil ?_ | refine wpS_block ?_ | refine wpS_skip ?_ | refine wpS_exit ?_ | refine wpS_ret ?_))
  refine fin_mk rfl ?_; (repeat' (first | exact aN | refine aC ?_ ?_))
  cases nameB s <;> rfl
theorem format_spec (s : List UInt8) : Spec0 Tryz.prog 120 [.agg (exA s)] (.str s) := by
  refine spec0 ok120 rfl fun C _ => ?_
  (repeat (first | refine wpS_condT rfl (by ((repeat' (first | exact aN | refine aC ?_ ?_ | intro _)) <;> first | assumption | omega | (simp only [obS] at *; omega) | (intros; first | rfl | assumption | omega | simp_all; done))) ?_ | refine wpS_condF rfl (by ((repeat' (first | exact aN | refine aC ?_ ?_ | intro _)) <;> first | assumption | omega | (simp only [obS] at *; omega) | (intros; first | rfl | assumption | omega | simp_all; done))) ?_ | refine wpS_seq ?_ | refine wpS_reg ?_ | refine run_step rfl (by ((repeat' (first | exact aN | refine aC ?_ ?_ | intro _)) <;> first | assumption | omega | (simp only [obS] at *; omega) | (intros; first | rfl | assumption | omega | simp_all; done))) ?_ | refine run_nil ?_ | refine wpS_block ?_ | refine wpS_skip ?_ | refine wpS_exit ?_ | refine wpS_ret ?_))
  refine fin_mk rfl ?_; (repeat' (first | exact aN | refine aC ?_ ?_))
  rfl
theorem nameB_len {s : List UInt8} (h : nameB s = true) : s.length ≤ 16 ∧ s ≠ [] := by
  cases s with
  | nil => cases h
  | cons c r =>
    simp only [nameB, Bool.and_eq_true, decide_eq_true_eq] at h
    simp only [List.length_cons]
    exact ⟨by omega, by simp⟩
theorem formatE_spec (s : List UInt8) (hl : s.length ≤ maxL) : Spec0 Tryz.prog 100 [.agg (exA s)] (.str (if nameB s = true then s else [])) := by
  refine spec0 ok100 rfl fun C _ => ?_
  (repeat (first | refine wpS_condT rfl (by ((repeat' (first | exact aN | refine aC ?_ ?_ | intro _)) <;> first | assumption | omega | (simp only [obS] at *; omega) | (intros; first | rfl | assumption | omega | simp_all; done))) ?_ | refine wpS_condF rfl (by ((repeat' (first | exact aN | refine aC ?_ ?_ | intro _)) <;> first | assumption | omega | (simp only [obS] at *; omega) | (intros; first | rfl | assumption | omega | simp_all; done))) ?_ | refine wpS_seq ?_ | refine wpS_reg ?_ | refine run_step rfl (by ((repeat' (first | exact aN | refine aC ?_ ?_ | intro _)) <;> first | assumption | omega | (simp only [obS] at *; omega) | (intros; first | rfl | assumption | omega | simp_all; done))) ?_ | refine run_nil ?_ | refine wpS_block ?_ | refine wpS_skip ?_ | refine wpS_exit ?_ | refine wpS_ret ?_))
  refine run_c ((depth_spec s)) rfl (by ((repeat' (first | exact aN | refine aC ?_ ?_ | intro _)) <;> first | assumption | omega | (simp only [obS] at *; omega) | (intros; first | rfl | assumption | omega | simp_all; done))) rfl rfl (.inl rfl) ?_
  (repeat (first | refine wpS_condT rfl (by ((repeat' (first | exact aN | refine aC ?_ ?_ | intro _)) <;> first | assumption | omega | (simp only [obS] at *; omega) | (intros; first | rfl | assumption | omega | simp_all; done))) ?_ | refine wpS_condF rfl (by ((repeat' (first | exact aN | refine aC ?_ ?_ | intro _)) <;> first | assumption | omega | (simp only [obS] at *; omega) | (intros; first | rfl | assumption | omega | simp_all; done))) ?_ | refine wpS_seq ?_ | refine wpS_reg ?_ | refine run_step rfl (by ((repeat' (first | exact aN | refine aC ?_ ?_ | intro _)) <;> first | assumption | omega | (simp only [obS] at *; omega) | (intros; first | rfl | assumption | omega | simp_all; done))) ?_ | refine run_nil ?_ | refine wpS_block ?_ | refine wpS_skip ?_ | refine wpS_exit ?_ | refine wpS_ret ?_))
  refine run_cg rfl (fun hG => ((right_spec s hl))) rfl (fun hG => by ((repeat' (first | exact aN | refine aC ?_ ?_ | intro _)) <;> first | assumption | omega | (simp only [obS] at *; omega) | (intros; first | rfl | assumption | omega | simp_all; done))) rfl rfl (.inl rfl) ?_
  (repeat (first | refine wpS_seq ?_ | refine wpS_reg ?_ | refine run_step rfl (by ((repeat' (first | exact aN | refine aC ?_ ?_ | intro _)) <;> first | assumption | omega | (simp only [obS] at *; omega) | (intros; first | rfl | assumption | omega | simp_all; done))) ?_ | refine run_nil ?_ | refine wpS_block ?_ | refine wpS_skip ?_ | refine wpS_exit ?_ | refine wpS_ret ?_))
  refine wpS_cond rfl (by ((repeat' (first | exact aN | refine aC ?_ ?_ | intro _)) <;> first | assumption | omega | (simp only [obS] at *; omega) | (intros; first | rfl | assumption | omega | simp_all; done))) (fun h => ?_) (fun h => ?_)
  · (repeat (first | refine wpS_condT rfl (by ((repeat' (first | exact aN | refine aC ?_ ?_ | intro _)) <;> first | assumption | omega | (simp only [obS] at *; omega) | (intros; first | rfl | assumption | omega | simp_all; done))) ?_ | refine wpS_condF rfl (by ((repeat' (first | exact aN | refine aC ?_ ?_ | intro _)) <;> first | assumption | omega | (simp only [obS] at *; omega) | (intros; first | rfl | assumption | omega | simp_all; done))) ?_ | refine wpS_seq ?_ | refine wpS_reg ?_ | refine run_step rfl (by ((repeat' (first | exact aN | refine aC ?_ ?_ | intro _)) <;> first | assumption | omega | (simp only [obS] at *; omega) | (intros; first | rfl | assumption | omega | simp_all; done))) ?_ | refine run_nil ?_ | refine wpS_block ?_ | refine wpS_skip ?_ | refine wpS_exit ?_ | refine wpS_ret ?_))
    refine fin_mk rfl ?_; (repeat' (first | exact aN | refine aC ?_ ?_))
    have : nameB s = false := by simpa using h
    simp [this]
  have hn : nameB s = true := by simpa using h
  obtain ⟨h1, h2⟩ := nameB_len hn
  clear h
  (repeat (first | refine wpS_condT rfl (by ((repeat' (first | exact aN | refine aC ?_ ?_ | intro _)) <;> first | assumption | omega | (simp only [obS] at *; omega) | (intros; first | rfl | assumption | omega | simp_all; done))) ?_ | refine wpS_condF rfl (by ((repeat' (first | exact aN | refine aC ?_ ?_ | intro _)) <;> first | assumption | omega | (simp only [obS] at *; omega) | (intros; first | rfl | assumption | omega | simp_all; done))) ?_ | refine wpS_seq ?_ | refine wpS_reg ?_ | refine run_step rfl (by ((repeat' (first | exact aN | refine aC ?_ ?_ | intro _)) <;> first | assumption | omega | (simp only [obS] at *; omega) | (intros; first | rfl | assumption | omega | simp_all; done))) ?_ | refine run_nil ?_ | refine wpS_block ?_ | refine wpS_skip ?_ | refine wpS_exit ?_ | refine wpS_ret ?_))
  refine run_c ((format_spec s)) rfl (by ((repeat' (first | exact aN | refine aC ?_ ?_ | intro _)) <;> first | assumption | omega | (simp only [obS] at *; omega) | (intros; first | rfl | assumption | omega | simp_all; done))) rfl rfl (.inl rfl) ?_
  (repeat (first | refine wpS_seq ?_ | refine wpS_reg ?_ | refine run_step rfl (by ((repeat' (first | exact aN | refine aC ?_ ?_ | intro _)) <;> first | assumption | omega | (simp only [obS] at *; omega) | (intros; first | rfl | assumption | omega | simp_all; done))) ?_ | refine run_nil ?_ | refine wpS_block ?_ | refine wpS_skip ?_ | refine wpS_exit ?_ | refine wpS_ret ?_))
  refine wpS_cond rfl (by ((repeat' (first | exact aN | refine aC ?_ ?_ | intro _)) <;> first | assumption | omega | (simp only [obS] at *; omega) | (intros; first | rfl | assumption | omega | simp_all; done))) (fun h => ?_) (fun h => ?_)
  · have : ¬ (16384 : Int) < s.length := by omega
    simp [this] at h
  (repeat (first | refine wpS_condT rfl (by ((repeat' (first | exact aN | refine aC ?_ ?_ | intro _)) <;> first | assumption | omega | (simp only [obS] at *; omega) | (intros; first | rfl | assumption | omega | simp_all; done))) ?_ | refine wpS_condF rfl (by ((repeat' (first | exact aN | refine aC ?_ ?_ | intro _)) <;> first | assumption | omega | (simp only [obS] at *; omega) | (intros; first | rfl | assumption | omega | simp_all; done))) ?_ | refine wpS_seq ?_ | refine wpS_reg ?_ | refine run_step rfl (by ((repeat' (first | exact aN | refine aC ?_ ?_ | intro _)) <;> first | assumption | omega | (simp only [obS] at *; omega) | (intros; first | rfl | assumption | omega | simp_all; done))) ?_ | refine run_nil ?_ | refine wpS_block ?_ | refine wpS_skip ?_ | refine wpS_exit ?_ | refine wpS_ret ?_))
  refine fin_mk rfl ?_; (repeat' (first | exact aN | refine aC ?_ ?_))
  simp [hn]
theorem isName_spec (s : List UInt8) (hl : s.length ≤ maxL) : Spec0 Tryz.prog 81 [.str s] (.bool (nameB s)) := by
  refine spec0 ok81 rfl fun C _ => ?_
  (repeat (first | refine wpS_condT rfl (by ((repeat' (first | exact aN | refine aC ?_ ?_ | intro _)) <;> first | assumption | omega | (simp only [obS] at *; omega) | (intros; first | rfl | assumption | omega | simp_all; done))) ?_ | refine wpS_condF rfl (by ((repeat' (first | exact aN | refine aC ?_ ?_ | intro _)) <;> first | assumption | omega | (simp only [obS] at *; omega) | (intros; first | rfl | assumption | omega | simp_all; done))) ?_ | refine wpS_seq ?_ | refine wpS_reg ?_ | refine run_step rfl (by ((repeat' (first | exact aN | refine aC ?_ ?_ | intro _)) <;> first | assumption | omega | (simp only [obS] at *; omega) | (intros; first | rfl | assumption | omega | simp_all; done))) ?_ | refine run_nil ?_ | refine wpS_block ?_ | refine wpS_skip ?_ | refine wpS_exit ?_ | refine wpS_ret ?_))
  refine run_c ((formatE_spec s hl)) rfl (by ((repeat' (first | exact aN | refine aC ?_ ?_ | intro _)) <;> first | assumption | omega | (simp only [obS] at *; omega) | (intros; first | rfl | assumption | omega | simp_all; done))) rfl rfl (.inl rfl) ?_
  (repeat (first | refine wpS_condT rfl (by ((repeat' (first | exact aN | refine aC ?_ ?_ | intro _)) <;> first | assumption | omega | (simp only [obS] at *; omega) | (intros; first | rfl | assumption | omega | simp_all; done))) ?_ | refine wpS_condF rfl (by ((repeat' (first | exact aN | refine aC ?_ ?_ | intro _)) <;> first | assumption | omega | (simp only [obS] at *; omega) | (intros; first | rfl | assumption | omega | simp_all; done))) ?_ | refine wpS_seq ?_ | refine wpS_reg ?_ | refine run_step rfl (by ((repeat' (first | exact aN | refine aC ?_ ?_ | intro _)) <;> first | assumption | omega | (simp only [obS] at *; omega) | (intros; first | rfl | assumption | omega | simp_all; done))) ?_ | refine run_nil ?_ | refine wpS_block ?_ | refine wpS_skip ?_ | refine wpS_exit ?_ | refine wpS_ret ?_))
  refine fin_mk rfl ?_; (repeat' (first | exact aN | refine aC ?_ ?_))
  by_cases hn : nameB s = true
  · obtain ⟨h1, h2⟩ := nameB_len hn
    simp [hn, h2]
  · simp only [Bool.not_eq_true] at hn
    simp [hn]
theorem validKey_spec (k : K) (h1 : k.stu.length ≤ maxL) (h2 : k.ex.length ≤ maxL) : Spec0 Tryz.prog 47 [.agg (kA k)] (.bool (keyB k)) := by
  refine spec0 ok47 rfl fun C _ => ?_
  (repeat (first | refine wpS_seq ?_ | refine wpS_reg ?_ | refine run_step rfl (by ((repeat' (first | exact aN | refine aC ?_ ?_ | intro _)) <;> first | assumption | omega | (simp only [obS] at *; omega) | (intros; first | rfl | assumption | omega | simp_all; done))) ?_ | refine run_nil ?_ | refine wpS_block ?_ | refine wpS_skip ?_ | refine wpS_exit ?_ | refine wpS_ret ?_))
  refine run_c ((isName_spec k.stu h1)) rfl (by ((repeat' (first | exact aN | refine aC ?_ ?_ | intro _)) <;> first | assumption | omega | (simp only [obS] at *; omega) | (intros; first | rfl | assumption | omega | simp_all; done))) rfl rfl (.inl rfl) ?_
  (repeat (first | refine wpS_seq ?_ | refine wpS_reg ?_ | refine run_step rfl (by ((repeat' (first | exact aN | refine aC ?_ ?_ | intro _)) <;> first | assumption | omega | (simp only [obS] at *; omega) | (intros; first | rfl | assumption | omega | simp_all; done))) ?_ | refine run_nil ?_ | refine wpS_block ?_ | refine wpS_skip ?_ | refine wpS_exit ?_ | refine wpS_ret ?_))
  refine run_cg rfl (fun hG => ((isName_spec k.ex h2))) rfl (fun hG => by ((repeat' (first | exact aN | refine aC ?_ ?_ | intro _)) <;> first | assumption | omega | (simp only [obS] at *; omega) | (intros; first | rfl | assumption | omega | simp_all; done))) rfl rfl (.inl rfl) ?_
  (repeat (first | refine wpS_seq ?_ | refine wpS_reg ?_ | refine run_step rfl (by ((repeat' (first | exact aN | refine aC ?_ ?_ | intro _)) <;> first | assumption | omega | (simp only [obS] at *; omega) | (intros; first | rfl | assumption | omega | simp_all; done))) ?_ | refine run_nil ?_ | refine wpS_block ?_ | refine wpS_skip ?_ | refine wpS_exit ?_ | refine wpS_ret ?_))
  refine fin_mk rfl ?_; (repeat' (first | exact aN | refine aC ?_ ?_))
  simp only [bif_and, keyB]
theorem validEvent_spec (e : Ev) (h1 : e.key.stu.length ≤ maxL) (h2 : e.key.ex.length ≤ maxL) : Spec0 Tryz.prog 18 [.agg (evA e)] (.bool (validEv e)) := by
  refine spec0 ok18 rfl fun C _ => ?_
  (repeat (first | refine wpS_seq ?_ | refine wpS_reg ?_ | refine run_step rfl (by ((repeat' (first | exact aN | refine aC ?_ ?_ | intro _)) <;> first | assumption | omega | (simp only [obS] at *; omega) | (intros; first | rfl | assumption | omega | simp_all; done))) ?_ | refine run_nil ?_ | refine wpS_block ?_ | refine wpS_skip ?_ | refine wpS_exit ?_ | refine wpS_ret ?_))
  refine run_cg rfl (fun hG => ((validKey_spec e.key h1 h2))) rfl (fun hG => by ((repeat' (first | exact aN | refine aC ?_ ?_ | intro _)) <;> first | assumption | omega | (simp only [obS] at *; omega) | (intros; first | rfl | assumption | omega | simp_all; done))) rfl rfl (.inl rfl) ?_
  (repeat (first | refine wpS_seq ?_ | refine wpS_reg ?_ | refine run_step rfl (by ((repeat' (first | exact aN | refine aC ?_ ?_ | intro _)) <;> first | assumption | omega | (simp only [obS] at *; omega) | (intros; first | rfl | assumption | omega | simp_all; done))) ?_ | refine run_nil ?_ | refine wpS_block ?_ | refine wpS_skip ?_ | refine wpS_exit ?_ | refine wpS_ret ?_))
  refine wpS_cond rfl (by ((repeat' (first | exact aN | refine aC ?_ ?_ | intro _)) <;> first | assumption | omega | (simp only [obS] at *; omega) | (intros; first | rfl | assumption | omega | simp_all; done))) (fun h => ?_) (fun h => ?_)
  · (repeat (first | refine wpS_condT rfl (by ((repeat' (first | exact aN | refine aC ?_ ?_ | intro _)) <;> first | assumption | omega | (simp only [obS] at *; omega) | (intros; first | rfl | assumption | omega | simp_all; done))) ?_ | refine wpS_condF rfl (by ((repeat' (first | exact aN | refine aC ?_ ?_ | intro _)) <;> first | assumption | omega | (simp only [obS] at *; omega) | (intros; first | rfl | assumption | omega | simp_all; done))) ?_ | refine wpS_seq ?_ | refine wpS_reg ?_ | refine run_step rfl (by ((repeat' (first | exact aN | refine aC ?_ ?_ | intro _)) <;> first | assumption | omega | (simp only [obS] at *; omega) | (intros; first | rfl | assumption | omega | simp_all; done))) ?_ | refine run_nil ?_ | refine wpS_block ?_ | refine wpS_skip ?_ | refine wpS_exit ?_ | refine wpS_ret ?_))
    refine fin_mk rfl ?_; (repeat' (first | exact aN | refine aC ?_ ?_))
    simp only [bif_or, Bool.or_eq_true, decide_eq_true_eq, Bool.not_eq_true'] at h
    symm
    rw [Bool.eq_false_iff]
    intro hv
    simp only [validEv, Bool.and_eq_true, decide_eq_true_eq] at hv
    rcases h with ((((h | h) | h) | h) | h) | h
    · omega
    · omega
    · rw [h] at hv; simp at hv
    · omega
    · omega
    · omega
  simp only [bif_or, Bool.or_eq_false_iff, decide_eq_false_iff_not, Bool.not_eq_false'] at h
  have hp : (decide (0 ≤ e.kind) && decide (e.kind ≤ 3) && keyB e.key && decide (0 ≤ e.tick) && decide (e.tick ≤ 1099511627776) && decide (e.text.length ≤ 4096)) = true := by
    simp only [Bool.and_eq_true, decide_eq_true_eq]
    refine ⟨⟨⟨⟨⟨?_, ?_⟩, h.1.1.1.2⟩, ?_⟩, ?_⟩, ?_⟩ <;> omega
  clear h
  (repeat (first | refine wpS_seq ?_ | refine wpS_reg ?_ | refine run_step rfl (by ((repeat' (first | exact aN | refine aC ?_ ?_ | intro _)) <;> first | assumption | omega | (simp only [obS] at *; omega) | (intros; first | rfl | assumption | omega | simp_all; done))) ?_ | refine run_nil ?_ | refine wpS_block ?_ | refine wpS_skip ?_ | refine wpS_exit ?_ | refine wpS_ret ?_))
  refine wpS_cond rfl (by ((repeat' (first | exact aN | refine aC ?_ ?_ | intro _)) <;> first | assumption | omega | (simp only [obS] at *; omega) | (intros; first | rfl | assumption | omega | simp_all; done))) (fun h => ?_) (fun h => ?_)
  · (repeat (first | refine wpS_seq ?_ | refine wpS_reg ?_ | refine run_step rfl (by ((repeat' (first | exact aN | refine aC ?_ ?_ | intro _)) <;> first | assumption | omega | (simp only [obS] at *; omega) | (intros; first | rfl | assumption | omega | simp_all; done))) ?_ | refine run_nil ?_ | refine wpS_block ?_ | refine wpS_skip ?_ | refine wpS_exit ?_ | refine wpS_ret ?_))
    refine fin_mk rfl ?_; (repeat' (first | exact aN | refine aC ?_ ?_))
    have hk : e.kind = 1 := by simpa using h
    simp only [validEv, hp, Bool.true_and, if_pos hk, bif_and]
  · (repeat (first | refine wpS_seq ?_ | refine wpS_reg ?_ | refine run_step rfl (by ((repeat' (first | exact aN | refine aC ?_ ?_ | intro _)) <;> first | assumption | omega | (simp only [obS] at *; omega) | (intros; first | rfl | assumption | omega | simp_all; done))) ?_ | refine run_nil ?_ | refine wpS_block ?_ | refine wpS_skip ?_ | refine wpS_exit ?_ | refine wpS_ret ?_))
    refine fin_mk rfl ?_; (repeat' (first | exact aN | refine aC ?_ ?_))
    have hk : ¬ e.kind = 1 := by simpa using h
    simp only [validEv, hp, Bool.true_and, if_neg hk, bif_and, bif_or]
    rfl
end Go.Proofs
end
