/- Part 4 of the proof that the law SubdirectDecomposes holds: words and lemmas it rests on. No condition. -/
import Derived.Test.YtmdpejgnkoneoaaD0
set_option linter.unusedSimpArgs false
set_option linter.unusedVariables false
set_option linter.unnecessarySimpa false
set_option linter.unusedSectionVars false
set_option maxRecDepth 100000
namespace Go.Proofs.Ytmdpejgnkoneoaa.Code
open Go Go.AM

abbrev N_semigroupref14_Shape : FuncId := 36
abbrev N_semigrouplaw22_large : FuncId := 10
abbrev N_mult_shape : FuncId := 59
abbrev N_mult_failing : FuncId := 60
abbrev N_mult_Validate : FuncId := 38
abbrev N_partition_Trivial : FuncId := 22
abbrev N_partition_Canonical : FuncId := 24
abbrev N_partition_Valid : FuncId := 49
abbrev N_partition_both : FuncId := 48
abbrev N_partition_Meet : FuncId := 23
abbrev N_partition_Discrete : FuncId := 65
abbrev N_congr_forest_find : FuncId := 97
abbrev N_congr_forest_join : FuncId := 74
abbrev N_congr_forest_partition : FuncId := 75
abbrev N_congr_generated : FuncId := 58
abbrev N_congr_Generated : FuncId := 34
abbrev N_partition_Count : FuncId := 25
abbrev N_subdirect_discrete : FuncId := 41
abbrev N_subdirect_monolith : FuncId := 39
abbrev N_subdirect_Irreducible : FuncId := 12
abbrev N_congr_firsts : FuncId := 53
abbrev N_congr_is : FuncId := 52
abbrev N_congr_Quotient : FuncId := 31
abbrev N_subdirect_meet : FuncId := 42
abbrev N_subdirect_Check : FuncId := 15
abbrev N_semigrouplaw22_klein : FuncId := 37
abbrev N_semigrouplaw22_awake : FuncId := 11
abbrev N_semigroupref14_Associative : FuncId := 47
abbrev N_semigroupref14_Validate : FuncId := 18
abbrev N_semigroupref14_Valid : FuncId := 27
abbrev N_semigroupref03_Same : FuncId := 14
abbrev N_semigroupref03_Less : FuncId := 98
abbrev N_semigroupref03_InsertRow : FuncId := 76
abbrev N_semigroupref03_Canonical : FuncId := 66
abbrev N_semigroupref03_Merge : FuncId := 100
abbrev N_semigroupref03_Discrete : FuncId := 106
abbrev N_semigroupref03_FromPairs : FuncId := 99
abbrev N_semigroupref19_Generated : FuncId := 77
abbrev N_semigroupref19_Principal : FuncId := 61
abbrev N_semigroupref03_Refines : FuncId := 62
abbrev N_semigroupref19_Minimal : FuncId := 40
abbrev N_semigroupref22_Irreducible : FuncId := 13
abbrev N_semigroupref03_Valid : FuncId := 51
abbrev N_semigroupref19_IsCongruence : FuncId := 28
abbrev N_semigroupref03_Count : FuncId := 44
abbrev N_semigroupref03_Classes : FuncId := 63
abbrev N_semigroupref19_Quotient : FuncId := 43
abbrev N_semigroupref03_Meet : FuncId := 64
abbrev N_semigroupref22_meet : FuncId := 45
abbrev N_semigroupref22_Check : FuncId := 16
abbrev N_subdirect_apart : FuncId := 46
abbrev N_subdirect_Decompose : FuncId := 17
abbrev N_semigrouplaw22_SubdirectDecomposes : FuncId := 5

def c_semigroupref14_Shape : C :=
 .seq
 (.reg [[⟨some 2, .mv (.c (.int .i64 0)), none⟩]])
 (.seq
 (.seq
 (.reg [[⟨some 7, .mv (.t 0), none⟩,
 ⟨some 8, .lenS (.t 7), none⟩,
 ⟨some 9, .bin .gtr (.t 8) (.c (.int .i64 400)), none⟩]])
 (.cond (.t 9)
 (.seq
 (.reg [[⟨some 2, .mv (.c (.int .i64 3)), none⟩]])
 (.ret))
 (.skip)))
 (.seq
 (.seq
 (.reg [[⟨some 10, .mv (.t 0), none⟩,
 ⟨some 11, .lenS (.t 10), none⟩,
 ⟨some 12, .bin .eql (.t 11) (.c (.int .i64 0)), none⟩]])
 (.cond (.t 12)
 (.seq
 (.reg [[⟨some 2, .mv (.c (.int .i64 4)), none⟩]])
 (.ret))
 (.skip)))
 (.seq
 (.seq
 (.reg [[⟨some 13, .mv (.t 0), none⟩,
 ⟨some 14, .lenS (.t 13), none⟩,
 ⟨some 15, .mv (.c (.int .i64 0)), none⟩]])
 (.block 0 (.loop (.seq
 (.reg [[⟨some 16, .bin .lss (.t 15) (.t 14), none⟩]])
 (.seq
 (.cond (.t 16)
 (.skip)
 (.exit 0))
 (.seq
 (.block 1 (.seq
 (.reg [[⟨some 17, .iAddr 1 (.t 13) (.t 15), none⟩,
 ⟨some 18, .load1 (.t 17), none⟩,
 ⟨some 4, .mv (.t 18), none⟩]])
 (.seq
 (.seq
 (.reg [[⟨some 19, .mv (.t 4), none⟩,
 ⟨some 20, .lenS (.t 19), none⟩,
 ⟨some 21, .mv (.t 0), none⟩,
 ⟨some 22, .lenS (.t 21), none⟩,
 ⟨some 23, .bin .neq (.t 20) (.t 22), none⟩]])
 (.cond (.t 23)
 (.seq
 (.reg [[⟨some 2, .mv (.c (.int .i64 4)), none⟩]])
 (.ret))
 (.skip)))
 (.seq
 (.reg [[⟨some 24, .mv (.t 4), none⟩,
 ⟨some 25, .lenS (.t 24), none⟩,
 ⟨some 26, .mv (.c (.int .i64 0)), none⟩]])
 (.block 2 (.loop (.seq
 (.reg [[⟨some 27, .bin .lss (.t 26) (.t 25), none⟩]])
 (.seq
 (.cond (.t 27)
 (.skip)
 (.exit 2))
 (.seq
 (.block 3 (.seq
 (.reg [[⟨some 28, .iAddr 1 (.t 24) (.t 26), none⟩,
 ⟨some 29, .load1 (.t 28), none⟩,
 ⟨some 6, .mv (.t 29), none⟩]])
 (.seq
 (.reg [[⟨some 30, .mv (.t 6), none⟩,
 ⟨some 31, .bin .lss (.t 30) (.c (.int .i64 0)), none⟩,
 ⟨some 32, .mv (.t 31), none⟩,
 ⟨some 33, .mv (.t 6), some (some 32, false)⟩,
 ⟨some 34, .mv (.t 0), some (some 32, false)⟩,
 ⟨some 35, .lenS (.t 34), some (some 32, false)⟩,
 ⟨some 36, .bin .geq (.t 33) (.t 35), some (some 32, false)⟩,
 ⟨some 37, .pick (.t 32) (.c (.bool true)) (.t 36), none⟩]])
 (.cond (.t 37)
 (.seq
 (.reg [[⟨some 2, .mv (.c (.int .i64 4)), none⟩]])
 (.ret))
 (.skip)))))
 (.reg [[⟨some 38, .bin .add (.t 26) (.c (.int .i64 1)), none⟩,
 ⟨some 26, .mv (.t 38), none⟩]]))))))))))
 (.reg [[⟨some 39, .bin .add (.t 15) (.c (.int .i64 1)), none⟩,
 ⟨some 15, .mv (.t 39), none⟩]])))))))
 (.seq
 (.reg [[⟨some 2, .mv (.c (.int .i64 0)), none⟩]])
 (.ret)))))
def f_semigroupref14_Shape : FnC := ⟨40, [.t 2], c_semigroupref14_Shape⟩

def c_semigrouplaw22_large : C :=
 .seq
 (.reg [[⟨some 4, .mv (.c (.bool false)), none⟩]])
 (.seq
 (.reg [[⟨some 5, .mv (.t 0), none⟩,
 ⟨some 6, .lenS (.t 5), none⟩,
 ⟨some 7, .mv (.t 1), none⟩,
 ⟨some 8, .bin .gtr (.t 6) (.t 7), none⟩,
 ⟨some 9, .mv (.t 8), none⟩,
 ⟨some 10, .mv (.t 0), some (some 9, true)⟩,
 ⟨some 11, .callF N_semigroupref14_Shape [.t 10], some (some 9, true)⟩,
 ⟨some 12, .bin .eql (.t 11) (.c (.int .i64 0)), some (some 9, true)⟩,
 ⟨some 13, .pick (.t 9) (.t 12) (.c (.bool false)), none⟩,
 ⟨some 4, .mv (.t 13), none⟩]])
 (.ret))
def f_semigrouplaw22_large : FnC := ⟨14, [.t 4], c_semigrouplaw22_large⟩

def c_mult_shape : C :=
 .seq
 (.reg [[⟨some 2, .mv (.c (.int .i64 0)), none⟩]])
 (.seq
 (.block 0 (.seq
 (.reg [[⟨some 8, .mv (.t 0), none⟩,
 ⟨some 9, .lenS (.t 8), none⟩,
 ⟨some 10, .bin .gtr (.t 9) (.c (.int .i64 400)), none⟩,
 ⟨some 7, .mv (.t 10), none⟩]])
 (.cond (.t 7)
 (.seq
 (.reg [[⟨some 2, .mv (.c (.int .i64 3)), none⟩]])
 (.ret))
 (.seq
 (.reg [[⟨some 12, .mv (.t 0), none⟩,
 ⟨some 13, .lenS (.t 12), none⟩,
 ⟨some 14, .bin .eql (.t 13) (.c (.int .i64 0)), none⟩,
 ⟨some 11, .mv (.t 14), none⟩]])
 (.cond (.t 11)
 (.seq
 (.reg [[⟨some 2, .mv (.c (.int .i64 4)), none⟩]])
 (.ret))
 (.skip))))))
 (.seq
 (.seq
 (.reg [[⟨some 15, .mv (.t 0), none⟩,
 ⟨some 16, .lenS (.t 15), none⟩,
 ⟨some 17, .mv (.c (.int .i64 0)), none⟩]])
 (.block 1 (.loop (.seq
 (.reg [[⟨some 18, .bin .lss (.t 17) (.t 16), none⟩]])
 (.seq
 (.cond (.t 18)
 (.skip)
 (.exit 1))
 (.seq
 (.block 2 (.seq
 (.reg [[⟨some 19, .iAddr 1 (.t 15) (.t 17), none⟩,
 ⟨some 20, .load1 (.t 19), none⟩,
 ⟨some 4, .mv (.t 20), none⟩]])
 (.seq
 (.seq
 (.reg [[⟨some 21, .mv (.t 4), none⟩,
 ⟨some 22, .lenS (.t 21), none⟩,
 ⟨some 23, .mv (.t 0), none⟩,
 ⟨some 24, .lenS (.t 23), none⟩,
 ⟨some 25, .bin .neq (.t 22) (.t 24), none⟩]])
 (.cond (.t 25)
 (.seq
 (.reg [[⟨some 2, .mv (.c (.int .i64 4)), none⟩]])
 (.ret))
 (.skip)))
 (.seq
 (.reg [[⟨some 26, .mv (.t 4), none⟩,
 ⟨some 27, .lenS (.t 26), none⟩,
 ⟨some 28, .mv (.c (.int .i64 0)), none⟩]])
 (.block 3 (.loop (.seq
 (.reg [[⟨some 29, .bin .lss (.t 28) (.t 27), none⟩]])
 (.seq
 (.cond (.t 29)
 (.skip)
 (.exit 3))
 (.seq
 (.block 4 (.seq
 (.reg [[⟨some 30, .iAddr 1 (.t 26) (.t 28), none⟩,
 ⟨some 31, .load1 (.t 30), none⟩,
 ⟨some 6, .mv (.t 31), none⟩]])
 (.seq
 (.reg [[⟨some 32, .mv (.t 6), none⟩,
 ⟨some 33, .bin .lss (.t 32) (.c (.int .i64 0)), none⟩,
 ⟨some 34, .mv (.t 33), none⟩,
 ⟨some 35, .mv (.t 6), some (some 34, false)⟩,
 ⟨some 36, .mv (.t 0), some (some 34, false)⟩,
 ⟨some 37, .lenS (.t 36), some (some 34, false)⟩,
 ⟨some 38, .bin .geq (.t 35) (.t 37), some (some 34, false)⟩,
 ⟨some 39, .pick (.t 34) (.c (.bool true)) (.t 38), none⟩]])
 (.cond (.t 39)
 (.seq
 (.reg [[⟨some 2, .mv (.c (.int .i64 4)), none⟩]])
 (.ret))
 (.skip)))))
 (.reg [[⟨some 40, .bin .add (.t 28) (.c (.int .i64 1)), none⟩,
 ⟨some 28, .mv (.t 40), none⟩]]))))))))))
 (.reg [[⟨some 41, .bin .add (.t 17) (.c (.int .i64 1)), none⟩,
 ⟨some 17, .mv (.t 41), none⟩]])))))))
 (.seq
 (.reg [[⟨some 2, .mv (.c (.int .i64 0)), none⟩]])
 (.ret))))
def f_mult_shape : FnC := ⟨42, [.t 2], c_mult_shape⟩

def c_mult_failing : C :=
 .seq
 (.reg [[⟨some 2, .mv (.c (.int .i64 0)), none⟩,
 ⟨some 3, .mv (.c (.int .i64 0)), none⟩,
 ⟨some 4, .mv (.c (.int .i64 0)), none⟩,
 ⟨some 5, .mv (.c (.bool false)), none⟩]])
 (.seq
 (.seq
 (.reg [[⟨some 9, .mv (.t 0), none⟩,
 ⟨some 10, .lenS (.t 9), none⟩,
 ⟨some 11, .mv (.c (.int .i64 0)), none⟩]])
 (.block 0 (.loop (.seq
 (.reg [[⟨some 12, .bin .lss (.t 11) (.t 10), none⟩]])
 (.seq
 (.cond (.t 12)
 (.skip)
 (.exit 0))
 (.seq
 (.block 1 (.seq
 (.reg [[⟨some 13, .mv (.t 11), none⟩,
 ⟨some 6, .mv (.t 13), none⟩]])
 (.seq
 (.reg [[⟨some 14, .mv (.t 0), none⟩,
 ⟨some 15, .lenS (.t 14), none⟩,
 ⟨some 16, .mv (.c (.int .i64 0)), none⟩]])
 (.block 2 (.loop (.seq
 (.reg [[⟨some 17, .bin .lss (.t 16) (.t 15), none⟩]])
 (.seq
 (.cond (.t 17)
 (.skip)
 (.exit 2))
 (.seq
 (.block 3 (.seq
 (.reg [[⟨some 18, .mv (.t 16), none⟩,
 ⟨some 7, .mv (.t 18), none⟩]])
 (.seq
 (.reg [[⟨some 19, .mv (.t 0), none⟩,
 ⟨some 20, .lenS (.t 19), none⟩,
 ⟨some 21, .mv (.c (.int .i64 0)), none⟩]])
 (.block 4 (.loop (.seq
 (.reg [[⟨some 22, .bin .lss (.t 21) (.t 20), none⟩]])
 (.seq
 (.cond (.t 22)
 (.skip)
 (.exit 4))
 (.seq
 (.block 5 (.seq
 (.reg [[⟨some 23, .mv (.t 21), none⟩,
 ⟨some 8, .mv (.t 23), none⟩]])
 (.seq
 (.reg [[⟨some 24, .mv (.t 0), none⟩,
 ⟨some 25, .mv (.t 0), none⟩,
 ⟨some 26, .mv (.t 6), none⟩,
 ⟨some 27, .iAddr 1 (.t 25) (.t 26), none⟩,
 ⟨some 28, .load1 (.t 27), none⟩,
 ⟨some 29, .mv (.t 7), none⟩,
 ⟨some 30, .iAddr 1 (.t 28) (.t 29), none⟩,
 ⟨some 31, .load1 (.t 30), none⟩,
 ⟨some 32, .iAddr 1 (.t 24) (.t 31), none⟩,
 ⟨some 33, .load1 (.t 32), none⟩,
 ⟨some 34, .mv (.t 8), none⟩,
 ⟨some 35, .iAddr 1 (.t 33) (.t 34), none⟩,
 ⟨some 36, .load1 (.t 35), none⟩,
 ⟨some 37, .mv (.t 0), none⟩,
 ⟨some 38, .mv (.t 6), none⟩,
 ⟨some 39, .iAddr 1 (.t 37) (.t 38), none⟩,
 ⟨some 40, .load1 (.t 39), none⟩,
 ⟨some 41, .mv (.t 0), none⟩,
 ⟨some 42, .mv (.t 7), none⟩,
 ⟨some 43, .iAddr 1 (.t 41) (.t 42), none⟩,
 ⟨some 44, .load1 (.t 43), none⟩,
 ⟨some 45, .mv (.t 8), none⟩,
 ⟨some 46, .iAddr 1 (.t 44) (.t 45), none⟩,
 ⟨some 47, .load1 (.t 46), none⟩,
 ⟨some 48, .iAddr 1 (.t 40) (.t 47), none⟩,
 ⟨some 49, .load1 (.t 48), none⟩,
 ⟨some 50, .bin .neq (.t 36) (.t 49), none⟩]])
 (.cond (.t 50)
 (.seq
 (.reg [[⟨some 51, .mv (.t 6), none⟩,
 ⟨some 52, .mv (.t 7), none⟩,
 ⟨some 53, .mv (.t 8), none⟩,
 ⟨some 2, .mv (.t 51), none⟩,
 ⟨some 3, .mv (.t 52), none⟩,
 ⟨some 4, .mv (.t 53), none⟩,
 ⟨some 5, .mv (.c (.bool true)), none⟩]])
 (.ret))
 (.skip)))))
 (.reg [[⟨some 54, .bin .add (.t 21) (.c (.int .i64 1)), none⟩,
 ⟨some 21, .mv (.t 54), none⟩]])))))))))
 (.reg [[⟨some 55, .bin .add (.t 16) (.c (.int .i64 1)), none⟩,
 ⟨some 16, .mv (.t 55), none⟩]])))))))))
 (.reg [[⟨some 56, .bin .add (.t 11) (.c (.int .i64 1)), none⟩,
 ⟨some 11, .mv (.t 56), none⟩]])))))))
 (.seq
 (.reg [[⟨some 2, .mv (.c (.int .i64 0)), none⟩,
 ⟨some 3, .mv (.c (.int .i64 0)), none⟩,
 ⟨some 4, .mv (.c (.int .i64 0)), none⟩,
 ⟨some 5, .mv (.c (.bool false)), none⟩]])
 (.ret)))
def f_mult_failing : FnC := ⟨57, [.t 2, .t 3, .t 4, .t 5], c_mult_failing⟩

def c_mult_Validate : C :=
 .seq
 (.reg [[⟨some 2, .mv (.c (.int .i64 0)), none⟩]])
 (.seq
 (.seq
 (.reg [[⟨some 8, .mv (.t 0), none⟩,
 ⟨some 9, .callF N_mult_shape [.t 8], none⟩,
 ⟨some 3, .mv (.t 9), none⟩]])
 (.seq
 (.reg [[⟨some 10, .mv (.t 3), none⟩,
 ⟨some 11, .bin .neq (.t 10) (.c (.int .i64 0)), none⟩]])
 (.cond (.t 11)
 (.seq
 (.reg [[⟨some 12, .mv (.t 3), none⟩,
 ⟨some 2, .mv (.t 12), none⟩]])
 (.ret))
 (.skip))))
 (.seq
 (.seq
 (.reg [[⟨some 14, .mv (.t 0), none⟩,
 ⟨some 15, .callF N_mult_failing [.t 14], none⟩,
 ⟨some 13, .mv (.t 15), none⟩,
 ⟨some 16, .ext 0 (.t 13), none⟩,
 ⟨some 17, .ext 1 (.t 13), none⟩,
 ⟨some 18, .ext 2 (.t 13), none⟩,
 ⟨some 19, .ext 3 (.t 13), none⟩,
 ⟨some 4, .mv (.t 16), none⟩,
 ⟨some 5, .mv (.t 17), none⟩,
 ⟨some 6, .mv (.t 18), none⟩,
 ⟨some 7, .mv (.t 19), none⟩]])
 (.seq
 (.reg [[⟨some 20, .mv (.t 7), none⟩]])
 (.cond (.t 20)
 (.seq
 (.reg [[⟨some 2, .mv (.c (.int .i64 5)), none⟩]])
 (.ret))
 (.skip))))
 (.seq
 (.reg [[⟨some 2, .mv (.c (.int .i64 0)), none⟩]])
 (.ret))))
def f_mult_Validate : FnC := ⟨21, [.t 2], c_mult_Validate⟩

def c_partition_Trivial : C :=
 .seq
 (.reg [[⟨some 2, .mv (.c (.nils)), none⟩]])
 (.seq
 (.seq
 (.reg [[⟨some 3, .mv (.t 0), none⟩,
 ⟨some 4, .bin .lss (.t 3) (.c (.int .i64 0)), none⟩,
 ⟨some 5, .mv (.t 4), none⟩,
 ⟨some 6, .mv (.t 0), some (some 5, false)⟩,
 ⟨some 7, .bin .gtr (.t 6) (.c (.int .i64 4096)), some (some 5, false)⟩,
 ⟨some 8, .pick (.t 5) (.c (.bool true)) (.t 7), none⟩]])
 (.cond (.t 8)
 (.seq
 (.reg [[⟨some 2, .mv (.c (.nils)), none⟩]])
 (.ret))
 (.skip)))
 (.seq
 (.reg [[⟨some 9, .mv (.t 0), none⟩,
 ⟨some 10, .mkS [.int .i64 0] 8 (.t 9) (.t 9), none⟩,
 ⟨some 2, .mv (.t 10), none⟩]])
 (.ret)))
def f_partition_Trivial : FnC := ⟨11, [.t 2], c_partition_Trivial⟩

def c_partition_Canonical : C :=
 .seq
 (.reg [[⟨some 2, .mv (.c (.nils)), none⟩]])
 (.seq
 (.seq
 (.reg [[⟨some 9, .mv (.t 0), none⟩,
 ⟨some 10, .lenS (.t 9), none⟩,
 ⟨some 11, .bin .gtr (.t 10) (.c (.int .i64 4096)), none⟩]])
 (.cond (.t 11)
 (.seq
 (.reg [[⟨some 2, .mv (.c (.nils)), none⟩]])
 (.ret))
 (.skip)))
 (.seq
 (.reg [[⟨some 12, .mkM, none⟩,
 ⟨some 3, .mv (.t 12), none⟩]])
 (.seq
 (.reg [[⟨some 13, .mv (.t 0), none⟩,
 ⟨some 14, .lenS (.t 13), none⟩,
 ⟨some 15, .mkS [.int .i64 0] 8 (.t 14) (.t 14), none⟩,
 ⟨some 4, .mv (.t 15), none⟩]])
 (.seq
 (.seq
 (.reg [[⟨some 16, .mv (.t 0), none⟩,
 ⟨some 17, .lenS (.t 16), none⟩,
 ⟨some 18, .mv (.c (.int .i64 0)), none⟩]])
 (.block 0 (.loop (.seq
 (.reg [[⟨some 19, .bin .lss (.t 18) (.t 17), none⟩]])
 (.seq
 (.cond (.t 19)
 (.skip)
 (.exit 0))
 (.seq
 (.block 1 (.seq
 (.reg [[⟨some 20, .mv (.t 18), none⟩,
 ⟨some 21, .iAddr 1 (.t 16) (.t 18), none⟩,
 ⟨some 22, .load1 (.t 21), none⟩,
 ⟨some 5, .mv (.t 20), none⟩,
 ⟨some 6, .mv (.t 22), none⟩]])
 (.seq
 (.reg [[⟨some 24, .mv (.t 3), none⟩,
 ⟨some 25, .mv (.t 6), none⟩,
 ⟨some 26, .look .int (.int .i64 0) true (.t 24) (.t 25), none⟩,
 ⟨some 23, .mv (.t 26), none⟩,
 ⟨some 27, .ext 0 (.t 23), none⟩,
 ⟨some 28, .ext 1 (.t 23), none⟩,
 ⟨some 7, .mv (.t 27), none⟩,
 ⟨some 8, .mv (.t 28), none⟩]])
 (.seq
 (.seq
 (.reg [[⟨some 29, .mv (.t 8), none⟩,
 ⟨some 30, .un .not (.t 29), none⟩]])
 (.cond (.t 30)
 (.seq
 (.reg [[⟨some 31, .mv (.t 3), none⟩,
 ⟨some 32, .lenM (.t 31), none⟩,
 ⟨some 7, .mv (.t 32), none⟩]])
 (.reg [[⟨some 33, .mv (.t 3), none⟩,
 ⟨some 34, .mv (.t 6), none⟩,
 ⟨some 35, .mv (.t 7), none⟩,
 ⟨none, .mset .int (.t 33) (.t 34) (.t 35), none⟩]]))
 (.skip)))
 (.reg [[⟨some 36, .mv (.t 4), none⟩,
 ⟨some 37, .mv (.t 5), none⟩,
 ⟨some 38, .mv (.t 7), none⟩,
 ⟨some 39, .iAddr 1 (.t 36) (.t 37), none⟩,
 ⟨none, .store 1 (.t 39) (.t 38), none⟩]])))))
 (.reg [[⟨some 40, .bin .add (.t 18) (.c (.int .i64 1)), none⟩,
 ⟨some 18, .mv (.t 40), none⟩]])))))))
 (.seq
 (.reg [[⟨some 41, .mv (.t 4), none⟩,
 ⟨some 2, .mv (.t 41), none⟩]])
 (.ret))))))
def f_partition_Canonical : FnC := ⟨42, [.t 2], c_partition_Canonical⟩

def c_partition_Valid : C :=
 .seq
 (.reg [[⟨some 2, .mv (.c (.bool false)), none⟩]])
 (.seq
 (.seq
 (.reg [[⟨some 6, .mv (.t 0), none⟩,
 ⟨some 7, .lenS (.t 6), none⟩,
 ⟨some 8, .bin .gtr (.t 7) (.c (.int .i64 4096)), none⟩]])
 (.cond (.t 8)
 (.seq
 (.reg [[⟨some 2, .mv (.c (.bool false)), none⟩]])
 (.ret))
 (.skip)))
 (.seq
 (.reg [[⟨some 3, .mv (.c (.int .i64 0)), none⟩]])
 (.seq
 (.seq
 (.reg [[⟨some 9, .mv (.t 0), none⟩,
 ⟨some 10, .lenS (.t 9), none⟩,
 ⟨some 11, .mv (.c (.int .i64 0)), none⟩]])
 (.block 0 (.loop (.seq
 (.reg [[⟨some 12, .bin .lss (.t 11) (.t 10), none⟩]])
 (.seq
 (.cond (.t 12)
 (.skip)
 (.exit 0))
 (.seq
 (.block 1 (.seq
 (.reg [[⟨some 13, .iAddr 1 (.t 9) (.t 11), none⟩,
 ⟨some 14, .load1 (.t 13), none⟩,
 ⟨some 5, .mv (.t 14), none⟩]])
 (.seq
 (.seq
 (.reg [[⟨some 15, .mv (.t 5), none⟩,
 ⟨some 16, .bin .lss (.t 15) (.c (.int .i64 0)), none⟩,
 ⟨some 17, .mv (.t 16), none⟩,
 ⟨some 18, .mv (.t 5), some (some 17, false)⟩,
 ⟨some 19, .mv (.t 3), some (some 17, false)⟩,
 ⟨some 20, .bin .gtr (.t 18) (.t 19), some (some 17, false)⟩,
 ⟨some 21, .pick (.t 17) (.c (.bool true)) (.t 20), none⟩]])
 (.cond (.t 21)
 (.seq
 (.reg [[⟨some 2, .mv (.c (.bool false)), none⟩]])
 (.ret))
 (.skip)))
 (.seq
 (.reg [[⟨some 22, .mv (.t 5), none⟩,
 ⟨some 23, .mv (.t 3), none⟩,
 ⟨some 24, .bin .eql (.t 22) (.t 23), none⟩]])
 (.cond (.t 24)
 (.reg [[⟨some 25, .mv (.t 3), none⟩,
 ⟨some 26, .bin .add (.t 25) (.c (.int .i64 1)), none⟩,
 ⟨some 3, .mv (.t 26), none⟩]])
 (.skip))))))
 (.reg [[⟨some 27, .bin .add (.t 11) (.c (.int .i64 1)), none⟩,
 ⟨some 11, .mv (.t 27), none⟩]])))))))
 (.seq
 (.reg [[⟨some 2, .mv (.c (.bool true)), none⟩]])
 (.ret)))))
def f_partition_Valid : FnC := ⟨28, [.t 2], c_partition_Valid⟩

def c_partition_both : C :=
 .seq
 (.reg [[⟨some 4, .mv (.c (.bool false)), none⟩]])
 (.seq
 (.reg [[⟨some 5, .mv (.t 0), none⟩,
 ⟨some 6, .lenS (.t 5), none⟩,
 ⟨some 7, .mv (.t 1), none⟩,
 ⟨some 8, .lenS (.t 7), none⟩,
 ⟨some 9, .bin .eql (.t 6) (.t 8), none⟩,
 ⟨some 10, .mv (.t 9), none⟩,
 ⟨some 11, .mv (.t 0), some (some 10, true)⟩,
 ⟨some 12, .callF N_partition_Valid [.t 11], some (some 10, true)⟩,
 ⟨some 13, .pick (.t 10) (.t 12) (.c (.bool false)), none⟩,
 ⟨some 14, .mv (.t 13), none⟩,
 ⟨some 15, .mv (.t 1), some (some 14, true)⟩,
 ⟨some 16, .callF N_partition_Valid [.t 15], some (some 14, true)⟩,
 ⟨some 17, .pick (.t 14) (.t 16) (.c (.bool false)), none⟩,
 ⟨some 4, .mv (.t 17), none⟩]])
 (.ret))
def f_partition_both : FnC := ⟨18, [.t 4], c_partition_both⟩

def c_partition_Meet : C :=
 .seq
 (.reg [[⟨some 4, .mv (.c (.nils)), none⟩]])
 (.seq
 (.seq
 (.reg [[⟨some 7, .mv (.t 0), none⟩,
 ⟨some 8, .mv (.t 1), none⟩,
 ⟨some 9, .callF N_partition_both [.t 7, .t 8], none⟩,
 ⟨some 10, .un .not (.t 9), none⟩]])
 (.cond (.t 10)
 (.seq
 (.reg [[⟨some 4, .mv (.c (.nils)), none⟩]])
 (.ret))
 (.skip)))
 (.seq
 (.reg [[⟨some 11, .mv (.t 0), none⟩,
 ⟨some 12, .lenS (.t 11), none⟩,
 ⟨some 13, .mkS [.int .i64 0] 8 (.t 12) (.t 12), none⟩,
 ⟨some 5, .mv (.t 13), none⟩]])
 (.seq
 (.seq
 (.reg [[⟨some 14, .mv (.t 0), none⟩,
 ⟨some 15, .lenS (.t 14), none⟩,
 ⟨some 16, .mv (.c (.int .i64 0)), none⟩]])
 (.block 0 (.loop (.seq
 (.reg [[⟨some 17, .bin .lss (.t 16) (.t 15), none⟩]])
 (.seq
 (.cond (.t 17)
 (.skip)
 (.exit 0))
 (.seq
 (.block 1 (.seq
 (.reg [[⟨some 18, .mv (.t 16), none⟩,
 ⟨some 6, .mv (.t 18), none⟩]])
 (.reg [[⟨some 19, .mv (.t 5), none⟩,
 ⟨some 20, .mv (.t 6), none⟩,
 ⟨some 21, .mv (.t 0), none⟩,
 ⟨some 22, .mv (.t 6), none⟩,
 ⟨some 23, .iAddr 1 (.t 21) (.t 22), none⟩,
 ⟨some 24, .load1 (.t 23), none⟩,
 ⟨some 25, .bin .mul (.t 24) (.c (.int .i64 4096)), none⟩,
 ⟨some 26, .mv (.t 1), none⟩,
 ⟨some 27, .mv (.t 6), none⟩,
 ⟨some 28, .iAddr 1 (.t 26) (.t 27), none⟩,
 ⟨some 29, .load1 (.t 28), none⟩,
 ⟨some 30, .bin .add (.t 25) (.t 29), none⟩,
 ⟨some 31, .iAddr 1 (.t 19) (.t 20), none⟩,
 ⟨none, .store 1 (.t 31) (.t 30), none⟩]])))
 (.reg [[⟨some 32, .bin .add (.t 16) (.c (.int .i64 1)), none⟩,
 ⟨some 16, .mv (.t 32), none⟩]])))))))
 (.seq
 (.reg [[⟨some 33, .mv (.t 5), none⟩,
 ⟨some 34, .callF N_partition_Canonical [.t 33], none⟩,
 ⟨some 4, .mv (.t 34), none⟩]])
 (.ret)))))
def f_partition_Meet : FnC := ⟨35, [.t 4], c_partition_Meet⟩

def c_partition_Discrete : C :=
 .seq
 (.reg [[⟨some 2, .mv (.c (.nils)), none⟩]])
 (.seq
 (.seq
 (.reg [[⟨some 5, .mv (.t 0), none⟩,
 ⟨some 6, .bin .lss (.t 5) (.c (.int .i64 0)), none⟩,
 ⟨some 7, .mv (.t 6), none⟩,
 ⟨some 8, .mv (.t 0), some (some 7, false)⟩,
 ⟨some 9, .bin .gtr (.t 8) (.c (.int .i64 4096)), some (some 7, false)⟩,
 ⟨some 10, .pick (.t 7) (.c (.bool true)) (.t 9), none⟩]])
 (.cond (.t 10)
 (.seq
 (.reg [[⟨some 2, .mv (.c (.nils)), none⟩]])
 (.ret))
 (.skip)))
 (.seq
 (.reg [[⟨some 11, .mv (.t 0), none⟩,
 ⟨some 12, .mkS [.int .i64 0] 8 (.t 11) (.t 11), none⟩,
 ⟨some 3, .mv (.t 12), none⟩]])
 (.seq
 (.seq
 (.reg [[⟨some 13, .mv (.t 3), none⟩,
 ⟨some 14, .lenS (.t 13), none⟩,
 ⟨some 15, .mv (.c (.int .i64 0)), none⟩]])
 (.block 0 (.loop (.seq
 (.reg [[⟨some 16, .bin .lss (.t 15) (.t 14), none⟩]])
 (.seq
 (.cond (.t 16)
 (.skip)
 (.exit 0))
 (.seq
 (.block 1 (.seq
 (.reg [[⟨some 17, .mv (.t 15), none⟩,
 ⟨some 4, .mv (.t 17), none⟩]])
 (.reg [[⟨some 18, .mv (.t 3), none⟩,
 ⟨some 19, .mv (.t 4), none⟩,
 ⟨some 20, .mv (.t 4), none⟩,
 ⟨some 21, .iAddr 1 (.t 18) (.t 19), none⟩,
 ⟨none, .store 1 (.t 21) (.t 20), none⟩]])))
 (.reg [[⟨some 22, .bin .add (.t 15) (.c (.int .i64 1)), none⟩,
 ⟨some 15, .mv (.t 22), none⟩]])))))))
 (.seq
 (.reg [[⟨some 23, .mv (.t 3), none⟩,
 ⟨some 2, .mv (.t 23), none⟩]])
 (.ret)))))
def f_partition_Discrete : FnC := ⟨24, [.t 2], c_partition_Discrete⟩

def c_congr_forest_find : C :=
 .seq
 (.reg [[⟨some 4, .mv (.c (.int .i64 0)), none⟩]])
 (.seq
 (.block 0 (.loop (.seq
 (.seq
 (.reg [[⟨some 5, .mv (.t 0), none⟩,
 ⟨some 6, .mv (.t 1), none⟩,
 ⟨some 7, .iAddr 1 (.t 5) (.t 6), none⟩,
 ⟨some 8, .load1 (.t 7), none⟩,
 ⟨some 9, .mv (.t 1), none⟩,
 ⟨some 10, .bin .neq (.t 8) (.t 9), none⟩]])
 (.cond (.t 10)
 (.skip)
 (.exit 0)))
 (.block 1 (.seq
 (.reg [[⟨some 11, .mv (.t 0), none⟩,
 ⟨some 12, .mv (.t 1), none⟩,
 ⟨some 13, .mv (.t 0), none⟩,
 ⟨some 14, .mv (.t 0), none⟩,
 ⟨some 15, .mv (.t 1), none⟩,
 ⟨some 16, .iAddr 1 (.t 14) (.t 15), none⟩,
 ⟨some 17, .load1 (.t 16), none⟩,
 ⟨some 18, .iAddr 1 (.t 13) (.t 17), none⟩,
 ⟨some 19, .load1 (.t 18), none⟩,
 ⟨some 20, .iAddr 1 (.t 11) (.t 12), none⟩,
 ⟨none, .store 1 (.t 20) (.t 19), none⟩]])
 (.reg [[⟨some 21, .mv (.t 0), none⟩,
 ⟨some 22, .mv (.t 1), none⟩,
 ⟨some 23, .iAddr 1 (.t 21) (.t 22), none⟩,
 ⟨some 24, .load1 (.t 23), none⟩,
 ⟨some 1, .mv (.t 24), none⟩]]))))))
 (.seq
 (.reg [[⟨some 25, .mv (.t 1), none⟩,
 ⟨some 4, .mv (.t 25), none⟩]])
 (.ret)))
def f_congr_forest_find : FnC := ⟨26, [.t 4], c_congr_forest_find⟩

def c_congr_forest_join : C :=
 .block 0 (.loop (.seq
 (.seq
 (.reg [[⟨some 12, .mv (.t 3), none⟩,
 ⟨some 13, .lenS (.t 12), none⟩,
 ⟨some 14, .bin .gtr (.t 13) (.c (.int .i64 0)), none⟩]])
 (.cond (.t 14)
 (.skip)
 (.exit 0)))
 (.block 1 (.seq
 (.reg [[⟨some 15, .mv (.t 3), none⟩,
 ⟨some 16, .mv (.t 3), none⟩,
 ⟨some 17, .lenS (.t 16), none⟩,
 ⟨some 18, .bin .sub (.t 17) (.c (.int .i64 1)), none⟩,
 ⟨some 19, .iAddr 2 (.t 15) (.t 18), none⟩,
 ⟨some 20, .loadA 2 (.t 19), none⟩,
 ⟨some 8, .alloc [.int .i64 0, .int .i64 0], none⟩,
 ⟨none, .store 2 (.t 8) (.t 20), none⟩]])
 (.seq
 (.reg [[⟨some 21, .mv (.t 3), none⟩,
 ⟨some 22, .mv (.t 3), none⟩,
 ⟨some 23, .lenS (.t 22), none⟩,
 ⟨some 24, .bin .sub (.t 23) (.c (.int .i64 1)), none⟩,
 ⟨some 25, .slS 2 (.t 21) none (some (.t 24)) none, none⟩,
 ⟨some 3, .mv (.t 25), none⟩]])
 (.seq
 (.reg [[⟨some 26, .mv (.t 0), none⟩,
 ⟨some 27, .iAddrA 2 1 (.t 8) (.c (.int .i64 0)), none⟩,
 ⟨some 28, .load1 (.t 27), none⟩,
 ⟨some 29, .callF N_congr_forest_find [.t 26, .t 28], none⟩,
 ⟨some 30, .mv (.t 0), none⟩,
 ⟨some 31, .iAddrA 2 1 (.t 8) (.c (.int .i64 1)), none⟩,
 ⟨some 32, .load1 (.t 31), none⟩,
 ⟨some 33, .callF N_congr_forest_find [.t 30, .t 32], none⟩,
 ⟨some 9, .mv (.t 29), none⟩,
 ⟨some 10, .mv (.t 33), none⟩],
 [⟨some 26, .mv (.t 0), none⟩,
 ⟨some 27, .iAddrA 2 1 (.t 8) (.c (.int .i64 0)), none⟩,
 ⟨some 28, .load1 (.t 27), none⟩,
 ⟨some 30, .mv (.t 0), none⟩,
 ⟨some 31, .iAddrA 2 1 (.t 8) (.c (.int .i64 1)), none⟩,
 ⟨some 32, .load1 (.t 31), none⟩,
 ⟨some 29, .callF N_congr_forest_find [.t 26, .t 28], none⟩,
 ⟨some 33, .callF N_congr_forest_find [.t 30, .t 32], none⟩,
 ⟨some 9, .mv (.t 29), none⟩,
 ⟨some 10, .mv (.t 33), none⟩]])
 (.seq
 (.seq
 (.reg [[⟨some 34, .mv (.t 9), none⟩,
 ⟨some 35, .mv (.t 10), none⟩,
 ⟨some 36, .bin .eql (.t 34) (.t 35), none⟩]])
 (.cond (.t 36)
 (.exit 1)
 (.skip)))
 (.seq
 (.reg [[⟨some 37, .mv (.t 0), none⟩,
 ⟨some 38, .mv (.t 9), none⟩,
 ⟨some 39, .mv (.t 10), none⟩,
 ⟨some 40, .iAddr 1 (.t 37) (.t 38), none⟩,
 ⟨none, .store 1 (.t 40) (.t 39), none⟩]])
 (.seq
 (.reg [[⟨some 41, .mv (.t 1), none⟩,
 ⟨some 42, .lenS (.t 41), none⟩,
 ⟨some 43, .mv (.c (.int .i64 0)), none⟩]])
 (.block 2 (.loop (.seq
 (.reg [[⟨some 44, .bin .lss (.t 43) (.t 42), none⟩]])
 (.seq
 (.cond (.t 44)
 (.skip)
 (.exit 2))
 (.seq
 (.block 3 (.seq
 (.reg [[⟨some 45, .mv (.t 43), none⟩,
 ⟨some 11, .mv (.t 45), none⟩]])
 (.seq
 (.seq
 (.reg [[⟨some 46, .mv (.t 2), none⟩,
 ⟨some 47, .bin .neq (.t 46) (.c (.int .i64 2)), none⟩]])
 (.cond (.t 47)
 (.reg [[⟨some 48, .mv (.t 3), none⟩,
 ⟨some 49, .mv (.t 1), none⟩,
 ⟨some 50, .mv (.t 11), none⟩,
 ⟨some 51, .iAddr 1 (.t 49) (.t 50), none⟩,
 ⟨some 52, .load1 (.t 51), none⟩,
 ⟨some 53, .iAddrA 2 1 (.t 8) (.c (.int .i64 0)), none⟩,
 ⟨some 54, .load1 (.t 53), none⟩,
 ⟨some 55, .iAddr 1 (.t 52) (.t 54), none⟩,
 ⟨some 56, .load1 (.t 55), none⟩,
 ⟨some 57, .mv (.t 1), none⟩,
 ⟨some 58, .mv (.t 11), none⟩,
 ⟨some 59, .iAddr 1 (.t 57) (.t 58), none⟩,
 ⟨some 60, .load1 (.t 59), none⟩,
 ⟨some 61, .iAddrA 2 1 (.t 8) (.c (.int .i64 1)), none⟩,
 ⟨some 62, .load1 (.t 61), none⟩,
 ⟨some 63, .iAddr 1 (.t 60) (.t 62), none⟩,
 ⟨some 64, .load1 (.t 63), none⟩,
 ⟨some 65, .build [.int .i64 0, .int .i64 0] [(0, 1, .t 56), (1, 1, .t 64)], none⟩,
 ⟨some 66, .lit [.int .i64 0, .int .i64 0] 2 1 [(0, 2, .t 65)], none⟩,
 ⟨some 67, .app [.int .i64 0, .int .i64 0] 16 (.t 48) (.t 66), none⟩,
 ⟨some 3, .mv (.t 67), none⟩]])
 (.skip)))
 (.seq
 (.reg [[⟨some 68, .mv (.t 2), none⟩,
 ⟨some 69, .bin .neq (.t 68) (.c (.int .i64 1)), none⟩]])
 (.cond (.t 69)
 (.reg [[⟨some 70, .mv (.t 3), none⟩,
 ⟨some 71, .mv (.t 1), none⟩,
 ⟨some 72, .iAddrA 2 1 (.t 8) (.c (.int .i64 0)), none⟩,
 ⟨some 73, .load1 (.t 72), none⟩,
 ⟨some 74, .iAddr 1 (.t 71) (.t 73), none⟩,
 ⟨some 75, .load1 (.t 74), none⟩,
 ⟨some 76, .mv (.t 11), none⟩,
 ⟨some 77, .iAddr 1 (.t 75) (.t 76), none⟩,
 ⟨some 78, .load1 (.t 77), none⟩,
 ⟨some 79, .mv (.t 1), none⟩,
 ⟨some 80, .iAddrA 2 1 (.t 8) (.c (.int .i64 1)), none⟩,
 ⟨some 81, .load1 (.t 80), none⟩,
 ⟨some 82, .iAddr 1 (.t 79) (.t 81), none⟩,
 ⟨some 83, .load1 (.t 82), none⟩,
 ⟨some 84, .mv (.t 11), none⟩,
 ⟨some 85, .iAddr 1 (.t 83) (.t 84), none⟩,
 ⟨some 86, .load1 (.t 85), none⟩,
 ⟨some 87, .build [.int .i64 0, .int .i64 0] [(0, 1, .t 78), (1, 1, .t 86)], none⟩,
 ⟨some 88, .lit [.int .i64 0, .int .i64 0] 2 1 [(0, 2, .t 87)], none⟩,
 ⟨some 89, .app [.int .i64 0, .int .i64 0] 16 (.t 70) (.t 88), none⟩,
 ⟨some 3, .mv (.t 89), none⟩]])
 (.skip))))))
 (.reg [[⟨some 90, .bin .add (.t 43) (.c (.int .i64 1)), none⟩,
 ⟨some 43, .mv (.t 90), none⟩]])))))))))))))))
def f_congr_forest_join : FnC := ⟨91, [], c_congr_forest_join⟩

def c_congr_forest_partition : C :=
 .seq
 (.reg [[⟨some 2, .mv (.c (.nils)), none⟩]])
 (.seq
 (.reg [[⟨some 5, .mv (.t 0), none⟩,
 ⟨some 6, .lenS (.t 5), none⟩,
 ⟨some 7, .mkS [.int .i64 0] 8 (.t 6) (.t 6), none⟩,
 ⟨some 3, .mv (.t 7), none⟩]])
 (.seq
 (.seq
 (.reg [[⟨some 8, .mv (.t 3), none⟩,
 ⟨some 9, .lenS (.t 8), none⟩,
 ⟨some 10, .mv (.c (.int .i64 0)), none⟩]])
 (.block 0 (.loop (.seq
 (.reg [[⟨some 11, .bin .lss (.t 10) (.t 9), none⟩]])
 (.seq
 (.cond (.t 11)
 (.skip)
 (.exit 0))
 (.seq
 (.block 1 (.seq
 (.reg [[⟨some 12, .mv (.t 10), none⟩,
 ⟨some 4, .mv (.t 12), none⟩]])
 (.reg [[⟨some 13, .mv (.t 3), none⟩,
 ⟨some 14, .mv (.t 4), none⟩,
 ⟨some 15, .mv (.t 0), none⟩,
 ⟨some 16, .mv (.t 4), none⟩,
 ⟨some 17, .callF N_congr_forest_find [.t 15, .t 16], none⟩,
 ⟨some 18, .iAddr 1 (.t 13) (.t 14), none⟩,
 ⟨none, .store 1 (.t 18) (.t 17), none⟩]])))
 (.reg [[⟨some 19, .bin .add (.t 10) (.c (.int .i64 1)), none⟩,
 ⟨some 10, .mv (.t 19), none⟩]])))))))
 (.seq
 (.reg [[⟨some 20, .mv (.t 3), none⟩,
 ⟨some 21, .callF N_partition_Canonical [.t 20], none⟩,
 ⟨some 2, .mv (.t 21), none⟩]])
 (.ret))))
def f_congr_forest_partition : FnC := ⟨22, [.t 2], c_congr_forest_partition⟩

def c_congr_generated : C :=
 .seq
 (.reg [[⟨some 6, .mv (.c (.nils)), none⟩]])
 (.seq
 (.reg [[⟨some 8, .mv (.t 0), none⟩,
 ⟨some 9, .lenS (.t 8), none⟩,
 ⟨some 10, .callF N_partition_Discrete [.t 9], none⟩,
 ⟨some 7, .mv (.t 10), none⟩]])
 (.seq
 (.reg [[⟨some 11, .mv (.t 7), none⟩,
 ⟨some 12, .mv (.t 0), none⟩,
 ⟨some 13, .mv (.t 2), none⟩,
 ⟨some 14, .lit [] 2 0 [], none⟩,
 ⟨some 15, .mv (.t 1), none⟩,
 ⟨some 16, .app [.int .i64 0, .int .i64 0] 16 (.t 14) (.t 15), none⟩,
 ⟨some 17, .callF N_congr_forest_join [.t 11, .t 12, .t 13, .t 16], none⟩]])
 (.seq
 (.reg [[⟨some 18, .mv (.t 7), none⟩,
 ⟨some 19, .callF N_congr_forest_partition [.t 18], none⟩,
 ⟨some 6, .mv (.t 19), none⟩]])
 (.ret))))
def f_congr_generated : FnC := ⟨20, [.t 6], c_congr_generated⟩

def c_congr_Generated : C :=
 .seq
 (.reg [[⟨some 6, .mv (.c (.nils)), none⟩]])
 (.seq
 (.seq
 (.reg [[⟨some 9, .mv (.t 0), none⟩,
 ⟨some 10, .callF N_mult_Validate [.t 9], none⟩,
 ⟨some 11, .bin .neq (.t 10) (.c (.int .i64 0)), none⟩,
 ⟨some 12, .mv (.t 11), none⟩,
 ⟨some 13, .mv (.t 2), some (some 12, false)⟩,
 ⟨some 14, .bin .lss (.t 13) (.c (.int .i64 0)), some (some 12, false)⟩,
 ⟨some 15, .pick (.t 12) (.c (.bool true)) (.t 14), none⟩,
 ⟨some 16, .mv (.t 15), none⟩,
 ⟨some 17, .mv (.t 2), some (some 16, false)⟩,
 ⟨some 18, .bin .gtr (.t 17) (.c (.int .i64 2)), some (some 16, false)⟩,
 ⟨some 19, .pick (.t 16) (.c (.bool true)) (.t 18), none⟩]])
 (.cond (.t 19)
 (.seq
 (.reg [[⟨some 6, .mv (.c (.nils)), none⟩]])
 (.ret))
 (.skip)))
 (.seq
 (.seq
 (.reg [[⟨some 20, .mv (.t 1), none⟩,
 ⟨some 21, .lenS (.t 20), none⟩,
 ⟨some 22, .mv (.c (.int .i64 0)), none⟩]])
 (.block 0 (.loop (.seq
 (.reg [[⟨some 23, .bin .lss (.t 22) (.t 21), none⟩]])
 (.seq
 (.cond (.t 23)
 (.skip)
 (.exit 0))
 (.seq
 (.block 1 (.seq
 (.reg [[⟨some 24, .iAddr 2 (.t 20) (.t 22), none⟩,
 ⟨some 25, .loadA 2 (.t 24), none⟩,
 ⟨some 8, .alloc [.int .i64 0, .int .i64 0], none⟩,
 ⟨none, .store 2 (.t 8) (.t 25), none⟩]])
 (.seq
 (.reg [[⟨some 26, .iAddrA 2 1 (.t 8) (.c (.int .i64 0)), none⟩,
 ⟨some 27, .load1 (.t 26), none⟩,
 ⟨some 28, .bin .lss (.t 27) (.c (.int .i64 0)), none⟩,
 ⟨some 29, .mv (.t 28), none⟩,
 ⟨some 30, .iAddrA 2 1 (.t 8) (.c (.int .i64 0)), some (some 29, false)⟩,
 ⟨some 31, .load1 (.t 30), some (some 29, false)⟩,
 ⟨some 32, .mv (.t 0), some (some 29, false)⟩,
 ⟨some 33, .lenS (.t 32), some (some 29, false)⟩,
 ⟨some 34, .bin .geq (.t 31) (.t 33), some (some 29, false)⟩,
 ⟨some 35, .pick (.t 29) (.c (.bool true)) (.t 34), none⟩,
 ⟨some 36, .mv (.t 35), none⟩,
 ⟨some 37, .iAddrA 2 1 (.t 8) (.c (.int .i64 1)), some (some 36, false)⟩,
 ⟨some 38, .load1 (.t 37), some (some 36, false)⟩,
 ⟨some 39, .bin .lss (.t 38) (.c (.int .i64 0)), some (some 36, false)⟩,
 ⟨some 40, .pick (.t 36) (.c (.bool true)) (.t 39), none⟩,
 ⟨some 41, .mv (.t 40), none⟩,
 ⟨some 42, .iAddrA 2 1 (.t 8) (.c (.int .i64 1)), some (some 41, false)⟩,
 ⟨some 43, .load1 (.t 42), some (some 41, false)⟩,
 ⟨some 44, .mv (.t 0), some (some 41, false)⟩,
 ⟨some 45, .lenS (.t 44), some (some 41, false)⟩,
 ⟨some 46, .bin .geq (.t 43) (.t 45), some (some 41, false)⟩,
 ⟨some 47, .pick (.t 41) (.c (.bool true)) (.t 46), none⟩]])
 (.cond (.t 47)
 (.seq
 (.reg [[⟨some 6, .mv (.c (.nils)), none⟩]])
 (.ret))
 (.skip)))))
 (.reg [[⟨some 48, .bin .add (.t 22) (.c (.int .i64 1)), none⟩,
 ⟨some 22, .mv (.t 48), none⟩]])))))))
 (.seq
 (.reg [[⟨some 49, .mv (.t 0), none⟩,
 ⟨some 50, .mv (.t 1), none⟩,
 ⟨some 51, .mv (.t 2), none⟩,
 ⟨some 52, .callF N_congr_generated [.t 49, .t 50, .t 51], none⟩,
 ⟨some 6, .mv (.t 52), none⟩]])
 (.ret))))
def f_congr_Generated : FnC := ⟨53, [.t 6], c_congr_Generated⟩

def c_partition_Count : C :=
 .seq
 (.reg [[⟨some 2, .mv (.c (.int .i64 0)), none⟩]])
 (.seq
 (.seq
 (.reg [[⟨some 6, .mv (.t 0), none⟩,
 ⟨some 7, .callF N_partition_Valid [.t 6], none⟩,
 ⟨some 8, .un .not (.t 7), none⟩]])
 (.cond (.t 8)
 (.seq
 (.reg [[⟨some 2, .mv (.c (.int .i64 0)), none⟩]])
 (.ret))
 (.skip)))
 (.seq
 (.reg [[⟨some 3, .mv (.c (.int .i64 0)), none⟩]])
 (.seq
 (.seq
 (.reg [[⟨some 9, .mv (.t 0), none⟩,
 ⟨some 10, .lenS (.t 9), none⟩,
 ⟨some 11, .mv (.c (.int .i64 0)), none⟩]])
 (.block 0 (.loop (.seq
 (.reg [[⟨some 12, .bin .lss (.t 11) (.t 10), none⟩]])
 (.seq
 (.cond (.t 12)
 (.skip)
 (.exit 0))
 (.seq
 (.block 1 (.seq
 (.reg [[⟨some 13, .iAddr 1 (.t 9) (.t 11), none⟩,
 ⟨some 14, .load1 (.t 13), none⟩,
 ⟨some 5, .mv (.t 14), none⟩]])
 (.reg [[⟨some 15, .mv (.t 3), none⟩,
 ⟨some 16, .mv (.t 5), none⟩,
 ⟨some 17, .bin .add (.t 16) (.c (.int .i64 1)), none⟩,
 ⟨some 18, .max [.t 15, .t 17], none⟩,
 ⟨some 3, .mv (.t 18), none⟩]])))
 (.reg [[⟨some 19, .bin .add (.t 11) (.c (.int .i64 1)), none⟩,
 ⟨some 11, .mv (.t 19), none⟩]])))))))
 (.seq
 (.reg [[⟨some 20, .mv (.t 3), none⟩,
 ⟨some 2, .mv (.t 20), none⟩]])
 (.ret)))))
def f_partition_Count : FnC := ⟨21, [.t 2], c_partition_Count⟩

def c_subdirect_discrete : C :=
 .seq
 (.reg [[⟨some 2, .mv (.c (.bool false)), none⟩]])
 (.seq
 (.reg [[⟨some 3, .mv (.t 0), none⟩,
 ⟨some 4, .callF N_partition_Count [.t 3], none⟩,
 ⟨some 5, .mv (.t 0), none⟩,
 ⟨some 6, .lenS (.t 5), none⟩,
 ⟨some 7, .bin .eql (.t 4) (.t 6), none⟩,
 ⟨some 2, .mv (.t 7), none⟩]])
 (.ret))
def f_subdirect_discrete : FnC := ⟨8, [.t 2], c_subdirect_discrete⟩

def c_subdirect_monolith : C :=
 .seq
 (.reg [[⟨some 2, .mv (.c (.nils)), none⟩]])
 (.seq
 (.seq
 (.reg [[⟨some 6, .mv (.t 0), none⟩,
 ⟨some 7, .lenS (.t 6), none⟩,
 ⟨some 8, .bin .lss (.t 7) (.c (.int .i64 2)), none⟩]])
 (.cond (.t 8)
 (.seq
 (.reg [[⟨some 2, .mv (.c (.nils)), none⟩]])
 (.ret))
 (.skip)))
 (.seq
 (.reg [[⟨some 9, .mv (.t 0), none⟩,
 ⟨some 10, .lenS (.t 9), none⟩,
 ⟨some 11, .callF N_partition_Trivial [.t 10], none⟩,
 ⟨some 3, .mv (.t 11), none⟩]])
 (.seq
 (.seq
 (.reg [[⟨some 12, .mv (.t 0), none⟩,
 ⟨some 13, .lenS (.t 12), none⟩,
 ⟨some 14, .mv (.c (.int .i64 0)), none⟩]])
 (.block 0 (.loop (.seq
 (.reg [[⟨some 15, .bin .lss (.t 14) (.t 13), none⟩]])
 (.seq
 (.cond (.t 15)
 (.skip)
 (.exit 0))
 (.seq
 (.block 1 (.seq
 (.reg [[⟨some 16, .mv (.t 14), none⟩,
 ⟨some 4, .mv (.t 16), none⟩]])
 (.seq
 (.reg [[⟨some 5, .mv (.c (.int .i64 0)), none⟩]])
 (.block 2 (.loop (.seq
 (.seq
 (.reg [[⟨some 17, .mv (.t 5), none⟩,
 ⟨some 18, .mv (.t 4), none⟩,
 ⟨some 19, .bin .lss (.t 17) (.t 18), none⟩]])
 (.cond (.t 19)
 (.skip)
 (.exit 2)))
 (.seq
 (.block 3 (.seq
 (.reg [[⟨some 22, .mv (.t 3), none⟩,
 ⟨some 23, .mv (.t 0), none⟩,
 ⟨some 24, .mv (.t 5), none⟩,
 ⟨some 25, .mv (.t 4), none⟩,
 ⟨some 26, .build [.int .i64 0, .int .i64 0] [(0, 1, .t 24), (1, 1, .t 25)], none⟩,
 ⟨some 27, .lit [.int .i64 0, .int .i64 0] 2 1 [(0, 2, .t 26)], none⟩,
 ⟨some 28, .callF N_congr_Generated [.t 23, .t 27, .c (.int .i64 0)], none⟩,
 ⟨some 29, .callF N_partition_Meet [.t 22, .t 28], none⟩,
 ⟨some 3, .mv (.t 29), none⟩]])
 (.seq
 (.reg [[⟨some 30, .mv (.t 3), none⟩,
 ⟨some 31, .callF N_subdirect_discrete [.t 30], none⟩]])
 (.cond (.t 31)
 (.seq
 (.reg [[⟨some 2, .mv (.c (.nils)), none⟩]])
 (.ret))
 (.skip)))))
 (.reg [[⟨some 20, .mv (.t 5), none⟩,
 ⟨some 21, .bin .add (.t 20) (.c (.int .i64 1)), none⟩,
 ⟨some 5, .mv (.t 21), none⟩]]))))))))
 (.reg [[⟨some 32, .bin .add (.t 14) (.c (.int .i64 1)), none⟩,
 ⟨some 14, .mv (.t 32), none⟩]])))))))
 (.seq
 (.reg [[⟨some 33, .mv (.t 3), none⟩,
 ⟨some 2, .mv (.t 33), none⟩]])
 (.ret)))))
def f_subdirect_monolith : FnC := ⟨34, [.t 2], c_subdirect_monolith⟩

def c_subdirect_Irreducible : C :=
 .seq
 (.reg [[⟨some 2, .mv (.c (.nils)), none⟩,
 ⟨some 3, .mv (.c (.bool false)), none⟩]])
 (.seq
 (.seq
 (.reg [[⟨some 5, .mv (.t 0), none⟩,
 ⟨some 6, .callF N_mult_Validate [.t 5], none⟩,
 ⟨some 7, .bin .neq (.t 6) (.c (.int .i64 0)), none⟩]])
 (.cond (.t 7)
 (.seq
 (.reg [[⟨some 2, .mv (.c (.nils)), none⟩,
 ⟨some 3, .mv (.c (.bool false)), none⟩]])
 (.ret))
 (.skip)))
 (.seq
 (.reg [[⟨some 8, .mv (.t 0), none⟩,
 ⟨some 9, .callF N_subdirect_monolith [.t 8], none⟩,
 ⟨some 4, .mv (.t 9), none⟩]])
 (.seq
 (.reg [[⟨some 10, .mv (.t 4), none⟩,
 ⟨some 11, .mv (.t 4), none⟩,
 ⟨some 12, .eqv .sl true (.t 11) (.c (.nils)), none⟩,
 ⟨some 2, .mv (.t 10), none⟩,
 ⟨some 3, .mv (.t 12), none⟩]])
 (.ret))))
def f_subdirect_Irreducible : FnC := ⟨13, [.t 2, .t 3], c_subdirect_Irreducible⟩

def c_congr_firsts : C :=
 .seq
 (.reg [[⟨some 2, .mv (.c (.nils)), none⟩]])
 (.seq
 (.reg [[⟨some 3, .mv (.c (.nils)), none⟩]])
 (.seq
 (.seq
 (.reg [[⟨some 6, .mv (.t 0), none⟩,
 ⟨some 7, .lenS (.t 6), none⟩,
 ⟨some 8, .mv (.c (.int .i64 0)), none⟩]])
 (.block 0 (.loop (.seq
 (.reg [[⟨some 9, .bin .lss (.t 8) (.t 7), none⟩]])
 (.seq
 (.cond (.t 9)
 (.skip)
 (.exit 0))
 (.seq
 (.block 1 (.seq
 (.reg [[⟨some 10, .mv (.t 8), none⟩,
 ⟨some 11, .iAddr 1 (.t 6) (.t 8), none⟩,
 ⟨some 12, .load1 (.t 11), none⟩,
 ⟨some 4, .mv (.t 10), none⟩,
 ⟨some 5, .mv (.t 12), none⟩]])
 (.seq
 (.reg [[⟨some 13, .mv (.t 5), none⟩,
 ⟨some 14, .mv (.t 3), none⟩,
 ⟨some 15, .lenS (.t 14), none⟩,
 ⟨some 16, .bin .eql (.t 13) (.t 15), none⟩]])
 (.cond (.t 16)
 (.reg [[⟨some 17, .mv (.t 3), none⟩,
 ⟨some 18, .mv (.t 4), none⟩,
 ⟨some 19, .lit [.int .i64 0] 1 1 [(0, 1, .t 18)], none⟩,
 ⟨some 20, .app [.int .i64 0] 8 (.t 17) (.t 19), none⟩,
 ⟨some 3, .mv (.t 20), none⟩]])
 (.skip)))))
 (.reg [[⟨some 21, .bin .add (.t 8) (.c (.int .i64 1)), none⟩,
 ⟨some 8, .mv (.t 21), none⟩]])))))))
 (.seq
 (.reg [[⟨some 22, .mv (.t 3), none⟩,
 ⟨some 2, .mv (.t 22), none⟩]])
 (.ret))))
def f_congr_firsts : FnC := ⟨23, [.t 2], c_congr_firsts⟩

def c_congr_is : C :=
 .seq
 (.reg [[⟨some 6, .mv (.c (.bool false)), none⟩]])
 (.seq
 (.seq
 (.reg [[⟨some 12, .mv (.t 1), none⟩,
 ⟨some 13, .lenS (.t 12), none⟩,
 ⟨some 14, .mv (.t 0), none⟩,
 ⟨some 15, .lenS (.t 14), none⟩,
 ⟨some 16, .bin .neq (.t 13) (.t 15), none⟩,
 ⟨some 17, .mv (.t 16), none⟩,
 ⟨some 18, .mv (.t 1), some (some 17, false)⟩,
 ⟨some 19, .callF N_partition_Valid [.t 18], some (some 17, false)⟩,
 ⟨some 20, .un .not (.t 19), some (some 17, false)⟩,
 ⟨some 21, .pick (.t 17) (.c (.bool true)) (.t 20), none⟩]])
 (.cond (.t 21)
 (.seq
 (.reg [[⟨some 6, .mv (.c (.bool false)), none⟩]])
 (.ret))
 (.skip)))
 (.seq
 (.reg [[⟨some 22, .mv (.t 1), none⟩,
 ⟨some 23, .callF N_congr_firsts [.t 22], none⟩,
 ⟨some 7, .mv (.t 23), none⟩]])
 (.seq
 (.seq
 (.reg [[⟨some 24, .mv (.t 1), none⟩,
 ⟨some 25, .lenS (.t 24), none⟩,
 ⟨some 26, .mv (.c (.int .i64 0)), none⟩]])
 (.block 0 (.loop (.seq
 (.reg [[⟨some 27, .bin .lss (.t 26) (.t 25), none⟩]])
 (.seq
 (.cond (.t 27)
 (.skip)
 (.exit 0))
 (.seq
 (.block 1 (.seq
 (.reg [[⟨some 28, .mv (.t 26), none⟩,
 ⟨some 29, .iAddr 1 (.t 24) (.t 26), none⟩,
 ⟨some 30, .load1 (.t 29), none⟩,
 ⟨some 8, .mv (.t 28), none⟩,
 ⟨some 9, .mv (.t 30), none⟩]])
 (.seq
 (.reg [[⟨some 31, .mv (.t 7), none⟩,
 ⟨some 32, .mv (.t 9), none⟩,
 ⟨some 33, .iAddr 1 (.t 31) (.t 32), none⟩,
 ⟨some 34, .load1 (.t 33), none⟩,
 ⟨some 10, .mv (.t 34), none⟩]])
 (.seq
 (.reg [[⟨some 35, .mv (.t 0), none⟩,
 ⟨some 36, .lenS (.t 35), none⟩,
 ⟨some 37, .mv (.c (.int .i64 0)), none⟩]])
 (.block 2 (.loop (.seq
 (.reg [[⟨some 38, .bin .lss (.t 37) (.t 36), none⟩]])
 (.seq
 (.cond (.t 38)
 (.skip)
 (.exit 2))
 (.seq
 (.block 3 (.seq
 (.reg [[⟨some 39, .mv (.t 37), none⟩,
 ⟨some 11, .mv (.t 39), none⟩]])
 (.seq
 (.reg [[⟨some 40, .mv (.t 2), none⟩,
 ⟨some 41, .bin .neq (.t 40) (.c (.int .i64 2)), none⟩,
 ⟨some 42, .mv (.t 41), none⟩,
 ⟨some 43, .mv (.t 1), some (some 42, true)⟩,
 ⟨some 44, .mv (.t 0), some (some 42, true)⟩,
 ⟨some 45, .mv (.t 11), some (some 42, true)⟩,
 ⟨some 46, .iAddr 1 (.t 44) (.t 45), some (some 42, true)⟩,
 ⟨some 47, .load1 (.t 46), some (some 42, true)⟩,
 ⟨some 48, .mv (.t 8), some (some 42, true)⟩,
 ⟨some 49, .iAddr 1 (.t 47) (.t 48), some (some 42, true)⟩,
 ⟨some 50, .load1 (.t 49), some (some 42, true)⟩,
 ⟨some 51, .iAddr 1 (.t 43) (.t 50), some (some 42, true)⟩,
 ⟨some 52, .load1 (.t 51), some (some 42, true)⟩,
 ⟨some 53, .mv (.t 1), some (some 42, true)⟩,
 ⟨some 54, .mv (.t 0), some (some 42, true)⟩,
 ⟨some 55, .mv (.t 11), some (some 42, true)⟩,
 ⟨some 56, .iAddr 1 (.t 54) (.t 55), some (some 42, true)⟩,
 ⟨some 57, .load1 (.t 56), some (some 42, true)⟩,
 ⟨some 58, .mv (.t 10), some (some 42, true)⟩,
 ⟨some 59, .iAddr 1 (.t 57) (.t 58), some (some 42, true)⟩,
 ⟨some 60, .load1 (.t 59), some (some 42, true)⟩,
 ⟨some 61, .iAddr 1 (.t 53) (.t 60), some (some 42, true)⟩,
 ⟨some 62, .load1 (.t 61), some (some 42, true)⟩,
 ⟨some 63, .bin .neq (.t 52) (.t 62), some (some 42, true)⟩,
 ⟨some 64, .pick (.t 42) (.t 63) (.c (.bool false)), none⟩,
 ⟨some 65, .mv (.t 64), none⟩,
 ⟨some 66, .mv (.t 2), some (some 65, false)⟩,
 ⟨some 67, .bin .neq (.t 66) (.c (.int .i64 1)), some (some 65, false)⟩,
 ⟨some 68, .mv (.t 67), some (some 65, false)⟩,
 ⟨some 69, .mv (.t 1), some (some 68, true)⟩,
 ⟨some 70, .mv (.t 0), some (some 68, true)⟩,
 ⟨some 71, .mv (.t 8), some (some 68, true)⟩,
 ⟨some 72, .iAddr 1 (.t 70) (.t 71), some (some 68, true)⟩,
 ⟨some 73, .load1 (.t 72), some (some 68, true)⟩,
 ⟨some 74, .mv (.t 11), some (some 68, true)⟩,
 ⟨some 75, .iAddr 1 (.t 73) (.t 74), some (some 68, true)⟩,
 ⟨some 76, .load1 (.t 75), some (some 68, true)⟩,
 ⟨some 77, .iAddr 1 (.t 69) (.t 76), some (some 68, true)⟩,
 ⟨some 78, .load1 (.t 77), some (some 68, true)⟩,
 ⟨some 79, .mv (.t 1), some (some 68, true)⟩,
 ⟨some 80, .mv (.t 0), some (some 68, true)⟩,
 ⟨some 81, .mv (.t 10), some (some 68, true)⟩,
 ⟨some 82, .iAddr 1 (.t 80) (.t 81), some (some 68, true)⟩,
 ⟨some 83, .load1 (.t 82), some (some 68, true)⟩,
 ⟨some 84, .mv (.t 11), some (some 68, true)⟩,
 ⟨some 85, .iAddr 1 (.t 83) (.t 84), some (some 68, true)⟩,
 ⟨some 86, .load1 (.t 85), some (some 68, true)⟩,
 ⟨some 87, .iAddr 1 (.t 79) (.t 86), some (some 68, true)⟩,
 ⟨some 88, .load1 (.t 87), some (some 68, true)⟩,
 ⟨some 89, .bin .neq (.t 78) (.t 88), some (some 68, true)⟩,
 ⟨some 90, .pick (.t 68) (.t 89) (.c (.bool false)), some (some 65, false)⟩,
 ⟨some 91, .pick (.t 65) (.c (.bool true)) (.t 90), none⟩]])
 (.cond (.t 91)
 (.seq
 (.reg [[⟨some 6, .mv (.c (.bool false)), none⟩]])
 (.ret))
 (.skip)))))
 (.reg [[⟨some 92, .bin .add (.t 37) (.c (.int .i64 1)), none⟩,
 ⟨some 37, .mv (.t 92), none⟩]]))))))))))
 (.reg [[⟨some 93, .bin .add (.t 26) (.c (.int .i64 1)), none⟩,
 ⟨some 26, .mv (.t 93), none⟩]])))))))
 (.seq
 (.reg [[⟨some 6, .mv (.c (.bool true)), none⟩]])
 (.ret)))))
def f_congr_is : FnC := ⟨94, [.t 6], c_congr_is⟩

def c_congr_Quotient : C :=
 .seq
 (.reg [[⟨some 4, .mv (.c (.nils)), none⟩,
 ⟨some 5, .mv (.c (.int .i64 0)), none⟩]])
 (.seq
 (.seq
 (.reg [[⟨some 13, .mv (.t 0), none⟩,
 ⟨some 14, .callF N_mult_Validate [.t 13], none⟩,
 ⟨some 6, .mv (.t 14), none⟩]])
 (.seq
 (.reg [[⟨some 15, .mv (.t 6), none⟩,
 ⟨some 16, .bin .neq (.t 15) (.c (.int .i64 0)), none⟩]])
 (.cond (.t 16)
 (.seq
 (.reg [[⟨some 17, .mv (.t 6), none⟩,
 ⟨some 4, .mv (.c (.nils)), none⟩,
 ⟨some 5, .mv (.t 17), none⟩]])
 (.ret))
 (.skip))))
 (.seq
 (.seq
 (.reg [[⟨some 18, .mv (.t 0), none⟩,
 ⟨some 19, .mv (.t 1), none⟩,
 ⟨some 20, .callF N_congr_is [.t 18, .t 19, .c (.int .i64 0)], none⟩,
 ⟨some 21, .un .not (.t 20), none⟩]])
 (.cond (.t 21)
 (.seq
 (.reg [[⟨some 4, .mv (.c (.nils)), none⟩,
 ⟨some 5, .mv (.c (.int .i64 1)), none⟩]])
 (.ret))
 (.skip)))
 (.seq
 (.reg [[⟨some 22, .mv (.t 1), none⟩,
 ⟨some 23, .callF N_congr_firsts [.t 22], none⟩,
 ⟨some 7, .mv (.t 23), none⟩]])
 (.seq
 (.reg [[⟨some 24, .mv (.t 7), none⟩,
 ⟨some 25, .lenS (.t 24), none⟩,
 ⟨some 26, .mkS [.nils] 24 (.t 25) (.t 25), none⟩,
 ⟨some 8, .mv (.t 26), none⟩]])
 (.seq
 (.seq
 (.reg [[⟨some 27, .mv (.t 7), none⟩,
 ⟨some 28, .lenS (.t 27), none⟩,
 ⟨some 29, .mv (.c (.int .i64 0)), none⟩]])
 (.block 0 (.loop (.seq
 (.reg [[⟨some 30, .bin .lss (.t 29) (.t 28), none⟩]])
 (.seq
 (.cond (.t 30)
 (.skip)
 (.exit 0))
 (.seq
 (.block 1 (.seq
 (.reg [[⟨some 31, .mv (.t 29), none⟩,
 ⟨some 32, .iAddr 1 (.t 27) (.t 29), none⟩,
 ⟨some 33, .load1 (.t 32), none⟩,
 ⟨some 9, .mv (.t 31), none⟩,
 ⟨some 10, .mv (.t 33), none⟩]])
 (.seq
 (.reg [[⟨some 34, .mv (.t 8), none⟩,
 ⟨some 35, .mv (.t 9), none⟩,
 ⟨some 36, .mv (.t 7), none⟩,
 ⟨some 37, .lenS (.t 36), none⟩,
 ⟨some 38, .mkS [.int .i64 0] 8 (.t 37) (.t 37), none⟩,
 ⟨some 39, .iAddr 1 (.t 34) (.t 35), none⟩,
 ⟨none, .store 1 (.t 39) (.t 38), none⟩]])
 (.seq
 (.reg [[⟨some 40, .mv (.t 7), none⟩,
 ⟨some 41, .lenS (.t 40), none⟩,
 ⟨some 42, .mv (.c (.int .i64 0)), none⟩]])
 (.block 2 (.loop (.seq
 (.reg [[⟨some 43, .bin .lss (.t 42) (.t 41), none⟩]])
 (.seq
 (.cond (.t 43)
 (.skip)
 (.exit 2))
 (.seq
 (.block 3 (.seq
 (.reg [[⟨some 44, .mv (.t 42), none⟩,
 ⟨some 45, .iAddr 1 (.t 40) (.t 42), none⟩,
 ⟨some 46, .load1 (.t 45), none⟩,
 ⟨some 11, .mv (.t 44), none⟩,
 ⟨some 12, .mv (.t 46), none⟩]])
 (.reg [[⟨some 47, .mv (.t 8), none⟩,
 ⟨some 48, .mv (.t 9), none⟩,
 ⟨some 49, .iAddr 1 (.t 47) (.t 48), none⟩,
 ⟨some 50, .load1 (.t 49), none⟩,
 ⟨some 51, .mv (.t 11), none⟩,
 ⟨some 52, .mv (.t 1), none⟩,
 ⟨some 53, .mv (.t 0), none⟩,
 ⟨some 54, .mv (.t 10), none⟩,
 ⟨some 55, .iAddr 1 (.t 53) (.t 54), none⟩,
 ⟨some 56, .load1 (.t 55), none⟩,
 ⟨some 57, .mv (.t 12), none⟩,
 ⟨some 58, .iAddr 1 (.t 56) (.t 57), none⟩,
 ⟨some 59, .load1 (.t 58), none⟩,
 ⟨some 60, .iAddr 1 (.t 52) (.t 59), none⟩,
 ⟨some 61, .load1 (.t 60), none⟩,
 ⟨some 62, .iAddr 1 (.t 50) (.t 51), none⟩,
 ⟨none, .store 1 (.t 62) (.t 61), none⟩]])))
 (.reg [[⟨some 63, .bin .add (.t 42) (.c (.int .i64 1)), none⟩,
 ⟨some 42, .mv (.t 63), none⟩]]))))))))))
 (.reg [[⟨some 64, .bin .add (.t 29) (.c (.int .i64 1)), none⟩,
 ⟨some 29, .mv (.t 64), none⟩]])))))))
 (.seq
 (.reg [[⟨some 65, .mv (.t 8), none⟩,
 ⟨some 4, .mv (.t 65), none⟩,
 ⟨some 5, .mv (.c (.int .i64 0)), none⟩]])
 (.ret)))))))
def f_congr_Quotient : FnC := ⟨66, [.t 4, .t 5], c_congr_Quotient⟩

def c_subdirect_meet : C :=
 .seq
 (.reg [[⟨some 6, .mv (.c (.nils)), none⟩]])
 (.seq
 (.reg [[⟨some 10, .mv (.t 0), none⟩,
 ⟨some 11, .callF N_partition_Trivial [.t 10], none⟩,
 ⟨some 7, .mv (.t 11), none⟩]])
 (.seq
 (.seq
 (.reg [[⟨some 12, .mv (.t 1), none⟩,
 ⟨some 13, .lenS (.t 12), none⟩,
 ⟨some 14, .mv (.c (.int .i64 0)), none⟩]])
 (.block 0 (.loop (.seq
 (.reg [[⟨some 15, .bin .lss (.t 14) (.t 13), none⟩]])
 (.seq
 (.cond (.t 15)
 (.skip)
 (.exit 0))
 (.seq
 (.block 1 (.seq
 (.reg [[⟨some 16, .mv (.t 14), none⟩,
 ⟨some 17, .iAddr 1 (.t 12) (.t 14), none⟩,
 ⟨some 18, .load1 (.t 17), none⟩,
 ⟨some 8, .mv (.t 16), none⟩,
 ⟨some 9, .mv (.t 18), none⟩]])
 (.seq
 (.reg [[⟨some 19, .mv (.t 8), none⟩,
 ⟨some 20, .mv (.t 2), none⟩,
 ⟨some 21, .bin .neq (.t 19) (.t 20), none⟩]])
 (.cond (.t 21)
 (.reg [[⟨some 22, .mv (.t 7), none⟩,
 ⟨some 23, .mv (.t 9), none⟩,
 ⟨some 24, .callF N_partition_Meet [.t 22, .t 23], none⟩,
 ⟨some 7, .mv (.t 24), none⟩]])
 (.skip)))))
 (.reg [[⟨some 25, .bin .add (.t 14) (.c (.int .i64 1)), none⟩,
 ⟨some 14, .mv (.t 25), none⟩]])))))))
 (.seq
 (.reg [[⟨some 26, .mv (.t 7), none⟩,
 ⟨some 6, .mv (.t 26), none⟩]])
 (.ret))))
def f_subdirect_meet : FnC := ⟨27, [.t 6], c_subdirect_meet⟩

def c_subdirect_Check : C :=
 .seq
 (.reg [[⟨some 4, .mv (.c (.bool false)), none⟩]])
 (.seq
 (.seq
 (.reg [[⟨some 10, .mv (.t 0), none⟩,
 ⟨some 11, .callF N_mult_Validate [.t 10], none⟩,
 ⟨some 12, .bin .neq (.t 11) (.c (.int .i64 0)), none⟩]])
 (.cond (.t 12)
 (.seq
 (.reg [[⟨some 4, .mv (.c (.bool false)), none⟩]])
 (.ret))
 (.skip)))
 (.seq
 (.seq
 (.reg [[⟨some 13, .mv (.t 1), none⟩,
 ⟨some 14, .lenS (.t 13), none⟩,
 ⟨some 15, .mv (.c (.int .i64 0)), none⟩]])
 (.block 0 (.loop (.seq
 (.reg [[⟨some 16, .bin .lss (.t 15) (.t 14), none⟩]])
 (.seq
 (.cond (.t 16)
 (.skip)
 (.exit 0))
 (.seq
 (.block 1 (.seq
 (.reg [[⟨some 17, .iAddr 1 (.t 13) (.t 15), none⟩,
 ⟨some 18, .load1 (.t 17), none⟩,
 ⟨some 6, .mv (.t 18), none⟩]])
 (.seq
 (.reg [[⟨some 20, .mv (.t 0), none⟩,
 ⟨some 21, .mv (.t 6), none⟩,
 ⟨some 22, .callF N_congr_Quotient [.t 20, .t 21], none⟩,
 ⟨some 19, .mv (.t 22), none⟩,
 ⟨some 23, .ext 0 (.t 19), none⟩,
 ⟨some 24, .ext 1 (.t 19), none⟩,
 ⟨some 7, .mv (.t 23), none⟩,
 ⟨some 8, .mv (.t 24), none⟩]])
 (.seq
 (.reg [[⟨some 25, .mv (.t 8), none⟩,
 ⟨some 26, .bin .neq (.t 25) (.c (.int .i64 0)), none⟩,
 ⟨some 27, .mv (.t 26), none⟩,
 ⟨some 28, .mv (.t 7), some (some 27, false)⟩,
 ⟨some 29, .callF N_subdirect_monolith [.t 28], some (some 27, false)⟩,
 ⟨some 30, .eqv .sl false (.t 29) (.c (.nils)), some (some 27, false)⟩,
 ⟨some 31, .pick (.t 27) (.c (.bool true)) (.t 30), none⟩]])
 (.cond (.t 31)
 (.seq
 (.reg [[⟨some 4, .mv (.c (.bool false)), none⟩]])
 (.ret))
 (.skip))))))
 (.reg [[⟨some 32, .bin .add (.t 15) (.c (.int .i64 1)), none⟩,
 ⟨some 15, .mv (.t 32), none⟩]])))))))
 (.seq
 (.seq
 (.reg [[⟨some 33, .mv (.t 0), none⟩,
 ⟨some 34, .lenS (.t 33), none⟩,
 ⟨some 35, .mv (.t 1), none⟩,
 ⟨some 36, .callF N_subdirect_meet [.t 34, .t 35, .c (.int .i64 (-1))], none⟩,
 ⟨some 37, .callF N_subdirect_discrete [.t 36], none⟩,
 ⟨some 38, .un .not (.t 37), none⟩]])
 (.cond (.t 38)
 (.seq
 (.reg [[⟨some 4, .mv (.c (.bool false)), none⟩]])
 (.ret))
 (.skip)))
 (.seq
 (.seq
 (.reg [[⟨some 39, .mv (.t 1), none⟩,
 ⟨some 40, .lenS (.t 39), none⟩,
 ⟨some 41, .mv (.c (.int .i64 0)), none⟩]])
 (.block 2 (.loop (.seq
 (.reg [[⟨some 42, .bin .lss (.t 41) (.t 40), none⟩]])
 (.seq
 (.cond (.t 42)
 (.skip)
 (.exit 2))
 (.seq
 (.block 3 (.seq
 (.reg [[⟨some 43, .mv (.t 41), none⟩,
 ⟨some 9, .mv (.t 43), none⟩]])
 (.seq
 (.reg [[⟨some 44, .mv (.t 0), none⟩,
 ⟨some 45, .lenS (.t 44), none⟩,
 ⟨some 46, .mv (.t 1), none⟩,
 ⟨some 47, .mv (.t 9), none⟩,
 ⟨some 48, .callF N_subdirect_meet [.t 45, .t 46, .t 47], none⟩,
 ⟨some 49, .callF N_subdirect_discrete [.t 48], none⟩]])
 (.cond (.t 49)
 (.seq
 (.reg [[⟨some 4, .mv (.c (.bool false)), none⟩]])
 (.ret))
 (.skip)))))
 (.reg [[⟨some 50, .bin .add (.t 41) (.c (.int .i64 1)), none⟩,
 ⟨some 41, .mv (.t 50), none⟩]])))))))
 (.seq
 (.reg [[⟨some 4, .mv (.c (.bool true)), none⟩]])
 (.ret))))))
def f_subdirect_Check : FnC := ⟨51, [.t 4], c_subdirect_Check⟩

def c_semigrouplaw22_klein : C :=
 .seq
 (.reg [[⟨some 0, .mv (.c (.nils)), none⟩]])
 (.seq
 (.reg [[⟨some 1, .lit [.int .i64 0, .int .i64 0, .int .i64 0, .int .i64 0] 1 4 [(0, 1, .c (.int .i64 0)), (1, 1, .c (.int .i64 1)), (2, 1, .c (.int .i64 2)), (3, 1, .c (.int .i64 3))], none⟩,
 ⟨some 2, .lit [.int .i64 0, .int .i64 0, .int .i64 0, .int .i64 0] 1 4 [(0, 1, .c (.int .i64 1)), (1, 1, .c (.int .i64 0)), (2, 1, .c (.int .i64 3)), (3, 1, .c (.int .i64 2))], none⟩,
 ⟨some 3, .lit [.int .i64 0, .int .i64 0, .int .i64 0, .int .i64 0] 1 4 [(0, 1, .c (.int .i64 2)), (1, 1, .c (.int .i64 3)), (2, 1, .c (.int .i64 0)), (3, 1, .c (.int .i64 1))], none⟩,
 ⟨some 4, .lit [.int .i64 0, .int .i64 0, .int .i64 0, .int .i64 0] 1 4 [(0, 1, .c (.int .i64 3)), (1, 1, .c (.int .i64 2)), (2, 1, .c (.int .i64 1)), (3, 1, .c (.int .i64 0))], none⟩,
 ⟨some 5, .lit [.nils, .nils, .nils, .nils] 1 4 [(0, 1, .t 1), (1, 1, .t 2), (2, 1, .t 3), (3, 1, .t 4)], none⟩,
 ⟨some 0, .mv (.t 5), none⟩]])
 (.ret))
def f_semigrouplaw22_klein : FnC := ⟨6, [.t 0], c_semigrouplaw22_klein⟩

def c_semigrouplaw22_awake : C :=
 .seq
 (.reg [[⟨some 0, .mv (.c (.bool false)), none⟩]])
 (.seq
 (.reg [[⟨some 6, .callF N_semigrouplaw22_klein [], none⟩,
 ⟨some 7, .callF N_subdirect_Irreducible [.t 6], none⟩,
 ⟨some 5, .mv (.t 7), none⟩,
 ⟨some 8, .ext 0 (.t 5), none⟩,
 ⟨some 9, .ext 1 (.t 5), none⟩,
 ⟨some 1, .mv (.t 8), none⟩,
 ⟨some 2, .mv (.t 9), none⟩]])
 (.seq
 (.reg [[⟨some 11, .lit [.int .i64 0, .int .i64 0] 1 2 [(0, 1, .c (.int .i64 0)), (1, 1, .c (.int .i64 1))], none⟩,
 ⟨some 12, .lit [.int .i64 0, .int .i64 0] 1 2 [(0, 1, .c (.int .i64 1)), (1, 1, .c (.int .i64 0))], none⟩,
 ⟨some 13, .lit [.nils, .nils] 1 2 [(0, 1, .t 11), (1, 1, .t 12)], none⟩,
 ⟨some 14, .callF N_subdirect_Irreducible [.t 13], none⟩,
 ⟨some 10, .mv (.t 14), none⟩,
 ⟨some 15, .ext 0 (.t 10), none⟩,
 ⟨some 16, .ext 1 (.t 10), none⟩,
 ⟨some 3, .mv (.t 15), none⟩,
 ⟨some 4, .mv (.t 16), none⟩]])
 (.seq
 (.reg [[⟨some 17, .mv (.t 2), none⟩,
 ⟨some 18, .un .not (.t 17), none⟩,
 ⟨some 19, .mv (.t 18), none⟩,
 ⟨some 20, .mv (.t 4), some (some 19, true)⟩,
 ⟨some 21, .pick (.t 19) (.t 20) (.c (.bool false)), none⟩,
 ⟨some 22, .mv (.t 21), none⟩,
 ⟨some 23, .callF N_semigrouplaw22_klein [], some (some 22, true)⟩,
 ⟨some 24, .lit [.int .i64 0, .int .i64 0, .int .i64 0, .int .i64 0] 1 4 [(0, 1, .c (.int .i64 0)), (1, 1, .c (.int .i64 0)), (2, 1, .c (.int .i64 1)), (3, 1, .c (.int .i64 1))], some (some 22, true)⟩,
 ⟨some 25, .lit [.int .i64 0, .int .i64 0, .int .i64 0, .int .i64 0] 1 4 [(0, 1, .c (.int .i64 0)), (1, 1, .c (.int .i64 1)), (2, 1, .c (.int .i64 0)), (3, 1, .c (.int .i64 1))], some (some 22, true)⟩,
 ⟨some 26, .lit [.nils, .nils] 1 2 [(0, 1, .t 24), (1, 1, .t 25)], some (some 22, true)⟩,
 ⟨some 27, .callF N_subdirect_Check [.t 23, .t 26], some (some 22, true)⟩,
 ⟨some 28, .pick (.t 22) (.t 27) (.c (.bool false)), none⟩,
 ⟨some 0, .mv (.t 28), none⟩]])
 (.ret))))
def f_semigrouplaw22_awake : FnC := ⟨29, [.t 0], c_semigrouplaw22_awake⟩

def c_semigroupref14_Associative : C :=
 .seq
 (.reg [[⟨some 2, .mv (.c (.int .i64 0)), none⟩,
 ⟨some 3, .mv (.c (.int .i64 0)), none⟩,
 ⟨some 4, .mv (.c (.int .i64 0)), none⟩,
 ⟨some 5, .mv (.c (.int .i64 0)), none⟩]])
 (.seq
 (.seq
 (.reg [[⟨some 10, .mv (.t 0), none⟩,
 ⟨some 11, .callF N_semigroupref14_Shape [.t 10], none⟩,
 ⟨some 6, .mv (.t 11), none⟩]])
 (.seq
 (.reg [[⟨some 12, .mv (.t 6), none⟩,
 ⟨some 13, .bin .neq (.t 12) (.c (.int .i64 0)), none⟩]])
 (.cond (.t 13)
 (.seq
 (.reg [[⟨some 14, .mv (.t 6), none⟩,
 ⟨some 2, .mv (.c (.int .i64 0)), none⟩,
 ⟨some 3, .mv (.c (.int .i64 0)), none⟩,
 ⟨some 4, .mv (.c (.int .i64 0)), none⟩,
 ⟨some 5, .mv (.t 14), none⟩]])
 (.ret))
 (.skip))))
 (.seq
 (.seq
 (.reg [[⟨some 15, .mv (.t 0), none⟩,
 ⟨some 16, .lenS (.t 15), none⟩,
 ⟨some 17, .mv (.c (.int .i64 0)), none⟩]])
 (.block 0 (.loop (.seq
 (.reg [[⟨some 18, .bin .lss (.t 17) (.t 16), none⟩]])
 (.seq
 (.cond (.t 18)
 (.skip)
 (.exit 0))
 (.seq
 (.block 1 (.seq
 (.reg [[⟨some 19, .mv (.t 17), none⟩,
 ⟨some 7, .mv (.t 19), none⟩]])
 (.seq
 (.reg [[⟨some 20, .mv (.t 0), none⟩,
 ⟨some 21, .lenS (.t 20), none⟩,
 ⟨some 22, .mv (.c (.int .i64 0)), none⟩]])
 (.block 2 (.loop (.seq
 (.reg [[⟨some 23, .bin .lss (.t 22) (.t 21), none⟩]])
 (.seq
 (.cond (.t 23)
 (.skip)
 (.exit 2))
 (.seq
 (.block 3 (.seq
 (.reg [[⟨some 24, .mv (.t 22), none⟩,
 ⟨some 8, .mv (.t 24), none⟩]])
 (.seq
 (.reg [[⟨some 25, .mv (.t 0), none⟩,
 ⟨some 26, .lenS (.t 25), none⟩,
 ⟨some 27, .mv (.c (.int .i64 0)), none⟩]])
 (.block 4 (.loop (.seq
 (.reg [[⟨some 28, .bin .lss (.t 27) (.t 26), none⟩]])
 (.seq
 (.cond (.t 28)
 (.skip)
 (.exit 4))
 (.seq
 (.block 5 (.seq
 (.reg [[⟨some 29, .mv (.t 27), none⟩,
 ⟨some 9, .mv (.t 29), none⟩]])
 (.seq
 (.reg [[⟨some 30, .mv (.t 0), none⟩,
 ⟨some 31, .mv (.t 0), none⟩,
 ⟨some 32, .mv (.t 7), none⟩,
 ⟨some 33, .iAddr 1 (.t 31) (.t 32), none⟩,
 ⟨some 34, .load1 (.t 33), none⟩,
 ⟨some 35, .mv (.t 8), none⟩,
 ⟨some 36, .iAddr 1 (.t 34) (.t 35), none⟩,
 ⟨some 37, .load1 (.t 36), none⟩,
 ⟨some 38, .iAddr 1 (.t 30) (.t 37), none⟩,
 ⟨some 39, .load1 (.t 38), none⟩,
 ⟨some 40, .mv (.t 9), none⟩,
 ⟨some 41, .iAddr 1 (.t 39) (.t 40), none⟩,
 ⟨some 42, .load1 (.t 41), none⟩,
 ⟨some 43, .mv (.t 0), none⟩,
 ⟨some 44, .mv (.t 7), none⟩,
 ⟨some 45, .iAddr 1 (.t 43) (.t 44), none⟩,
 ⟨some 46, .load1 (.t 45), none⟩,
 ⟨some 47, .mv (.t 0), none⟩,
 ⟨some 48, .mv (.t 8), none⟩,
 ⟨some 49, .iAddr 1 (.t 47) (.t 48), none⟩,
 ⟨some 50, .load1 (.t 49), none⟩,
 ⟨some 51, .mv (.t 9), none⟩,
 ⟨some 52, .iAddr 1 (.t 50) (.t 51), none⟩,
 ⟨some 53, .load1 (.t 52), none⟩,
 ⟨some 54, .iAddr 1 (.t 46) (.t 53), none⟩,
 ⟨some 55, .load1 (.t 54), none⟩,
 ⟨some 56, .bin .neq (.t 42) (.t 55), none⟩]])
 (.cond (.t 56)
 (.seq
 (.reg [[⟨some 57, .mv (.t 7), none⟩,
 ⟨some 58, .mv (.t 8), none⟩,
 ⟨some 59, .mv (.t 9), none⟩,
 ⟨some 2, .mv (.t 57), none⟩,
 ⟨some 3, .mv (.t 58), none⟩,
 ⟨some 4, .mv (.t 59), none⟩,
 ⟨some 5, .mv (.c (.int .i64 5)), none⟩]])
 (.ret))
 (.skip)))))
 (.reg [[⟨some 60, .bin .add (.t 27) (.c (.int .i64 1)), none⟩,
 ⟨some 27, .mv (.t 60), none⟩]])))))))))
 (.reg [[⟨some 61, .bin .add (.t 22) (.c (.int .i64 1)), none⟩,
 ⟨some 22, .mv (.t 61), none⟩]])))))))))
 (.reg [[⟨some 62, .bin .add (.t 17) (.c (.int .i64 1)), none⟩,
 ⟨some 17, .mv (.t 62), none⟩]])))))))
 (.seq
 (.reg [[⟨some 2, .mv (.c (.int .i64 0)), none⟩,
 ⟨some 3, .mv (.c (.int .i64 0)), none⟩,
 ⟨some 4, .mv (.c (.int .i64 0)), none⟩,
 ⟨some 5, .mv (.c (.int .i64 0)), none⟩]])
 (.ret))))
def f_semigroupref14_Associative : FnC := ⟨63, [.t 2, .t 3, .t 4, .t 5], c_semigroupref14_Associative⟩

def c_semigroupref14_Validate : C :=
 .seq
 (.reg [[⟨some 2, .mv (.c (.int .i64 0)), none⟩]])
 (.seq
 (.reg [[⟨some 8, .mv (.t 0), none⟩,
 ⟨some 9, .callF N_semigroupref14_Associative [.t 8], none⟩,
 ⟨some 7, .mv (.t 9), none⟩,
 ⟨some 10, .ext 0 (.t 7), none⟩,
 ⟨some 11, .ext 1 (.t 7), none⟩,
 ⟨some 12, .ext 2 (.t 7), none⟩,
 ⟨some 13, .ext 3 (.t 7), none⟩,
 ⟨some 3, .mv (.t 10), none⟩,
 ⟨some 4, .mv (.t 11), none⟩,
 ⟨some 5, .mv (.t 12), none⟩,
 ⟨some 6, .mv (.t 13), none⟩]])
 (.seq
 (.reg [[⟨some 14, .mv (.t 6), none⟩,
 ⟨some 2, .mv (.t 14), none⟩]])
 (.ret)))
def f_semigroupref14_Validate : FnC := ⟨15, [.t 2], c_semigroupref14_Validate⟩

def c_semigroupref14_Valid : C :=
 .seq
 (.reg [[⟨some 2, .mv (.c (.bool false)), none⟩]])
 (.seq
 (.reg [[⟨some 3, .mv (.t 0), none⟩,
 ⟨some 4, .callF N_semigroupref14_Validate [.t 3], none⟩,
 ⟨some 5, .bin .eql (.t 4) (.c (.int .i64 0)), none⟩,
 ⟨some 2, .mv (.t 5), none⟩]])
 (.ret))
def f_semigroupref14_Valid : FnC := ⟨6, [.t 2], c_semigroupref14_Valid⟩

def c_semigroupref03_Same : C :=
 .seq
 (.reg [[⟨some 4, .mv (.c (.bool false)), none⟩]])
 (.seq
 (.seq
 (.reg [[⟨some 6, .mv (.t 0), none⟩,
 ⟨some 7, .lenS (.t 6), none⟩,
 ⟨some 8, .mv (.t 1), none⟩,
 ⟨some 9, .lenS (.t 8), none⟩,
 ⟨some 10, .bin .neq (.t 7) (.t 9), none⟩]])
 (.cond (.t 10)
 (.seq
 (.reg [[⟨some 4, .mv (.c (.bool false)), none⟩]])
 (.ret))
 (.skip)))
 (.seq
 (.seq
 (.reg [[⟨some 11, .mv (.t 0), none⟩,
 ⟨some 12, .lenS (.t 11), none⟩,
 ⟨some 13, .mv (.c (.int .i64 0)), none⟩]])
 (.block 0 (.loop (.seq
 (.reg [[⟨some 14, .bin .lss (.t 13) (.t 12), none⟩]])
 (.seq
 (.cond (.t 14)
 (.skip)
 (.exit 0))
 (.seq
 (.block 1 (.seq
 (.reg [[⟨some 15, .mv (.t 13), none⟩,
 ⟨some 5, .mv (.t 15), none⟩]])
 (.seq
 (.reg [[⟨some 16, .mv (.t 0), none⟩,
 ⟨some 17, .mv (.t 5), none⟩,
 ⟨some 18, .iAddr 1 (.t 16) (.t 17), none⟩,
 ⟨some 19, .load1 (.t 18), none⟩,
 ⟨some 20, .mv (.t 1), none⟩,
 ⟨some 21, .mv (.t 5), none⟩,
 ⟨some 22, .iAddr 1 (.t 20) (.t 21), none⟩,
 ⟨some 23, .load1 (.t 22), none⟩,
 ⟨some 24, .bin .neq (.t 19) (.t 23), none⟩]])
 (.cond (.t 24)
 (.seq
 (.reg [[⟨some 4, .mv (.c (.bool false)), none⟩]])
 (.ret))
 (.skip)))))
 (.reg [[⟨some 25, .bin .add (.t 13) (.c (.int .i64 1)), none⟩,
 ⟨some 13, .mv (.t 25), none⟩]])))))))
 (.seq
 (.reg [[⟨some 4, .mv (.c (.bool true)), none⟩]])
 (.ret))))
def f_semigroupref03_Same : FnC := ⟨26, [.t 4], c_semigroupref03_Same⟩

def c_semigroupref03_Less : C :=
 .seq
 (.reg [[⟨some 4, .mv (.c (.bool false)), none⟩]])
 (.seq
 (.seq
 (.reg [[⟨some 5, .mv (.c (.int .i64 0)), none⟩]])
 (.block 0 (.loop (.seq
 (.seq
 (.reg [[⟨some 6, .mv (.t 5), none⟩,
 ⟨some 7, .mv (.t 0), none⟩,
 ⟨some 8, .lenS (.t 7), none⟩,
 ⟨some 9, .bin .lss (.t 6) (.t 8), none⟩,
 ⟨some 10, .mv (.t 9), none⟩,
 ⟨some 11, .mv (.t 5), some (some 10, true)⟩,
 ⟨some 12, .mv (.t 1), some (some 10, true)⟩,
 ⟨some 13, .lenS (.t 12), some (some 10, true)⟩,
 ⟨some 14, .bin .lss (.t 11) (.t 13), some (some 10, true)⟩,
 ⟨some 15, .pick (.t 10) (.t 14) (.c (.bool false)), none⟩]])
 (.cond (.t 15)
 (.skip)
 (.exit 0)))
 (.seq
 (.block 1 (.seq
 (.reg [[⟨some 18, .mv (.t 0), none⟩,
 ⟨some 19, .mv (.t 5), none⟩,
 ⟨some 20, .iAddr 1 (.t 18) (.t 19), none⟩,
 ⟨some 21, .load1 (.t 20), none⟩,
 ⟨some 22, .mv (.t 1), none⟩,
 ⟨some 23, .mv (.t 5), none⟩,
 ⟨some 24, .iAddr 1 (.t 22) (.t 23), none⟩,
 ⟨some 25, .load1 (.t 24), none⟩,
 ⟨some 26, .bin .neq (.t 21) (.t 25), none⟩]])
 (.cond (.t 26)
 (.seq
 (.reg [[⟨some 27, .mv (.t 0), none⟩,
 ⟨some 28, .mv (.t 5), none⟩,
 ⟨some 29, .iAddr 1 (.t 27) (.t 28), none⟩,
 ⟨some 30, .load1 (.t 29), none⟩,
 ⟨some 31, .mv (.t 1), none⟩,
 ⟨some 32, .mv (.t 5), none⟩,
 ⟨some 33, .iAddr 1 (.t 31) (.t 32), none⟩,
 ⟨some 34, .load1 (.t 33), none⟩,
 ⟨some 35, .bin .lss (.t 30) (.t 34), none⟩,
 ⟨some 4, .mv (.t 35), none⟩]])
 (.ret))
 (.skip))))
 (.reg [[⟨some 16, .mv (.t 5), none⟩,
 ⟨some 17, .bin .add (.t 16) (.c (.int .i64 1)), none⟩,
 ⟨some 5, .mv (.t 17), none⟩]]))))))
 (.seq
 (.reg [[⟨some 36, .mv (.t 0), none⟩,
 ⟨some 37, .lenS (.t 36), none⟩,
 ⟨some 38, .mv (.t 1), none⟩,
 ⟨some 39, .lenS (.t 38), none⟩,
 ⟨some 40, .bin .lss (.t 37) (.t 39), none⟩,
 ⟨some 4, .mv (.t 40), none⟩]])
 (.ret)))
def f_semigroupref03_Less : FnC := ⟨41, [.t 4], c_semigroupref03_Less⟩

def c_semigroupref03_InsertRow : C :=
 .seq
 (.reg [[⟨some 4, .mv (.c (.nils)), none⟩]])
 (.seq
 (.reg [[⟨some 6, .mv (.t 0), none⟩,
 ⟨some 7, .lenS (.t 6), none⟩,
 ⟨some 5, .mv (.t 7), none⟩]])
 (.seq
 (.block 0 (.loop (.seq
 (.seq
 (.reg [[⟨some 8, .mv (.t 5), none⟩,
 ⟨some 9, .bin .gtr (.t 8) (.c (.int .i64 0)), none⟩,
 ⟨some 10, .mv (.t 9), none⟩,
 ⟨some 11, .mv (.t 1), some (some 10, true)⟩,
 ⟨some 12, .mv (.t 0), some (some 10, true)⟩,
 ⟨some 13, .mv (.t 5), some (some 10, true)⟩,
 ⟨some 14, .bin .sub (.t 13) (.c (.int .i64 1)), some (some 10, true)⟩,
 ⟨some 15, .iAddr 1 (.t 12) (.t 14), some (some 10, true)⟩,
 ⟨some 16, .load1 (.t 15), some (some 10, true)⟩,
 ⟨some 17, .callF N_semigroupref03_Less [.t 11, .t 16], some (some 10, true)⟩,
 ⟨some 18, .pick (.t 10) (.t 17) (.c (.bool false)), none⟩]])
 (.cond (.t 18)
 (.skip)
 (.exit 0)))
 (.block 1 (.reg [[⟨some 19, .mv (.t 5), none⟩,
 ⟨some 20, .bin .sub (.t 19) (.c (.int .i64 1)), none⟩,
 ⟨some 5, .mv (.t 20), none⟩]])))))
 (.seq
 (.seq
 (.reg [[⟨some 21, .mv (.t 5), none⟩,
 ⟨some 22, .bin .gtr (.t 21) (.c (.int .i64 0)), none⟩,
 ⟨some 23, .mv (.t 22), none⟩,
 ⟨some 24, .mv (.t 0), some (some 23, true)⟩,
 ⟨some 25, .mv (.t 5), some (some 23, true)⟩,
 ⟨some 26, .bin .sub (.t 25) (.c (.int .i64 1)), some (some 23, true)⟩,
 ⟨some 27, .iAddr 1 (.t 24) (.t 26), some (some 23, true)⟩,
 ⟨some 28, .load1 (.t 27), some (some 23, true)⟩,
 ⟨some 29, .mv (.t 1), some (some 23, true)⟩,
 ⟨some 30, .callF N_semigroupref03_Same [.t 28, .t 29], some (some 23, true)⟩,
 ⟨some 31, .pick (.t 23) (.t 30) (.c (.bool false)), none⟩]])
 (.cond (.t 31)
 (.seq
 (.reg [[⟨some 32, .mv (.t 0), none⟩,
 ⟨some 4, .mv (.t 32), none⟩]])
 (.ret))
 (.skip)))
 (.seq
 (.reg [[⟨some 33, .lit [] 1 0 [], none⟩,
 ⟨some 34, .mv (.t 0), none⟩,
 ⟨some 35, .mv (.t 5), none⟩,
 ⟨some 36, .slS 1 (.t 34) none (some (.t 35)) none, none⟩,
 ⟨some 37, .app [.nils] 24 (.t 33) (.t 36), none⟩,
 ⟨some 38, .mv (.t 1), none⟩,
 ⟨some 39, .lit [.nils] 1 1 [(0, 1, .t 38)], none⟩,
 ⟨some 40, .app [.nils] 24 (.t 37) (.t 39), none⟩,
 ⟨some 41, .mv (.t 0), none⟩,
 ⟨some 42, .mv (.t 5), none⟩,
 ⟨some 43, .slS 1 (.t 41) (some (.t 42)) none none, none⟩,
 ⟨some 44, .app [.nils] 24 (.t 40) (.t 43), none⟩,
 ⟨some 4, .mv (.t 44), none⟩],
 [⟨some 33, .lit [] 1 0 [], none⟩,
 ⟨some 34, .mv (.t 0), none⟩,
 ⟨some 35, .mv (.t 5), none⟩,
 ⟨some 36, .slS 1 (.t 34) none (some (.t 35)) none, none⟩,
 ⟨some 38, .mv (.t 1), none⟩,
 ⟨some 39, .lit [.nils] 1 1 [(0, 1, .t 38)], none⟩,
 ⟨some 37, .app [.nils] 24 (.t 33) (.t 36), none⟩,
 ⟨some 40, .app [.nils] 24 (.t 37) (.t 39), none⟩,
 ⟨some 41, .mv (.t 0), none⟩,
 ⟨some 42, .mv (.t 5), none⟩,
 ⟨some 43, .slS 1 (.t 41) (some (.t 42)) none none, none⟩,
 ⟨some 44, .app [.nils] 24 (.t 40) (.t 43), none⟩,
 ⟨some 4, .mv (.t 44), none⟩],
 [⟨some 34, .mv (.t 0), none⟩,
 ⟨some 35, .mv (.t 5), none⟩,
 ⟨some 36, .slS 1 (.t 34) none (some (.t 35)) none, none⟩,
 ⟨some 38, .mv (.t 1), none⟩,
 ⟨some 39, .lit [.nils] 1 1 [(0, 1, .t 38)], none⟩,
 ⟨some 33, .lit [] 1 0 [], none⟩,
 ⟨some 37, .app [.nils] 24 (.t 33) (.t 36), none⟩,
 ⟨some 40, .app [.nils] 24 (.t 37) (.t 39), none⟩,
 ⟨some 41, .mv (.t 0), none⟩,
 ⟨some 42, .mv (.t 5), none⟩,
 ⟨some 43, .slS 1 (.t 41) (some (.t 42)) none none, none⟩,
 ⟨some 44, .app [.nils] 24 (.t 40) (.t 43), none⟩,
 ⟨some 4, .mv (.t 44), none⟩]])
 (.ret)))))
def f_semigroupref03_InsertRow : FnC := ⟨45, [.t 4], c_semigroupref03_InsertRow⟩

def c_semigroupref03_Canonical : C :=
 .seq
 (.reg [[⟨some 2, .mv (.c (.nils)), none⟩]])
 (.seq
 (.seq
 (.reg [[⟨some 10, .mv (.t 0), none⟩,
 ⟨some 11, .lenS (.t 10), none⟩,
 ⟨some 12, .bin .gtr (.t 11) (.c (.int .i64 4096)), none⟩]])
 (.cond (.t 12)
 (.seq
 (.reg [[⟨some 2, .mv (.c (.nils)), none⟩]])
 (.ret))
 (.skip)))
 (.seq
 (.reg [[⟨some 13, .mv (.t 0), none⟩,
 ⟨some 14, .lenS (.t 13), none⟩,
 ⟨some 15, .mkS [.int .i64 0] 8 (.t 14) (.t 14), none⟩,
 ⟨some 3, .mv (.t 15), none⟩]])
 (.seq
 (.reg [[⟨some 4, .mv (.c (.int .i64 0)), none⟩]])
 (.seq
 (.reg [[⟨some 16, .mkM, none⟩,
 ⟨some 5, .mv (.t 16), none⟩]])
 (.seq
 (.seq
 (.reg [[⟨some 17, .mv (.t 0), none⟩,
 ⟨some 18, .lenS (.t 17), none⟩,
 ⟨some 19, .mv (.c (.int .i64 0)), none⟩]])
 (.block 0 (.loop (.seq
 (.reg [[⟨some 20, .bin .lss (.t 19) (.t 18), none⟩]])
 (.seq
 (.cond (.t 20)
 (.skip)
 (.exit 0))
 (.seq
 (.block 1 (.seq
 (.reg [[⟨some 21, .mv (.t 19), none⟩,
 ⟨some 22, .iAddr 1 (.t 17) (.t 19), none⟩,
 ⟨some 23, .load1 (.t 22), none⟩,
 ⟨some 6, .mv (.t 21), none⟩,
 ⟨some 7, .mv (.t 23), none⟩]])
 (.seq
 (.reg [[⟨some 25, .mv (.t 5), none⟩,
 ⟨some 26, .mv (.t 7), none⟩,
 ⟨some 27, .look .int (.int .i64 0) true (.t 25) (.t 26), none⟩,
 ⟨some 24, .mv (.t 27), none⟩,
 ⟨some 28, .ext 0 (.t 24), none⟩,
 ⟨some 29, .ext 1 (.t 24), none⟩,
 ⟨some 8, .mv (.t 28), none⟩,
 ⟨some 9, .mv (.t 29), none⟩]])
 (.seq
 (.seq
 (.reg [[⟨some 30, .mv (.t 9), none⟩,
 ⟨some 31, .un .not (.t 30), none⟩]])
 (.cond (.t 31)
 (.seq
 (.reg [[⟨some 32, .mv (.t 4), none⟩,
 ⟨some 8, .mv (.t 32), none⟩]])
 (.seq
 (.reg [[⟨some 33, .mv (.t 5), none⟩,
 ⟨some 34, .mv (.t 7), none⟩,
 ⟨some 35, .mv (.t 8), none⟩,
 ⟨none, .mset .int (.t 33) (.t 34) (.t 35), none⟩]])
 (.reg [[⟨some 36, .mv (.t 4), none⟩,
 ⟨some 37, .bin .add (.t 36) (.c (.int .i64 1)), none⟩,
 ⟨some 4, .mv (.t 37), none⟩]])))
 (.skip)))
 (.reg [[⟨some 38, .mv (.t 3), none⟩,
 ⟨some 39, .mv (.t 6), none⟩,
 ⟨some 40, .mv (.t 8), none⟩,
 ⟨some 41, .iAddr 1 (.t 38) (.t 39), none⟩,
 ⟨none, .store 1 (.t 41) (.t 40), none⟩]])))))
 (.reg [[⟨some 42, .bin .add (.t 19) (.c (.int .i64 1)), none⟩,
 ⟨some 19, .mv (.t 42), none⟩]])))))))
 (.seq
 (.reg [[⟨some 43, .mv (.t 3), none⟩,
 ⟨some 2, .mv (.t 43), none⟩]])
 (.ret)))))))
def f_semigroupref03_Canonical : FnC := ⟨44, [.t 2], c_semigroupref03_Canonical⟩

def c_semigroupref03_Merge : C :=
 .seq
 (.reg [[⟨some 9, .mv (.t 0), none⟩,
 ⟨some 10, .mv (.t 1), none⟩,
 ⟨some 11, .iAddr 1 (.t 9) (.t 10), none⟩,
 ⟨some 12, .load1 (.t 11), none⟩,
 ⟨some 13, .mv (.t 0), none⟩,
 ⟨some 14, .mv (.t 2), none⟩,
 ⟨some 15, .iAddr 1 (.t 13) (.t 14), none⟩,
 ⟨some 16, .load1 (.t 15), none⟩,
 ⟨some 6, .mv (.t 12), none⟩,
 ⟨some 7, .mv (.t 16), none⟩]])
 (.seq
 (.reg [[⟨some 17, .mv (.t 0), none⟩,
 ⟨some 18, .lenS (.t 17), none⟩,
 ⟨some 19, .mv (.c (.int .i64 0)), none⟩]])
 (.block 0 (.loop (.seq
 (.reg [[⟨some 20, .bin .lss (.t 19) (.t 18), none⟩]])
 (.seq
 (.cond (.t 20)
 (.skip)
 (.exit 0))
 (.seq
 (.block 1 (.seq
 (.reg [[⟨some 21, .mv (.t 19), none⟩,
 ⟨some 8, .mv (.t 21), none⟩]])
 (.seq
 (.reg [[⟨some 22, .mv (.t 0), none⟩,
 ⟨some 23, .mv (.t 8), none⟩,
 ⟨some 24, .iAddr 1 (.t 22) (.t 23), none⟩,
 ⟨some 25, .load1 (.t 24), none⟩,
 ⟨some 26, .mv (.t 7), none⟩,
 ⟨some 27, .bin .eql (.t 25) (.t 26), none⟩]])
 (.cond (.t 27)
 (.reg [[⟨some 28, .mv (.t 0), none⟩,
 ⟨some 29, .mv (.t 8), none⟩,
 ⟨some 30, .mv (.t 6), none⟩,
 ⟨some 31, .iAddr 1 (.t 28) (.t 29), none⟩,
 ⟨none, .store 1 (.t 31) (.t 30), none⟩]])
 (.skip)))))
 (.reg [[⟨some 32, .bin .add (.t 19) (.c (.int .i64 1)), none⟩,
 ⟨some 19, .mv (.t 32), none⟩]])))))))
def f_semigroupref03_Merge : FnC := ⟨33, [], c_semigroupref03_Merge⟩

def c_semigroupref03_Discrete : C :=
 .seq
 (.reg [[⟨some 2, .mv (.c (.nils)), none⟩]])
 (.seq
 (.reg [[⟨some 5, .mv (.t 0), none⟩,
 ⟨some 6, .mkS [.int .i64 0] 8 (.t 5) (.t 5), none⟩,
 ⟨some 3, .mv (.t 6), none⟩]])
 (.seq
 (.seq
 (.reg [[⟨some 7, .mv (.t 3), none⟩,
 ⟨some 8, .lenS (.t 7), none⟩,
 ⟨some 9, .mv (.c (.int .i64 0)), none⟩]])
 (.block 0 (.loop (.seq
 (.reg [[⟨some 10, .bin .lss (.t 9) (.t 8), none⟩]])
 (.seq
 (.cond (.t 10)
 (.skip)
 (.exit 0))
 (.seq
 (.block 1 (.seq
 (.reg [[⟨some 11, .mv (.t 9), none⟩,
 ⟨some 4, .mv (.t 11), none⟩]])
 (.reg [[⟨some 12, .mv (.t 3), none⟩,
 ⟨some 13, .mv (.t 4), none⟩,
 ⟨some 14, .mv (.t 4), none⟩,
 ⟨some 15, .iAddr 1 (.t 12) (.t 13), none⟩,
 ⟨none, .store 1 (.t 15) (.t 14), none⟩]])))
 (.reg [[⟨some 16, .bin .add (.t 9) (.c (.int .i64 1)), none⟩,
 ⟨some 9, .mv (.t 16), none⟩]])))))))
 (.seq
 (.reg [[⟨some 17, .mv (.t 3), none⟩,
 ⟨some 2, .mv (.t 17), none⟩]])
 (.ret))))
def f_semigroupref03_Discrete : FnC := ⟨18, [.t 2], c_semigroupref03_Discrete⟩

def c_semigroupref03_FromPairs : C :=
 .seq
 (.reg [[⟨some 4, .mv (.c (.nils)), none⟩]])
 (.seq
 (.reg [[⟨some 8, .mv (.t 0), none⟩,
 ⟨some 9, .callF N_semigroupref03_Discrete [.t 8], none⟩,
 ⟨some 5, .mv (.t 9), none⟩]])
 (.seq
 (.seq
 (.reg [[⟨some 10, .mv (.t 1), none⟩,
 ⟨some 11, .lenS (.t 10), none⟩,
 ⟨some 12, .mv (.c (.int .i64 0)), none⟩]])
 (.block 0 (.loop (.seq
 (.reg [[⟨some 13, .bin .lss (.t 12) (.t 11), none⟩]])
 (.seq
 (.cond (.t 13)
 (.skip)
 (.exit 0))
 (.seq
 (.block 1 (.seq
 (.reg [[⟨some 14, .iAddr 2 (.t 10) (.t 12), none⟩,
 ⟨some 15, .loadA 2 (.t 14), none⟩,
 ⟨some 7, .alloc [.int .i64 0, .int .i64 0], none⟩,
 ⟨none, .store 2 (.t 7) (.t 15), none⟩]])
 (.reg [[⟨some 16, .mv (.t 5), none⟩,
 ⟨some 17, .iAddrA 2 1 (.t 7) (.c (.int .i64 0)), none⟩,
 ⟨some 18, .load1 (.t 17), none⟩,
 ⟨some 19, .iAddrA 2 1 (.t 7) (.c (.int .i64 1)), none⟩,
 ⟨some 20, .load1 (.t 19), none⟩,
 ⟨some 21, .callF N_semigroupref03_Merge [.t 16, .t 18, .t 20], none⟩]])))
 (.reg [[⟨some 22, .bin .add (.t 12) (.c (.int .i64 1)), none⟩,
 ⟨some 12, .mv (.t 22), none⟩]])))))))
 (.seq
 (.reg [[⟨some 23, .mv (.t 5), none⟩,
 ⟨some 24, .callF N_semigroupref03_Canonical [.t 23], none⟩,
 ⟨some 4, .mv (.t 24), none⟩]])
 (.ret))))
def f_semigroupref03_FromPairs : FnC := ⟨25, [.t 4], c_semigroupref03_FromPairs⟩

def c_semigroupref19_Generated : C :=
 .seq
 (.reg [[⟨some 6, .mv (.c (.nils)), none⟩]])
 (.seq
 (.reg [[⟨some 16, .mv (.t 0), none⟩,
 ⟨some 17, .lenS (.t 16), none⟩,
 ⟨some 18, .mv (.t 1), none⟩,
 ⟨some 19, .callF N_semigroupref03_FromPairs [.t 17, .t 18], none⟩,
 ⟨some 7, .mv (.t 19), none⟩]])
 (.seq
 (.seq
 (.reg [[⟨some 8, .mv (.c (.bool true)), none⟩]])
 (.block 0 (.loop (.seq
 (.seq
 (.reg [[⟨some 20, .mv (.t 8), none⟩]])
 (.cond (.t 20)
 (.skip)
 (.exit 0)))
 (.block 1 (.seq
 (.reg [[⟨some 8, .mv (.c (.bool false)), none⟩]])
 (.seq
 (.reg [[⟨some 21, .mv (.t 0), none⟩,
 ⟨some 22, .lenS (.t 21), none⟩,
 ⟨some 23, .mv (.c (.int .i64 0)), none⟩]])
 (.block 2 (.loop (.seq
 (.reg [[⟨some 24, .bin .lss (.t 23) (.t 22), none⟩]])
 (.seq
 (.cond (.t 24)
 (.skip)
 (.exit 2))
 (.seq
 (.block 3 (.seq
 (.reg [[⟨some 25, .mv (.t 23), none⟩,
 ⟨some 9, .mv (.t 25), none⟩]])
 (.seq
 (.reg [[⟨some 10, .mv (.c (.int .i64 0)), none⟩]])
 (.block 4 (.loop (.seq
 (.seq
 (.reg [[⟨some 26, .mv (.t 10), none⟩,
 ⟨some 27, .mv (.t 9), none⟩,
 ⟨some 28, .bin .lss (.t 26) (.t 27), none⟩]])
 (.cond (.t 28)
 (.skip)
 (.exit 4)))
 (.seq
 (.block 5 (.seq
 (.reg [[⟨some 11, .mv (.c (.int .i64 0)), none⟩]])
 (.block 6 (.loop (.seq
 (.seq
 (.reg [[⟨some 31, .mv (.t 11), none⟩,
 ⟨some 32, .mv (.t 0), none⟩,
 ⟨some 33, .lenS (.t 32), none⟩,
 ⟨some 34, .bin .lss (.t 31) (.t 33), none⟩,
 ⟨some 35, .mv (.t 34), none⟩,
 ⟨some 36, .mv (.t 7), some (some 35, true)⟩,
 ⟨some 37, .mv (.t 9), some (some 35, true)⟩,
 ⟨some 38, .iAddr 1 (.t 36) (.t 37), some (some 35, true)⟩,
 ⟨some 39, .load1 (.t 38), some (some 35, true)⟩,
 ⟨some 40, .mv (.t 7), some (some 35, true)⟩,
 ⟨some 41, .mv (.t 10), some (some 35, true)⟩,
 ⟨some 42, .iAddr 1 (.t 40) (.t 41), some (some 35, true)⟩,
 ⟨some 43, .load1 (.t 42), some (some 35, true)⟩,
 ⟨some 44, .bin .eql (.t 39) (.t 43), some (some 35, true)⟩,
 ⟨some 45, .pick (.t 35) (.t 44) (.c (.bool false)), none⟩]])
 (.cond (.t 45)
 (.skip)
 (.exit 6)))
 (.seq
 (.block 7 (.seq
 (.seq
 (.reg [[⟨some 48, .mv (.t 0), none⟩,
 ⟨some 49, .mv (.t 11), none⟩,
 ⟨some 50, .iAddr 1 (.t 48) (.t 49), none⟩,
 ⟨some 51, .load1 (.t 50), none⟩,
 ⟨some 52, .mv (.t 9), none⟩,
 ⟨some 53, .iAddr 1 (.t 51) (.t 52), none⟩,
 ⟨some 54, .load1 (.t 53), none⟩,
 ⟨some 55, .mv (.t 0), none⟩,
 ⟨some 56, .mv (.t 11), none⟩,
 ⟨some 57, .iAddr 1 (.t 55) (.t 56), none⟩,
 ⟨some 58, .load1 (.t 57), none⟩,
 ⟨some 59, .mv (.t 10), none⟩,
 ⟨some 60, .iAddr 1 (.t 58) (.t 59), none⟩,
 ⟨some 61, .load1 (.t 60), none⟩,
 ⟨some 12, .mv (.t 54), none⟩,
 ⟨some 13, .mv (.t 61), none⟩]])
 (.seq
 (.reg [[⟨some 62, .mv (.t 2), none⟩,
 ⟨some 63, .bin .neq (.t 62) (.c (.int .i64 2)), none⟩,
 ⟨some 64, .mv (.t 63), none⟩,
 ⟨some 65, .mv (.t 7), some (some 64, true)⟩,
 ⟨some 66, .mv (.t 12), some (some 64, true)⟩,
 ⟨some 67, .iAddr 1 (.t 65) (.t 66), some (some 64, true)⟩,
 ⟨some 68, .load1 (.t 67), some (some 64, true)⟩,
 ⟨some 69, .mv (.t 7), some (some 64, true)⟩,
 ⟨some 70, .mv (.t 13), some (some 64, true)⟩,
 ⟨some 71, .iAddr 1 (.t 69) (.t 70), some (some 64, true)⟩,
 ⟨some 72, .load1 (.t 71), some (some 64, true)⟩,
 ⟨some 73, .bin .neq (.t 68) (.t 72), some (some 64, true)⟩,
 ⟨some 74, .pick (.t 64) (.t 73) (.c (.bool false)), none⟩]])
 (.cond (.t 74)
 (.seq
 (.reg [[⟨some 75, .mv (.t 7), none⟩,
 ⟨some 76, .mv (.t 12), none⟩,
 ⟨some 77, .mv (.t 13), none⟩,
 ⟨some 78, .callF N_semigroupref03_Merge [.t 75, .t 76, .t 77], none⟩]])
 (.reg [[⟨some 8, .mv (.c (.bool true)), none⟩]]))
 (.skip))))
 (.seq
 (.reg [[⟨some 79, .mv (.t 0), none⟩,
 ⟨some 80, .mv (.t 9), none⟩,
 ⟨some 81, .iAddr 1 (.t 79) (.t 80), none⟩,
 ⟨some 82, .load1 (.t 81), none⟩,
 ⟨some 83, .mv (.t 11), none⟩,
 ⟨some 84, .iAddr 1 (.t 82) (.t 83), none⟩,
 ⟨some 85, .load1 (.t 84), none⟩,
 ⟨some 86, .mv (.t 0), none⟩,
 ⟨some 87, .mv (.t 10), none⟩,
 ⟨some 88, .iAddr 1 (.t 86) (.t 87), none⟩,
 ⟨some 89, .load1 (.t 88), none⟩,
 ⟨some 90, .mv (.t 11), none⟩,
 ⟨some 91, .iAddr 1 (.t 89) (.t 90), none⟩,
 ⟨some 92, .load1 (.t 91), none⟩,
 ⟨some 14, .mv (.t 85), none⟩,
 ⟨some 15, .mv (.t 92), none⟩]])
 (.seq
 (.reg [[⟨some 93, .mv (.t 2), none⟩,
 ⟨some 94, .bin .neq (.t 93) (.c (.int .i64 1)), none⟩,
 ⟨some 95, .mv (.t 94), none⟩,
 ⟨some 96, .mv (.t 7), some (some 95, true)⟩,
 ⟨some 97, .mv (.t 14), some (some 95, true)⟩,
 ⟨some 98, .iAddr 1 (.t 96) (.t 97), some (some 95, true)⟩,
 ⟨some 99, .load1 (.t 98), some (some 95, true)⟩,
 ⟨some 100, .mv (.t 7), some (some 95, true)⟩,
 ⟨some 101, .mv (.t 15), some (some 95, true)⟩,
 ⟨some 102, .iAddr 1 (.t 100) (.t 101), some (some 95, true)⟩,
 ⟨some 103, .load1 (.t 102), some (some 95, true)⟩,
 ⟨some 104, .bin .neq (.t 99) (.t 103), some (some 95, true)⟩,
 ⟨some 105, .pick (.t 95) (.t 104) (.c (.bool false)), none⟩]])
 (.cond (.t 105)
 (.seq
 (.reg [[⟨some 106, .mv (.t 7), none⟩,
 ⟨some 107, .mv (.t 14), none⟩,
 ⟨some 108, .mv (.t 15), none⟩,
 ⟨some 109, .callF N_semigroupref03_Merge [.t 106, .t 107, .t 108], none⟩]])
 (.reg [[⟨some 8, .mv (.c (.bool true)), none⟩]]))
 (.skip))))))
 (.reg [[⟨some 46, .mv (.t 11), none⟩,
 ⟨some 47, .bin .add (.t 46) (.c (.int .i64 1)), none⟩,
 ⟨some 11, .mv (.t 47), none⟩]])))))))
 (.reg [[⟨some 29, .mv (.t 10), none⟩,
 ⟨some 30, .bin .add (.t 29) (.c (.int .i64 1)), none⟩,
 ⟨some 10, .mv (.t 30), none⟩]]))))))))
 (.reg [[⟨some 110, .bin .add (.t 23) (.c (.int .i64 1)), none⟩,
 ⟨some 23, .mv (.t 110), none⟩]])))))))))))))
 (.seq
 (.reg [[⟨some 111, .mv (.t 7), none⟩,
 ⟨some 112, .callF N_semigroupref03_Canonical [.t 111], none⟩,
 ⟨some 6, .mv (.t 112), none⟩]])
 (.ret))))
def f_semigroupref19_Generated : FnC := ⟨113, [.t 6], c_semigroupref19_Generated⟩

def c_semigroupref19_Principal : C :=
 .seq
 (.reg [[⟨some 2, .mv (.c (.nils)), none⟩]])
 (.seq
 (.reg [[⟨some 3, .mv (.c (.nils)), none⟩]])
 (.seq
 (.seq
 (.reg [[⟨some 6, .mv (.t 0), none⟩,
 ⟨some 7, .lenS (.t 6), none⟩,
 ⟨some 8, .mv (.c (.int .i64 0)), none⟩]])
 (.block 0 (.loop (.seq
 (.reg [[⟨some 9, .bin .lss (.t 8) (.t 7), none⟩]])
 (.seq
 (.cond (.t 9)
 (.skip)
 (.exit 0))
 (.seq
 (.block 1 (.seq
 (.reg [[⟨some 10, .mv (.t 8), none⟩,
 ⟨some 4, .mv (.t 10), none⟩]])
 (.seq
 (.reg [[⟨some 5, .mv (.c (.int .i64 0)), none⟩]])
 (.block 2 (.loop (.seq
 (.seq
 (.reg [[⟨some 11, .mv (.t 5), none⟩,
 ⟨some 12, .mv (.t 4), none⟩,
 ⟨some 13, .bin .lss (.t 11) (.t 12), none⟩]])
 (.cond (.t 13)
 (.skip)
 (.exit 2)))
 (.seq
 (.block 3 (.reg [[⟨some 16, .mv (.t 3), none⟩,
 ⟨some 17, .mv (.t 0), none⟩,
 ⟨some 18, .mv (.t 4), none⟩,
 ⟨some 19, .mv (.t 5), none⟩,
 ⟨some 20, .build [.int .i64 0, .int .i64 0] [(0, 1, .t 18), (1, 1, .t 19)], none⟩,
 ⟨some 21, .lit [.int .i64 0, .int .i64 0] 2 1 [(0, 2, .t 20)], none⟩,
 ⟨some 22, .callF N_semigroupref19_Generated [.t 17, .t 21, .c (.int .i64 0)], none⟩,
 ⟨some 23, .callF N_semigroupref03_InsertRow [.t 16, .t 22], none⟩,
 ⟨some 3, .mv (.t 23), none⟩]]))
 (.reg [[⟨some 14, .mv (.t 5), none⟩,
 ⟨some 15, .bin .add (.t 14) (.c (.int .i64 1)), none⟩,
 ⟨some 5, .mv (.t 15), none⟩]]))))))))
 (.reg [[⟨some 24, .bin .add (.t 8) (.c (.int .i64 1)), none⟩,
 ⟨some 8, .mv (.t 24), none⟩]])))))))
 (.seq
 (.reg [[⟨some 25, .mv (.t 3), none⟩,
 ⟨some 2, .mv (.t 25), none⟩]])
 (.ret))))
def f_semigroupref19_Principal : FnC := ⟨26, [.t 2], c_semigroupref19_Principal⟩

def c_semigroupref03_Refines : C :=
 .seq
 (.reg [[⟨some 4, .mv (.c (.bool false)), none⟩]])
 (.seq
 (.seq
 (.reg [[⟨some 7, .mv (.t 0), none⟩,
 ⟨some 8, .lenS (.t 7), none⟩,
 ⟨some 9, .mv (.c (.int .i64 0)), none⟩]])
 (.block 0 (.loop (.seq
 (.reg [[⟨some 10, .bin .lss (.t 9) (.t 8), none⟩]])
 (.seq
 (.cond (.t 10)
 (.skip)
 (.exit 0))
 (.seq
 (.block 1 (.seq
 (.reg [[⟨some 11, .mv (.t 9), none⟩,
 ⟨some 5, .mv (.t 11), none⟩]])
 (.seq
 (.reg [[⟨some 12, .mv (.t 0), none⟩,
 ⟨some 13, .lenS (.t 12), none⟩,
 ⟨some 14, .mv (.c (.int .i64 0)), none⟩]])
 (.block 2 (.loop (.seq
 (.reg [[⟨some 15, .bin .lss (.t 14) (.t 13), none⟩]])
 (.seq
 (.cond (.t 15)
 (.skip)
 (.exit 2))
 (.seq
 (.block 3 (.seq
 (.reg [[⟨some 16, .mv (.t 14), none⟩,
 ⟨some 6, .mv (.t 16), none⟩]])
 (.seq
 (.reg [[⟨some 17, .mv (.t 0), none⟩,
 ⟨some 18, .mv (.t 5), none⟩,
 ⟨some 19, .iAddr 1 (.t 17) (.t 18), none⟩,
 ⟨some 20, .load1 (.t 19), none⟩,
 ⟨some 21, .mv (.t 0), none⟩,
 ⟨some 22, .mv (.t 6), none⟩,
 ⟨some 23, .iAddr 1 (.t 21) (.t 22), none⟩,
 ⟨some 24, .load1 (.t 23), none⟩,
 ⟨some 25, .bin .eql (.t 20) (.t 24), none⟩,
 ⟨some 26, .mv (.t 25), none⟩,
 ⟨some 27, .mv (.t 1), some (some 26, true)⟩,
 ⟨some 28, .mv (.t 5), some (some 26, true)⟩,
 ⟨some 29, .iAddr 1 (.t 27) (.t 28), some (some 26, true)⟩,
 ⟨some 30, .load1 (.t 29), some (some 26, true)⟩,
 ⟨some 31, .mv (.t 1), some (some 26, true)⟩,
 ⟨some 32, .mv (.t 6), some (some 26, true)⟩,
 ⟨some 33, .iAddr 1 (.t 31) (.t 32), some (some 26, true)⟩,
 ⟨some 34, .load1 (.t 33), some (some 26, true)⟩,
 ⟨some 35, .bin .neq (.t 30) (.t 34), some (some 26, true)⟩,
 ⟨some 36, .pick (.t 26) (.t 35) (.c (.bool false)), none⟩]])
 (.cond (.t 36)
 (.seq
 (.reg [[⟨some 4, .mv (.c (.bool false)), none⟩]])
 (.ret))
 (.skip)))))
 (.reg [[⟨some 37, .bin .add (.t 14) (.c (.int .i64 1)), none⟩,
 ⟨some 14, .mv (.t 37), none⟩]])))))))))
 (.reg [[⟨some 38, .bin .add (.t 9) (.c (.int .i64 1)), none⟩,
 ⟨some 9, .mv (.t 38), none⟩]])))))))
 (.seq
 (.reg [[⟨some 4, .mv (.c (.bool true)), none⟩]])
 (.ret)))
def f_semigroupref03_Refines : FnC := ⟨39, [.t 4], c_semigroupref03_Refines⟩

def c_semigroupref19_Minimal : C :=
 .seq
 (.reg [[⟨some 2, .mv (.c (.nils)), none⟩]])
 (.seq
 (.reg [[⟨some 3, .mv (.c (.nils)), none⟩]])
 (.seq
 (.reg [[⟨some 10, .mv (.t 0), none⟩,
 ⟨some 11, .callF N_semigroupref19_Principal [.t 10], none⟩,
 ⟨some 4, .mv (.t 11), none⟩]])
 (.seq
 (.seq
 (.reg [[⟨some 12, .mv (.t 4), none⟩,
 ⟨some 13, .lenS (.t 12), none⟩,
 ⟨some 14, .mv (.c (.int .i64 0)), none⟩]])
 (.block 0 (.loop (.seq
 (.reg [[⟨some 15, .bin .lss (.t 14) (.t 13), none⟩]])
 (.seq
 (.cond (.t 15)
 (.skip)
 (.exit 0))
 (.seq
 (.block 1 (.seq
 (.reg [[⟨some 16, .iAddr 1 (.t 12) (.t 14), none⟩,
 ⟨some 17, .load1 (.t 16), none⟩,
 ⟨some 6, .mv (.t 17), none⟩]])
 (.seq
 (.reg [[⟨some 7, .mv (.c (.bool true)), none⟩]])
 (.seq
 (.seq
 (.reg [[⟨some 18, .mv (.t 4), none⟩,
 ⟨some 19, .lenS (.t 18), none⟩,
 ⟨some 20, .mv (.c (.int .i64 0)), none⟩]])
 (.block 2 (.loop (.seq
 (.reg [[⟨some 21, .bin .lss (.t 20) (.t 19), none⟩]])
 (.seq
 (.cond (.t 21)
 (.skip)
 (.exit 2))
 (.seq
 (.block 3 (.seq
 (.reg [[⟨some 22, .iAddr 1 (.t 18) (.t 20), none⟩,
 ⟨some 23, .load1 (.t 22), none⟩,
 ⟨some 9, .mv (.t 23), none⟩]])
 (.reg [[⟨some 24, .mv (.t 7), none⟩,
 ⟨some 25, .mv (.t 24), none⟩,
 ⟨some 26, .mv (.t 6), some (some 25, true)⟩,
 ⟨some 27, .mv (.t 9), some (some 25, true)⟩,
 ⟨some 28, .callF N_semigroupref03_Same [.t 26, .t 27], some (some 25, true)⟩,
 ⟨some 29, .mv (.t 28), some (some 25, true)⟩,
 ⟨some 30, .mv (.t 9), some (some 29, false)⟩,
 ⟨some 31, .mv (.t 6), some (some 29, false)⟩,
 ⟨some 32, .callF N_semigroupref03_Refines [.t 30, .t 31], some (some 29, false)⟩,
 ⟨some 33, .un .not (.t 32), some (some 29, false)⟩,
 ⟨some 34, .pick (.t 29) (.c (.bool true)) (.t 33), some (some 25, true)⟩,
 ⟨some 35, .pick (.t 25) (.t 34) (.c (.bool false)), none⟩,
 ⟨some 7, .mv (.t 35), none⟩]])))
 (.reg [[⟨some 36, .bin .add (.t 20) (.c (.int .i64 1)), none⟩,
 ⟨some 20, .mv (.t 36), none⟩]])))))))
 (.seq
 (.reg [[⟨some 37, .mv (.t 7), none⟩]])
 (.cond (.t 37)
 (.reg [[⟨some 38, .mv (.t 3), none⟩,
 ⟨some 39, .mv (.t 6), none⟩,
 ⟨some 40, .lit [.nils] 1 1 [(0, 1, .t 39)], none⟩,
 ⟨some 41, .app [.nils] 24 (.t 38) (.t 40), none⟩,
 ⟨some 3, .mv (.t 41), none⟩]])
 (.skip)))))))
 (.reg [[⟨some 42, .bin .add (.t 14) (.c (.int .i64 1)), none⟩,
 ⟨some 14, .mv (.t 42), none⟩]])))))))
 (.seq
 (.reg [[⟨some 43, .mv (.t 3), none⟩,
 ⟨some 2, .mv (.t 43), none⟩]])
 (.ret)))))
def f_semigroupref19_Minimal : FnC := ⟨44, [.t 2], c_semigroupref19_Minimal⟩

def c_semigroupref22_Irreducible : C :=
 .seq
 (.reg [[⟨some 2, .mv (.c (.nils)), none⟩,
 ⟨some 3, .mv (.c (.bool false)), none⟩]])
 (.seq
 (.seq
 (.reg [[⟨some 5, .mv (.t 0), none⟩,
 ⟨some 6, .callF N_semigroupref14_Valid [.t 5], none⟩,
 ⟨some 7, .un .not (.t 6), none⟩,
 ⟨some 8, .mv (.t 7), none⟩,
 ⟨some 9, .mv (.t 0), some (some 8, false)⟩,
 ⟨some 10, .lenS (.t 9), some (some 8, false)⟩,
 ⟨some 11, .bin .lss (.t 10) (.c (.int .i64 2)), some (some 8, false)⟩,
 ⟨some 12, .pick (.t 8) (.c (.bool true)) (.t 11), none⟩]])
 (.cond (.t 12)
 (.seq
 (.reg [[⟨some 2, .mv (.c (.nils)), none⟩,
 ⟨some 3, .mv (.c (.bool false)), none⟩]])
 (.ret))
 (.skip)))
 (.seq
 (.reg [[⟨some 13, .mv (.t 0), none⟩,
 ⟨some 14, .callF N_semigroupref19_Minimal [.t 13], none⟩,
 ⟨some 4, .mv (.t 14), none⟩]])
 (.seq
 (.seq
 (.reg [[⟨some 15, .mv (.t 4), none⟩,
 ⟨some 16, .lenS (.t 15), none⟩,
 ⟨some 17, .bin .neq (.t 16) (.c (.int .i64 1)), none⟩]])
 (.cond (.t 17)
 (.seq
 (.reg [[⟨some 2, .mv (.c (.nils)), none⟩,
 ⟨some 3, .mv (.c (.bool false)), none⟩]])
 (.ret))
 (.skip)))
 (.seq
 (.reg [[⟨some 18, .mv (.t 4), none⟩,
 ⟨some 19, .iAddr 1 (.t 18) (.c (.int .i64 0)), none⟩,
 ⟨some 20, .load1 (.t 19), none⟩,
 ⟨some 2, .mv (.t 20), none⟩,
 ⟨some 3, .mv (.c (.bool true)), none⟩]])
 (.ret)))))
def f_semigroupref22_Irreducible : FnC := ⟨21, [.t 2, .t 3], c_semigroupref22_Irreducible⟩

def c_semigroupref03_Valid : C :=
 .seq
 (.reg [[⟨some 2, .mv (.c (.bool false)), none⟩]])
 (.seq
 (.reg [[⟨some 3, .mv (.t 0), none⟩,
 ⟨some 4, .lenS (.t 3), none⟩,
 ⟨some 5, .bin .leq (.t 4) (.c (.int .i64 4096)), none⟩,
 ⟨some 6, .mv (.t 5), none⟩,
 ⟨some 7, .mv (.t 0), some (some 6, true)⟩,
 ⟨some 8, .mv (.t 0), some (some 6, true)⟩,
 ⟨some 9, .callF N_semigroupref03_Canonical [.t 8], some (some 6, true)⟩,
 ⟨some 10, .callF N_semigroupref03_Same [.t 7, .t 9], some (some 6, true)⟩,
 ⟨some 11, .pick (.t 6) (.t 10) (.c (.bool false)), none⟩,
 ⟨some 2, .mv (.t 11), none⟩]])
 (.ret))
def f_semigroupref03_Valid : FnC := ⟨12, [.t 2], c_semigroupref03_Valid⟩

def c_semigroupref19_IsCongruence : C :=
 .seq
 (.reg [[⟨some 6, .mv (.c (.bool false)), none⟩]])
 (.seq
 (.seq
 (.reg [[⟨some 10, .mv (.t 0), none⟩,
 ⟨some 11, .callF N_semigroupref14_Valid [.t 10], none⟩,
 ⟨some 12, .un .not (.t 11), none⟩,
 ⟨some 13, .mv (.t 12), none⟩,
 ⟨some 14, .mv (.t 1), some (some 13, false)⟩,
 ⟨some 15, .lenS (.t 14), some (some 13, false)⟩,
 ⟨some 16, .mv (.t 0), some (some 13, false)⟩,
 ⟨some 17, .lenS (.t 16), some (some 13, false)⟩,
 ⟨some 18, .bin .neq (.t 15) (.t 17), some (some 13, false)⟩,
 ⟨some 19, .pick (.t 13) (.c (.bool true)) (.t 18), none⟩,
 ⟨some 20, .mv (.t 19), none⟩,
 ⟨some 21, .mv (.t 1), some (some 20, false)⟩,
 ⟨some 22, .callF N_semigroupref03_Valid [.t 21], some (some 20, false)⟩,
 ⟨some 23, .un .not (.t 22), some (some 20, false)⟩,
 ⟨some 24, .pick (.t 20) (.c (.bool true)) (.t 23), none⟩,
 ⟨some 25, .mv (.t 24), none⟩,
 ⟨some 26, .mv (.t 2), some (some 25, false)⟩,
 ⟨some 27, .bin .lss (.t 26) (.c (.int .i64 0)), some (some 25, false)⟩,
 ⟨some 28, .pick (.t 25) (.c (.bool true)) (.t 27), none⟩,
 ⟨some 29, .mv (.t 28), none⟩,
 ⟨some 30, .mv (.t 2), some (some 29, false)⟩,
 ⟨some 31, .bin .gtr (.t 30) (.c (.int .i64 2)), some (some 29, false)⟩,
 ⟨some 32, .pick (.t 29) (.c (.bool true)) (.t 31), none⟩]])
 (.cond (.t 32)
 (.seq
 (.reg [[⟨some 6, .mv (.c (.bool false)), none⟩]])
 (.ret))
 (.skip)))
 (.seq
 (.seq
 (.reg [[⟨some 33, .mv (.t 0), none⟩,
 ⟨some 34, .lenS (.t 33), none⟩,
 ⟨some 35, .mv (.c (.int .i64 0)), none⟩]])
 (.block 0 (.loop (.seq
 (.reg [[⟨some 36, .bin .lss (.t 35) (.t 34), none⟩]])
 (.seq
 (.cond (.t 36)
 (.skip)
 (.exit 0))
 (.seq
 (.block 1 (.seq
 (.reg [[⟨some 37, .mv (.t 35), none⟩,
 ⟨some 7, .mv (.t 37), none⟩]])
 (.seq
 (.reg [[⟨some 38, .mv (.t 0), none⟩,
 ⟨some 39, .lenS (.t 38), none⟩,
 ⟨some 40, .mv (.c (.int .i64 0)), none⟩]])
 (.block 2 (.loop (.seq
 (.reg [[⟨some 41, .bin .lss (.t 40) (.t 39), none⟩]])
 (.seq
 (.cond (.t 41)
 (.skip)
 (.exit 2))
 (.seq
 (.block 3 (.seq
 (.reg [[⟨some 42, .mv (.t 40), none⟩,
 ⟨some 8, .mv (.t 42), none⟩]])
 (.seq
 (.reg [[⟨some 43, .mv (.t 0), none⟩,
 ⟨some 44, .lenS (.t 43), none⟩,
 ⟨some 45, .mv (.c (.int .i64 0)), none⟩]])
 (.block 4 (.loop (.seq
 (.reg [[⟨some 46, .bin .lss (.t 45) (.t 44), none⟩]])
 (.seq
 (.cond (.t 46)
 (.skip)
 (.exit 4))
 (.seq
 (.block 5 (.seq
 (.reg [[⟨some 47, .mv (.t 45), none⟩,
 ⟨some 9, .mv (.t 47), none⟩]])
 (.seq
 (.reg [[⟨some 48, .mv (.t 1), none⟩,
 ⟨some 49, .mv (.t 7), none⟩,
 ⟨some 50, .iAddr 1 (.t 48) (.t 49), none⟩,
 ⟨some 51, .load1 (.t 50), none⟩,
 ⟨some 52, .mv (.t 1), none⟩,
 ⟨some 53, .mv (.t 8), none⟩,
 ⟨some 54, .iAddr 1 (.t 52) (.t 53), none⟩,
 ⟨some 55, .load1 (.t 54), none⟩,
 ⟨some 56, .bin .eql (.t 51) (.t 55), none⟩,
 ⟨some 57, .mv (.t 56), none⟩,
 ⟨some 58, .mv (.t 2), some (some 57, true)⟩,
 ⟨some 59, .bin .neq (.t 58) (.c (.int .i64 2)), some (some 57, true)⟩,
 ⟨some 60, .mv (.t 59), some (some 57, true)⟩,
 ⟨some 61, .mv (.t 1), some (some 60, true)⟩,
 ⟨some 62, .mv (.t 0), some (some 60, true)⟩,
 ⟨some 63, .mv (.t 9), some (some 60, true)⟩,
 ⟨some 64, .iAddr 1 (.t 62) (.t 63), some (some 60, true)⟩,
 ⟨some 65, .load1 (.t 64), some (some 60, true)⟩,
 ⟨some 66, .mv (.t 7), some (some 60, true)⟩,
 ⟨some 67, .iAddr 1 (.t 65) (.t 66), some (some 60, true)⟩,
 ⟨some 68, .load1 (.t 67), some (some 60, true)⟩,
 ⟨some 69, .iAddr 1 (.t 61) (.t 68), some (some 60, true)⟩,
 ⟨some 70, .load1 (.t 69), some (some 60, true)⟩,
 ⟨some 71, .mv (.t 1), some (some 60, true)⟩,
 ⟨some 72, .mv (.t 0), some (some 60, true)⟩,
 ⟨some 73, .mv (.t 9), some (some 60, true)⟩,
 ⟨some 74, .iAddr 1 (.t 72) (.t 73), some (some 60, true)⟩,
 ⟨some 75, .load1 (.t 74), some (some 60, true)⟩,
 ⟨some 76, .mv (.t 8), some (some 60, true)⟩,
 ⟨some 77, .iAddr 1 (.t 75) (.t 76), some (some 60, true)⟩,
 ⟨some 78, .load1 (.t 77), some (some 60, true)⟩,
 ⟨some 79, .iAddr 1 (.t 71) (.t 78), some (some 60, true)⟩,
 ⟨some 80, .load1 (.t 79), some (some 60, true)⟩,
 ⟨some 81, .bin .neq (.t 70) (.t 80), some (some 60, true)⟩,
 ⟨some 82, .pick (.t 60) (.t 81) (.c (.bool false)), some (some 57, true)⟩,
 ⟨some 83, .mv (.t 82), some (some 57, true)⟩,
 ⟨some 84, .mv (.t 2), some (some 83, false)⟩,
 ⟨some 85, .bin .neq (.t 84) (.c (.int .i64 1)), some (some 83, false)⟩,
 ⟨some 86, .mv (.t 85), some (some 83, false)⟩,
 ⟨some 87, .mv (.t 1), some (some 86, true)⟩,
 ⟨some 88, .mv (.t 0), some (some 86, true)⟩,
 ⟨some 89, .mv (.t 7), some (some 86, true)⟩,
 ⟨some 90, .iAddr 1 (.t 88) (.t 89), some (some 86, true)⟩,
 ⟨some 91, .load1 (.t 90), some (some 86, true)⟩,
 ⟨some 92, .mv (.t 9), some (some 86, true)⟩,
 ⟨some 93, .iAddr 1 (.t 91) (.t 92), some (some 86, true)⟩,
 ⟨some 94, .load1 (.t 93), some (some 86, true)⟩,
 ⟨some 95, .iAddr 1 (.t 87) (.t 94), some (some 86, true)⟩,
 ⟨some 96, .load1 (.t 95), some (some 86, true)⟩,
 ⟨some 97, .mv (.t 1), some (some 86, true)⟩,
 ⟨some 98, .mv (.t 0), some (some 86, true)⟩,
 ⟨some 99, .mv (.t 8), some (some 86, true)⟩,
 ⟨some 100, .iAddr 1 (.t 98) (.t 99), some (some 86, true)⟩,
 ⟨some 101, .load1 (.t 100), some (some 86, true)⟩,
 ⟨some 102, .mv (.t 9), some (some 86, true)⟩,
 ⟨some 103, .iAddr 1 (.t 101) (.t 102), some (some 86, true)⟩,
 ⟨some 104, .load1 (.t 103), some (some 86, true)⟩,
 ⟨some 105, .iAddr 1 (.t 97) (.t 104), some (some 86, true)⟩,
 ⟨some 106, .load1 (.t 105), some (some 86, true)⟩,
 ⟨some 107, .bin .neq (.t 96) (.t 106), some (some 86, true)⟩,
 ⟨some 108, .pick (.t 86) (.t 107) (.c (.bool false)), some (some 83, false)⟩,
 ⟨some 109, .pick (.t 83) (.c (.bool true)) (.t 108), some (some 57, true)⟩,
 ⟨some 110, .pick (.t 57) (.t 109) (.c (.bool false)), none⟩]])
 (.cond (.t 110)
 (.seq
 (.reg [[⟨some 6, .mv (.c (.bool false)), none⟩]])
 (.ret))
 (.skip)))))
 (.reg [[⟨some 111, .bin .add (.t 45) (.c (.int .i64 1)), none⟩,
 ⟨some 45, .mv (.t 111), none⟩]])))))))))
 (.reg [[⟨some 112, .bin .add (.t 40) (.c (.int .i64 1)), none⟩,
 ⟨some 40, .mv (.t 112), none⟩]])))))))))
 (.reg [[⟨some 113, .bin .add (.t 35) (.c (.int .i64 1)), none⟩,
 ⟨some 35, .mv (.t 113), none⟩]])))))))
 (.seq
 (.reg [[⟨some 6, .mv (.c (.bool true)), none⟩]])
 (.ret))))
def f_semigroupref19_IsCongruence : FnC := ⟨114, [.t 6], c_semigroupref19_IsCongruence⟩

def c_semigroupref03_Count : C :=
 .seq
 (.reg [[⟨some 2, .mv (.c (.int .i64 0)), none⟩]])
 (.seq
 (.reg [[⟨some 3, .mv (.c (.int .i64 0)), none⟩]])
 (.seq
 (.seq
 (.reg [[⟨some 6, .mv (.t 0), none⟩,
 ⟨some 7, .lenS (.t 6), none⟩,
 ⟨some 8, .mv (.c (.int .i64 0)), none⟩]])
 (.block 0 (.loop (.seq
 (.reg [[⟨some 9, .bin .lss (.t 8) (.t 7), none⟩]])
 (.seq
 (.cond (.t 9)
 (.skip)
 (.exit 0))
 (.seq
 (.block 1 (.seq
 (.reg [[⟨some 10, .iAddr 1 (.t 6) (.t 8), none⟩,
 ⟨some 11, .load1 (.t 10), none⟩,
 ⟨some 5, .mv (.t 11), none⟩]])
 (.reg [[⟨some 12, .mv (.t 3), none⟩,
 ⟨some 13, .mv (.t 5), none⟩,
 ⟨some 14, .bin .add (.t 13) (.c (.int .i64 1)), none⟩,
 ⟨some 15, .max [.t 12, .t 14], none⟩,
 ⟨some 3, .mv (.t 15), none⟩]])))
 (.reg [[⟨some 16, .bin .add (.t 8) (.c (.int .i64 1)), none⟩,
 ⟨some 8, .mv (.t 16), none⟩]])))))))
 (.seq
 (.reg [[⟨some 17, .mv (.t 3), none⟩,
 ⟨some 2, .mv (.t 17), none⟩]])
 (.ret))))
def f_semigroupref03_Count : FnC := ⟨18, [.t 2], c_semigroupref03_Count⟩

def c_semigroupref03_Classes : C :=
 .seq
 (.reg [[⟨some 2, .mv (.c (.nils)), none⟩]])
 (.seq
 (.reg [[⟨some 6, .mv (.t 0), none⟩,
 ⟨some 7, .callF N_semigroupref03_Count [.t 6], none⟩,
 ⟨some 8, .mkS [.nils] 24 (.t 7) (.t 7), none⟩,
 ⟨some 3, .mv (.t 8), none⟩]])
 (.seq
 (.seq
 (.reg [[⟨some 9, .mv (.t 0), none⟩,
 ⟨some 10, .lenS (.t 9), none⟩,
 ⟨some 11, .mv (.c (.int .i64 0)), none⟩]])
 (.block 0 (.loop (.seq
 (.reg [[⟨some 12, .bin .lss (.t 11) (.t 10), none⟩]])
 (.seq
 (.cond (.t 12)
 (.skip)
 (.exit 0))
 (.seq
 (.block 1 (.seq
 (.reg [[⟨some 13, .mv (.t 11), none⟩,
 ⟨some 14, .iAddr 1 (.t 9) (.t 11), none⟩,
 ⟨some 15, .load1 (.t 14), none⟩,
 ⟨some 4, .mv (.t 13), none⟩,
 ⟨some 5, .mv (.t 15), none⟩]])
 (.reg [[⟨some 16, .mv (.t 3), none⟩,
 ⟨some 17, .mv (.t 5), none⟩,
 ⟨some 18, .mv (.t 3), none⟩,
 ⟨some 19, .mv (.t 5), none⟩,
 ⟨some 20, .iAddr 1 (.t 18) (.t 19), none⟩,
 ⟨some 21, .load1 (.t 20), none⟩,
 ⟨some 22, .mv (.t 4), none⟩,
 ⟨some 23, .lit [.int .i64 0] 1 1 [(0, 1, .t 22)], none⟩,
 ⟨some 24, .app [.int .i64 0] 8 (.t 21) (.t 23), none⟩,
 ⟨some 25, .iAddr 1 (.t 16) (.t 17), none⟩,
 ⟨none, .store 1 (.t 25) (.t 24), none⟩]])))
 (.reg [[⟨some 26, .bin .add (.t 11) (.c (.int .i64 1)), none⟩,
 ⟨some 11, .mv (.t 26), none⟩]])))))))
 (.seq
 (.reg [[⟨some 27, .mv (.t 3), none⟩,
 ⟨some 2, .mv (.t 27), none⟩]])
 (.ret))))
def f_semigroupref03_Classes : FnC := ⟨28, [.t 2], c_semigroupref03_Classes⟩

def c_semigroupref19_Quotient : C :=
 .seq
 (.reg [[⟨some 4, .mv (.c (.nils)), none⟩]])
 (.seq
 (.reg [[⟨some 12, .mv (.t 1), none⟩,
 ⟨some 13, .callF N_semigroupref03_Classes [.t 12], none⟩,
 ⟨some 5, .mv (.t 13), none⟩]])
 (.seq
 (.reg [[⟨some 6, .mv (.c (.nils)), none⟩]])
 (.seq
 (.seq
 (.reg [[⟨some 14, .mv (.t 5), none⟩,
 ⟨some 15, .lenS (.t 14), none⟩,
 ⟨some 16, .mv (.c (.int .i64 0)), none⟩]])
 (.block 0 (.loop (.seq
 (.reg [[⟨some 17, .bin .lss (.t 16) (.t 15), none⟩]])
 (.seq
 (.cond (.t 17)
 (.skip)
 (.exit 0))
 (.seq
 (.block 1 (.seq
 (.reg [[⟨some 18, .iAddr 1 (.t 14) (.t 16), none⟩,
 ⟨some 19, .load1 (.t 18), none⟩,
 ⟨some 8, .mv (.t 19), none⟩]])
 (.seq
 (.reg [[⟨some 9, .mv (.c (.nils)), none⟩]])
 (.seq
 (.seq
 (.reg [[⟨some 20, .mv (.t 5), none⟩,
 ⟨some 21, .lenS (.t 20), none⟩,
 ⟨some 22, .mv (.c (.int .i64 0)), none⟩]])
 (.block 2 (.loop (.seq
 (.reg [[⟨some 23, .bin .lss (.t 22) (.t 21), none⟩]])
 (.seq
 (.cond (.t 23)
 (.skip)
 (.exit 2))
 (.seq
 (.block 3 (.seq
 (.reg [[⟨some 24, .iAddr 1 (.t 20) (.t 22), none⟩,
 ⟨some 25, .load1 (.t 24), none⟩,
 ⟨some 11, .mv (.t 25), none⟩]])
 (.reg [[⟨some 26, .mv (.t 9), none⟩,
 ⟨some 27, .mv (.t 1), none⟩,
 ⟨some 28, .mv (.t 0), none⟩,
 ⟨some 29, .mv (.t 8), none⟩,
 ⟨some 30, .iAddr 1 (.t 29) (.c (.int .i64 0)), none⟩,
 ⟨some 31, .load1 (.t 30), none⟩,
 ⟨some 32, .iAddr 1 (.t 28) (.t 31), none⟩,
 ⟨some 33, .load1 (.t 32), none⟩,
 ⟨some 34, .mv (.t 11), none⟩,
 ⟨some 35, .iAddr 1 (.t 34) (.c (.int .i64 0)), none⟩,
 ⟨some 36, .load1 (.t 35), none⟩,
 ⟨some 37, .iAddr 1 (.t 33) (.t 36), none⟩,
 ⟨some 38, .load1 (.t 37), none⟩,
 ⟨some 39, .iAddr 1 (.t 27) (.t 38), none⟩,
 ⟨some 40, .load1 (.t 39), none⟩,
 ⟨some 41, .lit [.int .i64 0] 1 1 [(0, 1, .t 40)], none⟩,
 ⟨some 42, .app [.int .i64 0] 8 (.t 26) (.t 41), none⟩,
 ⟨some 9, .mv (.t 42), none⟩]])))
 (.reg [[⟨some 43, .bin .add (.t 22) (.c (.int .i64 1)), none⟩,
 ⟨some 22, .mv (.t 43), none⟩]])))))))
 (.reg [[⟨some 44, .mv (.t 6), none⟩,
 ⟨some 45, .mv (.t 9), none⟩,
 ⟨some 46, .lit [.nils] 1 1 [(0, 1, .t 45)], none⟩,
 ⟨some 47, .app [.nils] 24 (.t 44) (.t 46), none⟩,
 ⟨some 6, .mv (.t 47), none⟩]])))))
 (.reg [[⟨some 48, .bin .add (.t 16) (.c (.int .i64 1)), none⟩,
 ⟨some 16, .mv (.t 48), none⟩]])))))))
 (.seq
 (.reg [[⟨some 49, .mv (.t 6), none⟩,
 ⟨some 4, .mv (.t 49), none⟩]])
 (.ret)))))
def f_semigroupref19_Quotient : FnC := ⟨50, [.t 4], c_semigroupref19_Quotient⟩

def c_semigroupref03_Meet : C :=
 .seq
 (.reg [[⟨some 4, .mv (.c (.nils)), none⟩]])
 (.seq
 (.reg [[⟨some 7, .mv (.t 0), none⟩,
 ⟨some 8, .lenS (.t 7), none⟩,
 ⟨some 9, .mkS [.int .i64 0] 8 (.t 8) (.t 8), none⟩,
 ⟨some 5, .mv (.t 9), none⟩]])
 (.seq
 (.seq
 (.reg [[⟨some 10, .mv (.t 0), none⟩,
 ⟨some 11, .lenS (.t 10), none⟩,
 ⟨some 12, .mv (.c (.int .i64 0)), none⟩]])
 (.block 0 (.loop (.seq
 (.reg [[⟨some 13, .bin .lss (.t 12) (.t 11), none⟩]])
 (.seq
 (.cond (.t 13)
 (.skip)
 (.exit 0))
 (.seq
 (.block 1 (.seq
 (.reg [[⟨some 14, .mv (.t 12), none⟩,
 ⟨some 6, .mv (.t 14), none⟩]])
 (.reg [[⟨some 15, .mv (.t 5), none⟩,
 ⟨some 16, .mv (.t 6), none⟩,
 ⟨some 17, .mv (.t 0), none⟩,
 ⟨some 18, .mv (.t 6), none⟩,
 ⟨some 19, .iAddr 1 (.t 17) (.t 18), none⟩,
 ⟨some 20, .load1 (.t 19), none⟩,
 ⟨some 21, .bin .mul (.t 20) (.c (.int .i64 4096)), none⟩,
 ⟨some 22, .mv (.t 1), none⟩,
 ⟨some 23, .mv (.t 6), none⟩,
 ⟨some 24, .iAddr 1 (.t 22) (.t 23), none⟩,
 ⟨some 25, .load1 (.t 24), none⟩,
 ⟨some 26, .bin .add (.t 21) (.t 25), none⟩,
 ⟨some 27, .iAddr 1 (.t 15) (.t 16), none⟩,
 ⟨none, .store 1 (.t 27) (.t 26), none⟩]])))
 (.reg [[⟨some 28, .bin .add (.t 12) (.c (.int .i64 1)), none⟩,
 ⟨some 12, .mv (.t 28), none⟩]])))))))
 (.seq
 (.reg [[⟨some 29, .mv (.t 5), none⟩,
 ⟨some 30, .callF N_semigroupref03_Canonical [.t 29], none⟩,
 ⟨some 4, .mv (.t 30), none⟩]])
 (.ret))))
def f_semigroupref03_Meet : FnC := ⟨31, [.t 4], c_semigroupref03_Meet⟩

def c_semigroupref22_meet : C :=
 .seq
 (.reg [[⟨some 6, .mv (.c (.nils)), none⟩]])
 (.seq
 (.reg [[⟨some 10, .mv (.t 0), none⟩,
 ⟨some 11, .mkS [.int .i64 0] 8 (.t 10) (.t 10), none⟩,
 ⟨some 7, .mv (.t 11), none⟩]])
 (.seq
 (.seq
 (.reg [[⟨some 12, .mv (.t 1), none⟩,
 ⟨some 13, .lenS (.t 12), none⟩,
 ⟨some 14, .mv (.c (.int .i64 0)), none⟩]])
 (.block 0 (.loop (.seq
 (.reg [[⟨some 15, .bin .lss (.t 14) (.t 13), none⟩]])
 (.seq
 (.cond (.t 15)
 (.skip)
 (.exit 0))
 (.seq
 (.block 1 (.seq
 (.reg [[⟨some 16, .mv (.t 14), none⟩,
 ⟨some 17, .iAddr 1 (.t 12) (.t 14), none⟩,
 ⟨some 18, .load1 (.t 17), none⟩,
 ⟨some 8, .mv (.t 16), none⟩,
 ⟨some 9, .mv (.t 18), none⟩]])
 (.seq
 (.reg [[⟨some 19, .mv (.t 8), none⟩,
 ⟨some 20, .mv (.t 2), none⟩,
 ⟨some 21, .bin .neq (.t 19) (.t 20), none⟩]])
 (.cond (.t 21)
 (.reg [[⟨some 22, .mv (.t 7), none⟩,
 ⟨some 23, .mv (.t 9), none⟩,
 ⟨some 24, .callF N_semigroupref03_Meet [.t 22, .t 23], none⟩,
 ⟨some 7, .mv (.t 24), none⟩]])
 (.skip)))))
 (.reg [[⟨some 25, .bin .add (.t 14) (.c (.int .i64 1)), none⟩,
 ⟨some 14, .mv (.t 25), none⟩]])))))))
 (.seq
 (.reg [[⟨some 26, .mv (.t 7), none⟩,
 ⟨some 6, .mv (.t 26), none⟩]])
 (.ret))))
def f_semigroupref22_meet : FnC := ⟨27, [.t 6], c_semigroupref22_meet⟩

def c_semigroupref22_Check : C :=
 .seq
 (.reg [[⟨some 4, .mv (.c (.bool false)), none⟩]])
 (.seq
 (.seq
 (.reg [[⟨some 10, .mv (.t 0), none⟩,
 ⟨some 11, .callF N_semigroupref14_Valid [.t 10], none⟩,
 ⟨some 12, .un .not (.t 11), none⟩]])
 (.cond (.t 12)
 (.seq
 (.reg [[⟨some 4, .mv (.c (.bool false)), none⟩]])
 (.ret))
 (.skip)))
 (.seq
 (.seq
 (.reg [[⟨some 13, .mv (.t 1), none⟩,
 ⟨some 14, .lenS (.t 13), none⟩,
 ⟨some 15, .mv (.c (.int .i64 0)), none⟩]])
 (.block 0 (.loop (.seq
 (.reg [[⟨some 16, .bin .lss (.t 15) (.t 14), none⟩]])
 (.seq
 (.cond (.t 16)
 (.skip)
 (.exit 0))
 (.seq
 (.block 1 (.seq
 (.reg [[⟨some 17, .iAddr 1 (.t 13) (.t 15), none⟩,
 ⟨some 18, .load1 (.t 17), none⟩,
 ⟨some 6, .mv (.t 18), none⟩]])
 (.seq
 (.seq
 (.reg [[⟨some 19, .mv (.t 0), none⟩,
 ⟨some 20, .mv (.t 6), none⟩,
 ⟨some 21, .callF N_semigroupref19_IsCongruence [.t 19, .t 20, .c (.int .i64 0)], none⟩,
 ⟨some 22, .un .not (.t 21), none⟩]])
 (.cond (.t 22)
 (.seq
 (.reg [[⟨some 4, .mv (.c (.bool false)), none⟩]])
 (.ret))
 (.skip)))
 (.seq
 (.reg [[⟨some 24, .mv (.t 0), none⟩,
 ⟨some 25, .mv (.t 6), none⟩,
 ⟨some 26, .callF N_semigroupref19_Quotient [.t 24, .t 25], none⟩,
 ⟨some 27, .callF N_semigroupref22_Irreducible [.t 26], none⟩,
 ⟨some 23, .mv (.t 27), none⟩,
 ⟨some 28, .ext 0 (.t 23), none⟩,
 ⟨some 29, .ext 1 (.t 23), none⟩,
 ⟨some 7, .mv (.t 28), none⟩,
 ⟨some 8, .mv (.t 29), none⟩]])
 (.seq
 (.reg [[⟨some 30, .mv (.t 8), none⟩,
 ⟨some 31, .un .not (.t 30), none⟩]])
 (.cond (.t 31)
 (.seq
 (.reg [[⟨some 4, .mv (.c (.bool false)), none⟩]])
 (.ret))
 (.skip)))))))
 (.reg [[⟨some 32, .bin .add (.t 15) (.c (.int .i64 1)), none⟩,
 ⟨some 15, .mv (.t 32), none⟩]])))))))
 (.seq
 (.seq
 (.reg [[⟨some 33, .mv (.t 0), none⟩,
 ⟨some 34, .lenS (.t 33), none⟩,
 ⟨some 35, .mv (.t 1), none⟩,
 ⟨some 36, .callF N_semigroupref22_meet [.t 34, .t 35, .c (.int .i64 (-1))], none⟩,
 ⟨some 37, .callF N_semigroupref03_Count [.t 36], none⟩,
 ⟨some 38, .mv (.t 0), none⟩,
 ⟨some 39, .lenS (.t 38), none⟩,
 ⟨some 40, .bin .neq (.t 37) (.t 39), none⟩]])
 (.cond (.t 40)
 (.seq
 (.reg [[⟨some 4, .mv (.c (.bool false)), none⟩]])
 (.ret))
 (.skip)))
 (.seq
 (.seq
 (.reg [[⟨some 41, .mv (.t 1), none⟩,
 ⟨some 42, .lenS (.t 41), none⟩,
 ⟨some 43, .mv (.c (.int .i64 0)), none⟩]])
 (.block 2 (.loop (.seq
 (.reg [[⟨some 44, .bin .lss (.t 43) (.t 42), none⟩]])
 (.seq
 (.cond (.t 44)
 (.skip)
 (.exit 2))
 (.seq
 (.block 3 (.seq
 (.reg [[⟨some 45, .mv (.t 43), none⟩,
 ⟨some 9, .mv (.t 45), none⟩]])
 (.seq
 (.reg [[⟨some 46, .mv (.t 0), none⟩,
 ⟨some 47, .lenS (.t 46), none⟩,
 ⟨some 48, .mv (.t 1), none⟩,
 ⟨some 49, .mv (.t 9), none⟩,
 ⟨some 50, .callF N_semigroupref22_meet [.t 47, .t 48, .t 49], none⟩,
 ⟨some 51, .callF N_semigroupref03_Count [.t 50], none⟩,
 ⟨some 52, .mv (.t 0), none⟩,
 ⟨some 53, .lenS (.t 52), none⟩,
 ⟨some 54, .bin .eql (.t 51) (.t 53), none⟩]])
 (.cond (.t 54)
 (.seq
 (.reg [[⟨some 4, .mv (.c (.bool false)), none⟩]])
 (.ret))
 (.skip)))))
 (.reg [[⟨some 55, .bin .add (.t 43) (.c (.int .i64 1)), none⟩,
 ⟨some 43, .mv (.t 55), none⟩]])))))))
 (.seq
 (.reg [[⟨some 4, .mv (.c (.bool true)), none⟩]])
 (.ret))))))
def f_semigroupref22_Check : FnC := ⟨56, [.t 4], c_semigroupref22_Check⟩

def c_subdirect_apart : C :=
 .seq
 (.reg [[⟨some 6, .mv (.c (.nils)), none⟩]])
 (.seq
 (.reg [[⟨some 13, .mv (.t 0), none⟩,
 ⟨some 14, .lenS (.t 13), none⟩,
 ⟨some 15, .callF N_partition_Discrete [.t 14], none⟩,
 ⟨some 7, .mv (.t 15), none⟩]])
 (.seq
 (.reg [[⟨some 16, .lit [] 2 0 [], none⟩,
 ⟨some 8, .mv (.t 16), none⟩]])
 (.seq
 (.seq
 (.reg [[⟨some 17, .mv (.t 0), none⟩,
 ⟨some 18, .lenS (.t 17), none⟩,
 ⟨some 19, .mv (.c (.int .i64 0)), none⟩]])
 (.block 0 (.loop (.seq
 (.reg [[⟨some 20, .bin .lss (.t 19) (.t 18), none⟩]])
 (.seq
 (.cond (.t 20)
 (.skip)
 (.exit 0))
 (.seq
 (.block 1 (.seq
 (.reg [[⟨some 21, .mv (.t 19), none⟩,
 ⟨some 9, .mv (.t 21), none⟩]])
 (.seq
 (.reg [[⟨some 10, .mv (.c (.int .i64 0)), none⟩]])
 (.block 2 (.loop (.seq
 (.seq
 (.reg [[⟨some 22, .mv (.t 10), none⟩,
 ⟨some 23, .mv (.t 9), none⟩,
 ⟨some 24, .bin .lss (.t 22) (.t 23), none⟩]])
 (.cond (.t 24)
 (.skip)
 (.exit 2)))
 (.seq
 (.block 3 (.seq
 (.seq
 (.reg [[⟨some 27, .mv (.t 7), none⟩,
 ⟨some 28, .mv (.t 10), none⟩,
 ⟨some 29, .iAddr 1 (.t 27) (.t 28), none⟩,
 ⟨some 30, .load1 (.t 29), none⟩,
 ⟨some 31, .mv (.t 7), none⟩,
 ⟨some 32, .mv (.t 9), none⟩,
 ⟨some 33, .iAddr 1 (.t 31) (.t 32), none⟩,
 ⟨some 34, .load1 (.t 33), none⟩,
 ⟨some 35, .bin .eql (.t 30) (.t 34), none⟩]])
 (.cond (.t 35)
 (.exit 3)
 (.skip)))
 (.seq
 (.reg [[⟨some 36, .lit [] 2 0 [], none⟩,
 ⟨some 37, .mv (.t 8), none⟩,
 ⟨some 38, .app [.int .i64 0, .int .i64 0] 16 (.t 36) (.t 37), none⟩,
 ⟨some 39, .mv (.t 10), none⟩,
 ⟨some 40, .mv (.t 9), none⟩,
 ⟨some 41, .build [.int .i64 0, .int .i64 0] [(0, 1, .t 39), (1, 1, .t 40)], none⟩,
 ⟨some 42, .lit [.int .i64 0, .int .i64 0] 2 1 [(0, 2, .t 41)], none⟩,
 ⟨some 43, .app [.int .i64 0, .int .i64 0] 16 (.t 38) (.t 42), none⟩,
 ⟨some 11, .mv (.t 43), none⟩]])
 (.seq
 (.reg [[⟨some 44, .mv (.t 0), none⟩,
 ⟨some 45, .mv (.t 11), none⟩,
 ⟨some 46, .callF N_congr_Generated [.t 44, .t 45, .c (.int .i64 0)], none⟩,
 ⟨some 12, .mv (.t 46), none⟩]])
 (.seq
 (.reg [[⟨some 47, .mv (.t 12), none⟩,
 ⟨some 48, .mv (.t 1), none⟩,
 ⟨some 49, .iAddr 1 (.t 47) (.t 48), none⟩,
 ⟨some 50, .load1 (.t 49), none⟩,
 ⟨some 51, .mv (.t 12), none⟩,
 ⟨some 52, .mv (.t 2), none⟩,
 ⟨some 53, .iAddr 1 (.t 51) (.t 52), none⟩,
 ⟨some 54, .load1 (.t 53), none⟩,
 ⟨some 55, .bin .neq (.t 50) (.t 54), none⟩]])
 (.cond (.t 55)
 (.reg [[⟨some 56, .mv (.t 12), none⟩,
 ⟨some 57, .mv (.t 11), none⟩,
 ⟨some 7, .mv (.t 56), none⟩,
 ⟨some 8, .mv (.t 57), none⟩]])
 (.skip)))))))
 (.reg [[⟨some 25, .mv (.t 10), none⟩,
 ⟨some 26, .bin .add (.t 25) (.c (.int .i64 1)), none⟩,
 ⟨some 10, .mv (.t 26), none⟩]]))))))))
 (.reg [[⟨some 58, .bin .add (.t 19) (.c (.int .i64 1)), none⟩,
 ⟨some 19, .mv (.t 58), none⟩]])))))))
 (.seq
 (.reg [[⟨some 59, .mv (.t 7), none⟩,
 ⟨some 6, .mv (.t 59), none⟩]])
 (.ret)))))
def f_subdirect_apart : FnC := ⟨60, [.t 6], c_subdirect_apart⟩

def c_subdirect_Decompose : C :=
 .seq
 (.reg [[⟨some 2, .mv (.c (.nils)), none⟩,
 ⟨some 3, .mv (.c (.int .i64 0)), none⟩]])
 (.seq
 (.seq
 (.reg [[⟨some 13, .mv (.t 0), none⟩,
 ⟨some 14, .callF N_mult_Validate [.t 13], none⟩,
 ⟨some 4, .mv (.t 14), none⟩]])
 (.seq
 (.reg [[⟨some 15, .mv (.t 4), none⟩,
 ⟨some 16, .bin .neq (.t 15) (.c (.int .i64 0)), none⟩]])
 (.cond (.t 16)
 (.seq
 (.reg [[⟨some 17, .mv (.t 4), none⟩,
 ⟨some 2, .mv (.c (.nils)), none⟩,
 ⟨some 3, .mv (.t 17), none⟩]])
 (.ret))
 (.skip))))
 (.seq
 (.reg [[⟨some 5, .mv (.c (.nils)), none⟩]])
 (.seq
 (.block 0 (.loop (.block 1 (.seq
 (.reg [[⟨some 18, .mv (.t 0), none⟩,
 ⟨some 19, .lenS (.t 18), none⟩,
 ⟨some 20, .mv (.t 5), none⟩,
 ⟨some 21, .callF N_subdirect_meet [.t 19, .t 20, .c (.int .i64 (-1))], none⟩,
 ⟨some 6, .mv (.t 21), none⟩]])
 (.seq
 (.seq
 (.reg [[⟨some 22, .mv (.t 6), none⟩,
 ⟨some 23, .callF N_subdirect_discrete [.t 22], none⟩]])
 (.cond (.t 23)
 (.exit 0)
 (.skip)))
 (.seq
 (.reg [[⟨some 24, .mkM, none⟩,
 ⟨some 7, .mv (.t 24), none⟩]])
 (.seq
 (.reg [[⟨some 25, .mv (.t 6), none⟩,
 ⟨some 26, .lenS (.t 25), none⟩,
 ⟨some 27, .mv (.c (.int .i64 0)), none⟩]])
 (.block 2 (.loop (.seq
 (.reg [[⟨some 28, .bin .lss (.t 27) (.t 26), none⟩]])
 (.seq
 (.cond (.t 28)
 (.skip)
 (.exit 2))
 (.seq
 (.block 3 (.seq
 (.reg [[⟨some 29, .mv (.t 27), none⟩,
 ⟨some 30, .iAddr 1 (.t 25) (.t 27), none⟩,
 ⟨some 31, .load1 (.t 30), none⟩,
 ⟨some 8, .mv (.t 29), none⟩,
 ⟨some 9, .mv (.t 31), none⟩]])
 (.seq
 (.seq
 (.reg [[⟨some 33, .mv (.t 7), none⟩,
 ⟨some 34, .mv (.t 9), none⟩,
 ⟨some 35, .look .int (.int .i64 0) true (.t 33) (.t 34), none⟩,
 ⟨some 32, .mv (.t 35), none⟩,
 ⟨some 36, .ext 0 (.t 32), none⟩,
 ⟨some 37, .ext 1 (.t 32), none⟩,
 ⟨some 10, .mv (.t 36), none⟩,
 ⟨some 11, .mv (.t 37), none⟩]])
 (.seq
 (.reg [[⟨some 38, .mv (.t 11), none⟩]])
 (.cond (.t 38)
 (.seq
 (.reg [[⟨some 39, .mv (.t 5), none⟩,
 ⟨some 40, .mv (.t 0), none⟩,
 ⟨some 41, .mv (.t 10), none⟩,
 ⟨some 42, .mv (.t 8), none⟩,
 ⟨some 43, .callF N_subdirect_apart [.t 40, .t 41, .t 42], none⟩,
 ⟨some 44, .lit [.nils] 1 1 [(0, 1, .t 43)], none⟩,
 ⟨some 45, .app [.nils] 24 (.t 39) (.t 44), none⟩,
 ⟨some 5, .mv (.t 45), none⟩]])
 (.exit 2))
 (.skip))))
 (.reg [[⟨some 46, .mv (.t 7), none⟩,
 ⟨some 47, .mv (.t 9), none⟩,
 ⟨some 48, .mv (.t 8), none⟩,
 ⟨none, .mset .int (.t 46) (.t 47) (.t 48), none⟩]]))))
 (.reg [[⟨some 49, .bin .add (.t 27) (.c (.int .i64 1)), none⟩,
 ⟨some 27, .mv (.t 49), none⟩]])))))))))))))
 (.seq
 (.seq
 (.reg [[⟨some 12, .mv (.c (.int .i64 0)), none⟩]])
 (.block 4 (.loop (.seq
 (.seq
 (.reg [[⟨some 50, .mv (.t 12), none⟩,
 ⟨some 51, .mv (.t 5), none⟩,
 ⟨some 52, .lenS (.t 51), none⟩,
 ⟨some 53, .bin .lss (.t 50) (.t 52), none⟩]])
 (.cond (.t 53)
 (.skip)
 (.exit 4)))
 (.block 5 (.seq
 (.reg [[⟨some 54, .mv (.t 0), none⟩,
 ⟨some 55, .lenS (.t 54), none⟩,
 ⟨some 56, .mv (.t 5), none⟩,
 ⟨some 57, .mv (.t 12), none⟩,
 ⟨some 58, .callF N_subdirect_meet [.t 55, .t 56, .t 57], none⟩,
 ⟨some 59, .callF N_subdirect_discrete [.t 58], none⟩]])
 (.cond (.t 59)
 (.reg [[⟨some 60, .lit [] 1 0 [], none⟩,
 ⟨some 61, .mv (.t 5), none⟩,
 ⟨some 62, .mv (.t 12), none⟩,
 ⟨some 63, .slS 1 (.t 61) none (some (.t 62)) none, none⟩,
 ⟨some 64, .app [.nils] 24 (.t 60) (.t 63), none⟩,
 ⟨some 65, .mv (.t 5), none⟩,
 ⟨some 66, .mv (.t 12), none⟩,
 ⟨some 67, .bin .add (.t 66) (.c (.int .i64 1)), none⟩,
 ⟨some 68, .slS 1 (.t 65) (some (.t 67)) none none, none⟩,
 ⟨some 69, .app [.nils] 24 (.t 64) (.t 68), none⟩,
 ⟨some 5, .mv (.t 69), none⟩]])
 (.reg [[⟨some 70, .mv (.t 12), none⟩,
 ⟨some 71, .bin .add (.t 70) (.c (.int .i64 1)), none⟩,
 ⟨some 12, .mv (.t 71), none⟩]]))))))))
 (.seq
 (.reg [[⟨some 72, .mv (.t 5), none⟩,
 ⟨some 2, .mv (.t 72), none⟩,
 ⟨some 3, .mv (.c (.int .i64 0)), none⟩]])
 (.ret))))))
def f_subdirect_Decompose : FnC := ⟨73, [.t 2, .t 3], c_subdirect_Decompose⟩

def c_semigrouplaw22_SubdirectDecomposes : C :=
 .seq
 (.reg [[⟨some 2, .mv (.c (.bool false)), none⟩]])
 (.seq
 (.seq
 (.reg [[⟨some 6, .mv (.t 0), none⟩,
 ⟨some 7, .callF N_semigrouplaw22_large [.t 6, .c (.int .i64 8)], none⟩]])
 (.cond (.t 7)
 (.seq
 (.reg [[⟨some 8, .callF N_semigrouplaw22_awake [], none⟩,
 ⟨some 2, .mv (.t 8), none⟩]])
 (.ret))
 (.skip)))
 (.seq
 (.reg [[⟨some 10, .mv (.t 0), none⟩,
 ⟨some 11, .callF N_subdirect_Decompose [.t 10], none⟩,
 ⟨some 9, .mv (.t 11), none⟩,
 ⟨some 12, .ext 0 (.t 9), none⟩,
 ⟨some 13, .ext 1 (.t 9), none⟩,
 ⟨some 3, .mv (.t 12), none⟩,
 ⟨some 4, .mv (.t 13), none⟩]])
 (.seq
 (.seq
 (.reg [[⟨some 14, .mv (.t 0), none⟩,
 ⟨some 15, .callF N_semigroupref14_Validate [.t 14], none⟩,
 ⟨some 5, .mv (.t 15), none⟩]])
 (.seq
 (.reg [[⟨some 16, .mv (.t 5), none⟩,
 ⟨some 17, .bin .neq (.t 16) (.c (.int .i64 0)), none⟩]])
 (.cond (.t 17)
 (.seq
 (.reg [[⟨some 18, .mv (.t 4), none⟩,
 ⟨some 19, .mv (.t 5), none⟩,
 ⟨some 20, .bin .eql (.t 18) (.t 19), none⟩,
 ⟨some 21, .mv (.t 20), none⟩,
 ⟨some 22, .mv (.t 3), some (some 21, true)⟩,
 ⟨some 23, .lenS (.t 22), some (some 21, true)⟩,
 ⟨some 24, .bin .eql (.t 23) (.c (.int .i64 0)), some (some 21, true)⟩,
 ⟨some 25, .pick (.t 21) (.t 24) (.c (.bool false)), none⟩,
 ⟨some 26, .mv (.t 25), none⟩,
 ⟨some 27, .callF N_semigrouplaw22_awake [], some (some 26, true)⟩,
 ⟨some 28, .pick (.t 26) (.t 27) (.c (.bool false)), none⟩,
 ⟨some 2, .mv (.t 28), none⟩]])
 (.ret))
 (.skip))))
 (.seq
 (.reg [[⟨some 29, .mv (.t 4), none⟩,
 ⟨some 30, .bin .eql (.t 29) (.c (.int .i64 0)), none⟩,
 ⟨some 31, .mv (.t 30), none⟩,
 ⟨some 32, .mv (.t 0), some (some 31, true)⟩,
 ⟨some 33, .mv (.t 3), some (some 31, true)⟩,
 ⟨some 34, .callF N_semigroupref22_Check [.t 32, .t 33], some (some 31, true)⟩,
 ⟨some 35, .pick (.t 31) (.t 34) (.c (.bool false)), none⟩,
 ⟨some 36, .mv (.t 35), none⟩,
 ⟨some 37, .mv (.t 0), some (some 36, true)⟩,
 ⟨some 38, .mv (.t 3), some (some 36, true)⟩,
 ⟨some 39, .callF N_subdirect_Check [.t 37, .t 38], some (some 36, true)⟩,
 ⟨some 40, .pick (.t 36) (.t 39) (.c (.bool false)), none⟩,
 ⟨some 41, .mv (.t 40), none⟩,
 ⟨some 42, .mv (.t 3), some (some 41, true)⟩,
 ⟨some 43, .lenS (.t 42), some (some 41, true)⟩,
 ⟨some 44, .bin .eql (.t 43) (.c (.int .i64 0)), some (some 41, true)⟩,
 ⟨some 45, .mv (.t 0), some (some 41, true)⟩,
 ⟨some 46, .lenS (.t 45), some (some 41, true)⟩,
 ⟨some 47, .bin .eql (.t 46) (.c (.int .i64 1)), some (some 41, true)⟩,
 ⟨some 48, .eqv .bool false (.t 44) (.t 47), some (some 41, true)⟩,
 ⟨some 49, .pick (.t 41) (.t 48) (.c (.bool false)), none⟩,
 ⟨some 50, .mv (.t 49), none⟩,
 ⟨some 51, .callF N_semigrouplaw22_awake [], some (some 50, true)⟩,
 ⟨some 52, .pick (.t 50) (.t 51) (.c (.bool false)), none⟩,
 ⟨some 2, .mv (.t 52), none⟩]])
 (.ret)))))
def f_semigrouplaw22_SubdirectDecomposes : FnC := ⟨53, [.t 2], c_semigrouplaw22_SubdirectDecomposes⟩

def tab : List (Nat × FnC) := [(36, f_semigroupref14_Shape), (10, f_semigrouplaw22_large), (59, f_mult_shape), (60, f_mult_failing), (38, f_mult_Validate), (22, f_partition_Trivial), (24, f_partition_Canonical), (49, f_partition_Valid), (48, f_partition_both), (23, f_partition_Meet), (65, f_partition_Discrete), (97, f_congr_forest_find), (74, f_congr_forest_join), (75, f_congr_forest_partition), (58, f_congr_generated), (34, f_congr_Generated), (25, f_partition_Count), (41, f_subdirect_discrete), (39, f_subdirect_monolith), (12, f_subdirect_Irreducible), (53, f_congr_firsts), (52, f_congr_is), (31, f_congr_Quotient), (42, f_subdirect_meet), (15, f_subdirect_Check), (37, f_semigrouplaw22_klein), (11, f_semigrouplaw22_awake), (47, f_semigroupref14_Associative), (18, f_semigroupref14_Validate), (27, f_semigroupref14_Valid), (14, f_semigroupref03_Same), (98, f_semigroupref03_Less), (76, f_semigroupref03_InsertRow), (66, f_semigroupref03_Canonical), (100, f_semigroupref03_Merge), (106, f_semigroupref03_Discrete), (99, f_semigroupref03_FromPairs), (77, f_semigroupref19_Generated), (61, f_semigroupref19_Principal), (62, f_semigroupref03_Refines), (40, f_semigroupref19_Minimal), (13, f_semigroupref22_Irreducible), (51, f_semigroupref03_Valid), (28, f_semigroupref19_IsCongruence), (44, f_semigroupref03_Count), (63, f_semigroupref03_Classes), (43, f_semigroupref19_Quotient), (64, f_semigroupref03_Meet), (45, f_semigroupref22_meet), (16, f_semigroupref22_Check), (46, f_subdirect_apart), (17, f_subdirect_Decompose), (5, f_semigrouplaw22_SubdirectDecomposes)]
end Go.Proofs.Ytmdpejgnkoneoaa.Code
