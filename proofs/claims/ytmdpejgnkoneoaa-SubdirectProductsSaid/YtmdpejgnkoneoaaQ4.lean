/- Part 4 of the proof that the law SubdirectProducts holds: words and lemmas it rests on. No condition. -/
import Derived.Test.YtmdpejgnkoneoaaQ0
import Derived.Test.YtmdpejgnkoneoaaProg
import Derived.Test.YtmdpejgnkoneoaaQ2
import Derived.KernelRfl
import Derived.Test.YtmdpejgnkoneoaaQ3
set_option linter.unusedSimpArgs false
set_option linter.unusedVariables false
set_option linter.unnecessarySimpa false
set_option linter.unusedSectionVars false
set_option maxRecDepth 100000
namespace Go.Proofs.Ytmdpejgnkoneoaa.Code
open Go Go.AM

abbrev N_mult_shape : FuncId := 59
abbrev N_mult_failing : FuncId := 60
abbrev N_mult_Validate : FuncId := 38
abbrev N_partition_Trivial : FuncId := 22
abbrev N_partition_Canonical : FuncId := 24
abbrev N_partition_Valid : FuncId := 49
abbrev N_partition_both : FuncId := 48
abbrev N_partition_Meet : FuncId := 23
abbrev N_partition_Discrete : FuncId := 65
abbrev N_congr_forest_find : FuncId := 97
abbrev N_congr_forest_join : FuncId := 74
abbrev N_congr_forest_partition : FuncId := 75
abbrev N_congr_generated : FuncId := 58
abbrev N_congr_Generated : FuncId := 34
abbrev N_partition_Count : FuncId := 25
abbrev N_subdirect_discrete : FuncId := 41
abbrev N_subdirect_monolith : FuncId := 39
abbrev N_subdirect_Irreducible : FuncId := 12
abbrev N_congr_firsts : FuncId := 53
abbrev N_congr_is : FuncId := 52
abbrev N_congr_Quotient : FuncId := 31
abbrev N_subdirect_meet : FuncId := 42
abbrev N_subdirect_Check : FuncId := 15
abbrev N_semigrouplaw22_klein : FuncId := 37
abbrev N_semigrouplaw22_awake : FuncId := 11
abbrev N_subdirect_apart : FuncId := 46
abbrev N_subdirect_Decompose : FuncId := 17
abbrev N_semigroupref14_Shape : FuncId := 36
abbrev N_semigroupref14_Associative : FuncId := 47
abbrev N_semigroupref14_Validate : FuncId := 18
abbrev N_semigroupref14_Valid : FuncId := 27
abbrev N_semigrouplaw22_small : FuncId := 19
abbrev N_mult_Direct : FuncId := 21
abbrev N_semigrouplaw22_SubdirectProducts : FuncId := 7

def c_mult_shape : C := .seq (.reg [[⟨some 2, .mv (.c (.int .i64 0)), none⟩]]) (.seq (.block 0 (.seq (.reg [[⟨some 8, .mv (.t 0), none⟩, ⟨some 9, .lenS (.t 8), none⟩, ⟨some 10, .bin .gtr (.t 9) (.c (.int .i64 400)), none⟩, ⟨some 7, .mv (.t 10), none⟩]]) (.cond (.t 7) (.seq (.reg [[⟨some 2, .mv (.c (.int .i64 3)), none⟩]]) (.ret)) (.seq (.reg [[⟨some 12, .mv (.t 0), none⟩, ⟨some 13, .lenS (.t 12), none⟩, ⟨some 14, .bin .eql (.t 13) (.c (.int .i64 0)), none⟩, ⟨some 11, .mv (.t 14), none⟩]]) (.cond (.t 11) (.seq (.reg [[⟨some 2, .mv (.c (.int .i64 4)), none⟩]]) (.ret)) (.skip)))))) (.seq (.seq (.reg [[⟨some 15, .mv (.t 0), none⟩, ⟨some 16, .lenS (.t 15), none⟩, ⟨some 17, .mv (.c (.int .i64 0)), none⟩]]) (.block 1 (.loop (.seq (.reg [[⟨some 18, .bin .lss (.t 17) (.t 16), none⟩]]) (.seq (.cond (.t 18) (.skip) (.exit 1)) (.seq (.block 2 (.seq (.reg [[⟨some 19, .iAddr 1 (.t 15) (.t 17), none⟩, ⟨some 20, .load1 (.t 19), none⟩, ⟨some 4, .mv (.t 20), none⟩]]) (.seq (.seq (.reg [[⟨some 21, .mv (.t 4), none⟩, ⟨some 22, .lenS (.t 21), none⟩, ⟨some 23, .mv (.t 0), none⟩, ⟨some 24, .lenS (.t 23), none⟩, ⟨some 25, .bin .neq (.t 22) (.t 24), none⟩]]) (.cond (.t 25) (.seq (.reg [[⟨some 2, .mv (.c (.int .i64 4)), none⟩]]) (.ret)) (.skip))) (.seq (.reg [[⟨some 26, .mv (.t 4), none⟩, ⟨some 27, .lenS (.t 26), none⟩, ⟨some 28, .mv (.c (.int .i64 0)), none⟩]]) (.block 3 (.loop (.seq (.reg [[⟨some 29, .bin .lss (.t 28) (.t 27), none⟩]]) (.seq (.cond (.t 29) (.skip) (.exit 3)) (.seq (.block 4 (.seq (.reg [[⟨some 30, .iAddr 1 (.t 26) (.t 28), none⟩, ⟨some 31, .load1 (.t 30), none⟩, ⟨some 6, .mv (.t 31), none⟩]]) (.seq (.reg [[⟨some 32, .mv (.t 6), none⟩, ⟨some 33, .bin .lss (.t 32) (.c (.int .i64 0)), none⟩, ⟨some 34, .mv (.t 33), none⟩, ⟨some 35, .mv (.t 6), some (some 34, false)⟩, ⟨some 36, .mv (.t 0), some (some 34, false)⟩, ⟨some 37, .lenS (.t 36), some (some 34, false)⟩, ⟨some 38, .bin .geq (.t 35) (.t 37), some (some 34, false)⟩, ⟨some 39, .pick (.t 34) (.c (.bool true)) (.t 38), none⟩]]) (.cond (.t 39) (.seq (.reg [[⟨some 2, .mv (.c (.int .i64 4)), none⟩]]) (.ret)) (.skip))))) (.reg [[⟨some 40, .bin .add (.t 28) (.c (.int .i64 1)), none⟩, ⟨some 28, .mv (.t 40), none⟩]])))))))))) (.reg [[⟨some 41, .bin .add (.t 17) (.c (.int .i64 1)), none⟩, ⟨some 17, .mv (.t 41), none⟩]]))))))) (.seq (.reg [[⟨some 2, .mv (.c (.int .i64 0)), none⟩]]) (.ret))))
def f_mult_shape : FnC := ⟨42, [.t 2], c_mult_shape⟩

def c_mult_failing : C := .seq (.reg [[⟨some 2, .mv (.c (.int .i64 0)), none⟩, ⟨some 3, .mv (.c (.int .i64 0)), none⟩, ⟨some 4, .mv (.c (.int .i64 0)), none⟩, ⟨some 5, .mv (.c (.bool false)), none⟩]]) (.seq (.seq (.reg [[⟨some 9, .mv (.t 0), none⟩, ⟨some 10, .lenS (.t 9), none⟩, ⟨some 11, .mv (.c (.int .i64 0)), none⟩]]) (.block 0 (.loop (.seq (.reg [[⟨some 12, .bin .lss (.t 11) (.t 10), none⟩]]) (.seq (.cond (.t 12) (.skip) (.exit 0)) (.seq (.block 1 (.seq (.reg [[⟨some 13, .mv (.t 11), none⟩, ⟨some 6, .mv (.t 13), none⟩]]) (.seq (.reg [[⟨some 14, .mv (.t 0), none⟩, ⟨some 15, .lenS (.t 14), none⟩, ⟨some 16, .mv (.c (.int .i64 0)), none⟩]]) (.block 2 (.loop (.seq (.reg [[⟨some 17, .bin .lss (.t 16) (.t 15), none⟩]]) (.seq (.cond (.t 17) (.skip) (.exit 2)) (.seq (.block 3 (.seq (.reg [[⟨some 18, .mv (.t 16), none⟩, ⟨some 7, .mv (.t 18), none⟩]]) (.seq (.reg [[⟨some 19, .mv (.t 0), none⟩, ⟨some 20, .lenS (.t 19), none⟩, ⟨some 21, .mv (.c (.int .i64 0)), none⟩]]) (.block 4 (.loop (.seq (.reg [[⟨some 22, .bin .lss (.t 21) (.t 20), none⟩]]) (.seq (.cond (.t 22) (.skip) (.exit 4)) (.seq (.block 5 (.seq (.reg [[⟨some 23, .mv (.t 21), none⟩, ⟨some 8, .mv (.t 23), none⟩]]) (.seq (.reg [[⟨some 24, .mv (.t 0), none⟩, ⟨some 25, .mv (.t 0), none⟩, ⟨some 26, .mv (.t 6), none⟩, ⟨some 27, .iAddr 1 (.t 25) (.t 26), none⟩, ⟨some 28, .load1 (.t 27), none⟩, ⟨some 29, .mv (.t 7), none⟩, ⟨some 30, .iAddr 1 (.t 28) (.t 29), none⟩, ⟨some 31, .load1 (.t 30), none⟩, ⟨some 32, .iAddr 1 (.t 24) (.t 31), none⟩, ⟨some 33, .load1 (.t 32), none⟩, ⟨some 34, .mv (.t 8), none⟩, ⟨some 35, .iAddr 1 (.t 33) (.t 34), none⟩, ⟨some 36, .load1 (.t 35), none⟩, ⟨some 37, .mv (.t 0), none⟩, ⟨some 38, .mv (.t 6), none⟩, ⟨some 39, .iAddr 1 (.t 37) (.t 38), none⟩, ⟨some 40, .load1 (.t 39), none⟩, ⟨some 41, .mv (.t 0), none⟩, ⟨some 42, .mv (.t 7), none⟩, ⟨some 43, .iAddr 1 (.t 41) (.t 42), none⟩, ⟨some 44, .load1 (.t 43), none⟩, ⟨some 45, .mv (.t 8), none⟩, ⟨some 46, .iAddr 1 (.t 44) (.t 45), none⟩, ⟨some 47, .load1 (.t 46), none⟩, ⟨some 48, .iAddr 1 (.t 40) (.t 47), none⟩, ⟨some 49, .load1 (.t 48), none⟩, ⟨some 50, .bin .neq (.t 36) (.t 49), none⟩]]) (.cond (.t 50) (.seq (.reg [[⟨some 51, .mv (.t 6), none⟩, ⟨some 52, .mv (.t 7), none⟩, ⟨some 53, .mv (.t 8), none⟩, ⟨some 2, .mv (.t 51), none⟩, ⟨some 3, .mv (.t 52), none⟩, ⟨some 4, .mv (.t 53), none⟩, ⟨some 5, .mv (.c (.bool true)), none⟩]]) (.ret)) (.skip))))) (.reg [[⟨some 54, .bin .add (.t 21) (.c (.int .i64 1)), none⟩, ⟨some 21, .mv (.t 54), none⟩]]))))))))) (.reg [[⟨some 55, .bin .add (.t 16) (.c (.int .i64 1)), none⟩, ⟨some 16, .mv (.t 55), none⟩]]))))))))) (.reg [[⟨some 56, .bin .add (.t 11) (.c (.int .i64 1)), none⟩, ⟨some 11, .mv (.t 56), none⟩]]))))))) (.seq (.reg [[⟨some 2, .mv (.c (.int .i64 0)), none⟩, ⟨some 3, .mv (.c (.int .i64 0)), none⟩, ⟨some 4, .mv (.c (.int .i64 0)), none⟩, ⟨some 5, .mv (.c (.bool false)), none⟩]]) (.ret)))
def f_mult_failing : FnC := ⟨57, [.t 2, .t 3, .t 4, .t 5], c_mult_failing⟩

def c_mult_Validate : C := .seq (.reg [[⟨some 2, .mv (.c (.int .i64 0)), none⟩]]) (.seq (.seq (.reg [[⟨some 8, .mv (.t 0), none⟩, ⟨some 9, .callF N_mult_shape [.t 8], none⟩, ⟨some 3, .mv (.t 9), none⟩]]) (.seq (.reg [[⟨some 10, .mv (.t 3), none⟩, ⟨some 11, .bin .neq (.t 10) (.c (.int .i64 0)), none⟩]]) (.cond (.t 11) (.seq (.reg [[⟨some 12, .mv (.t 3), none⟩, ⟨some 2, .mv (.t 12), none⟩]]) (.ret)) (.skip)))) (.seq (.seq (.reg [[⟨some 14, .mv (.t 0), none⟩, ⟨some 15, .callF N_mult_failing [.t 14], none⟩, ⟨some 13, .mv (.t 15), none⟩, ⟨some 16, .ext 0 (.t 13), none⟩, ⟨some 17, .ext 1 (.t 13), none⟩, ⟨some 18, .ext 2 (.t 13), none⟩, ⟨some 19, .ext 3 (.t 13), none⟩, ⟨some 4, .mv (.t 16), none⟩, ⟨some 5, .mv (.t 17), none⟩, ⟨some 6, .mv (.t 18), none⟩, ⟨some 7, .mv (.t 19), none⟩]]) (.seq (.reg [[⟨some 20, .mv (.t 7), none⟩]]) (.cond (.t 20) (.seq (.reg [[⟨some 2, .mv (.c (.int .i64 5)), none⟩]]) (.ret)) (.skip)))) (.seq (.reg [[⟨some 2, .mv (.c (.int .i64 0)), none⟩]]) (.ret))))
def f_mult_Validate : FnC := ⟨21, [.t 2], c_mult_Validate⟩

def c_partition_Trivial : C := .seq (.reg [[⟨some 2, .mv (.c (.nils)), none⟩]]) (.seq (.seq (.reg [[⟨some 3, .mv (.t 0), none⟩, ⟨some 4, .bin .lss (.t 3) (.c (.int .i64 0)), none⟩, ⟨some 5, .mv (.t 4), none⟩, ⟨some 6, .mv (.t 0), some (some 5, false)⟩, ⟨some 7, .bin .gtr (.t 6) (.c (.int .i64 4096)), some (some 5, false)⟩, ⟨some 8, .pick (.t 5) (.c (.bool true)) (.t 7), none⟩]]) (.cond (.t 8) (.seq (.reg [[⟨some 2, .mv (.c (.nils)), none⟩]]) (.ret)) (.skip))) (.seq (.reg [[⟨some 9, .mv (.t 0), none⟩, ⟨some 10, .mkS [.int .i64 0] 8 (.t 9) (.t 9), none⟩, ⟨some 2, .mv (.t 10), none⟩]]) (.ret)))
def f_partition_Trivial : FnC := ⟨11, [.t 2], c_partition_Trivial⟩

def c_partition_Canonical : C := .seq (.reg [[⟨some 2, .mv (.c (.nils)), none⟩]]) (.seq (.seq (.reg [[⟨some 9, .mv (.t 0), none⟩, ⟨some 10, .lenS (.t 9), none⟩, ⟨some 11, .bin .gtr (.t 10) (.c (.int .i64 4096)), none⟩]]) (.cond (.t 11) (.seq (.reg [[⟨some 2, .mv (.c (.nils)), none⟩]]) (.ret)) (.skip))) (.seq (.reg [[⟨some 12, .mkM, none⟩, ⟨some 3, .mv (.t 12), none⟩]]) (.seq (.reg [[⟨some 13, .mv (.t 0), none⟩, ⟨some 14, .lenS (.t 13), none⟩, ⟨some 15, .mkS [.int .i64 0] 8 (.t 14) (.t 14), none⟩, ⟨some 4, .mv (.t 15), none⟩]]) (.seq (.seq (.reg [[⟨some 16, .mv (.t 0), none⟩, ⟨some 17, .lenS (.t 16), none⟩, ⟨some 18, .mv (.c (.int .i64 0)), none⟩]]) (.block 0 (.loop (.seq (.reg [[⟨some 19, .bin .lss (.t 18) (.t 17), none⟩]]) (.seq (.cond (.t 19) (.skip) (.exit 0)) (.seq (.block 1 (.seq (.reg [[⟨some 20, .mv (.t 18), none⟩, ⟨some 21, .iAddr 1 (.t 16) (.t 18), none⟩, ⟨some 22, .load1 (.t 21), none⟩, ⟨some 5, .mv (.t 20), none⟩, ⟨some 6, .mv (.t 22), none⟩]]) (.seq (.reg [[⟨some 24, .mv (.t 3), none⟩, ⟨some 25, .mv (.t 6), none⟩, ⟨some 26, .look .int (.int .i64 0) true (.t 24) (.t 25), none⟩, ⟨some 23, .mv (.t 26), none⟩, ⟨some 27, .ext 0 (.t 23), none⟩, ⟨some 28, .ext 1 (.t 23), none⟩, ⟨some 7, .mv (.t 27), none⟩, ⟨some 8, .mv (.t 28), none⟩]]) (.seq (.seq (.reg [[⟨some 29, .mv (.t 8), none⟩, ⟨some 30, .un .not (.t 29), none⟩]]) (.cond (.t 30) (.seq (.reg [[⟨some 31, .mv (.t 3), none⟩, ⟨some 32, .lenM (.t 31), none⟩, ⟨some 7, .mv (.t 32), none⟩]]) (.reg [[⟨some 33, .mv (.t 3), none⟩, ⟨some 34, .mv (.t 6), none⟩, ⟨some 35, .mv (.t 7), none⟩, ⟨none, .mset .int (.t 33) (.t 34) (.t 35), none⟩]])) (.skip))) (.reg [[⟨some 36, .mv (.t 4), none⟩, ⟨some 37, .mv (.t 5), none⟩, ⟨some 38, .mv (.t 7), none⟩, ⟨some 39, .iAddr 1 (.t 36) (.t 37), none⟩, ⟨none, .store 1 (.t 39) (.t 38), none⟩]]))))) (.reg [[⟨some 40, .bin .add (.t 18) (.c (.int .i64 1)), none⟩, ⟨some 18, .mv (.t 40), none⟩]]))))))) (.seq (.reg [[⟨some 41, .mv (.t 4), none⟩, ⟨some 2, .mv (.t 41), none⟩]]) (.ret))))))
def f_partition_Canonical : FnC := ⟨42, [.t 2], c_partition_Canonical⟩

def c_partition_Valid : C := .seq (.reg [[⟨some 2, .mv (.c (.bool false)), none⟩]]) (.seq (.seq (.reg [[⟨some 6, .mv (.t 0), none⟩, ⟨some 7, .lenS (.t 6), none⟩, ⟨some 8, .bin .gtr (.t 7) (.c (.int .i64 4096)), none⟩]]) (.cond (.t 8) (.seq (.reg [[⟨some 2, .mv (.c (.bool false)), none⟩]]) (.ret)) (.skip))) (.seq (.reg [[⟨some 3, .mv (.c (.int .i64 0)), none⟩]]) (.seq (.seq (.reg [[⟨some 9, .mv (.t 0), none⟩, ⟨some 10, .lenS (.t 9), none⟩, ⟨some 11, .mv (.c (.int .i64 0)), none⟩]]) (.block 0 (.loop (.seq (.reg [[⟨some 12, .bin .lss (.t 11) (.t 10), none⟩]]) (.seq (.cond (.t 12) (.skip) (.exit 0)) (.seq (.block 1 (.seq (.reg [[⟨some 13, .iAddr 1 (.t 9) (.t 11), none⟩, ⟨some 14, .load1 (.t 13), none⟩, ⟨some 5, .mv (.t 14), none⟩]]) (.seq (.seq (.reg [[⟨some 15, .mv (.t 5), none⟩, ⟨some 16, .bin .lss (.t 15) (.c (.int .i64 0)), none⟩, ⟨some 17, .mv (.t 16), none⟩, ⟨some 18, .mv (.t 5), some (some 17, false)⟩, ⟨some 19, .mv (.t 3), some (some 17, false)⟩, ⟨some 20, .bin .gtr (.t 18) (.t 19), some (some 17, false)⟩, ⟨some 21, .pick (.t 17) (.c (.bool true)) (.t 20), none⟩]]) (.cond (.t 21) (.seq (.reg [[⟨some 2, .mv (.c (.bool false)), none⟩]]) (.ret)) (.skip))) (.seq (.reg [[⟨some 22, .mv (.t 5), none⟩, ⟨some 23, .mv (.t 3), none⟩, ⟨some 24, .bin .eql (.t 22) (.t 23), none⟩]]) (.cond (.t 24) (.reg [[⟨some 25, .mv (.t 3), none⟩, ⟨some 26, .bin .add (.t 25) (.c (.int .i64 1)), none⟩, ⟨some 3, .mv (.t 26), none⟩]]) (.skip)))))) (.reg [[⟨some 27, .bin .add (.t 11) (.c (.int .i64 1)), none⟩, ⟨some 11, .mv (.t 27), none⟩]]))))))) (.seq (.reg [[⟨some 2, .mv (.c (.bool true)), none⟩]]) (.ret)))))
def f_partition_Valid : FnC := ⟨28, [.t 2], c_partition_Valid⟩

def c_partition_both : C := .seq (.reg [[⟨some 4, .mv (.c (.bool false)), none⟩]]) (.seq (.reg [[⟨some 5, .mv (.t 0), none⟩, ⟨some 6, .lenS (.t 5), none⟩, ⟨some 7, .mv (.t 1), none⟩, ⟨some 8, .lenS (.t 7), none⟩, ⟨some 9, .bin .eql (.t 6) (.t 8), none⟩, ⟨some 10, .mv (.t 9), none⟩, ⟨some 11, .mv (.t 0), some (some 10, true)⟩, ⟨some 12, .callF N_partition_Valid [.t 11], some (some 10, true)⟩, ⟨some 13, .pick (.t 10) (.t 12) (.c (.bool false)), none⟩, ⟨some 14, .mv (.t 13), none⟩, ⟨some 15, .mv (.t 1), some (some 14, true)⟩, ⟨some 16, .callF N_partition_Valid [.t 15], some (some 14, true)⟩, ⟨some 17, .pick (.t 14) (.t 16) (.c (.bool false)), none⟩, ⟨some 4, .mv (.t 17), none⟩]]) (.ret))
def f_partition_both : FnC := ⟨18, [.t 4], c_partition_both⟩

def c_partition_Meet : C := .seq (.reg [[⟨some 4, .mv (.c (.nils)), none⟩]]) (.seq (.seq (.reg [[⟨some 7, .mv (.t 0), none⟩, ⟨some 8, .mv (.t 1), none⟩, ⟨some 9, .callF N_partition_both [.t 7, .t 8], none⟩, ⟨some 10, .un .not (.t 9), none⟩]]) (.cond (.t 10) (.seq (.reg [[⟨some 4, .mv (.c (.nils)), none⟩]]) (.ret)) (.skip))) (.seq (.reg [[⟨some 11, .mv (.t 0), none⟩, ⟨some 12, .lenS (.t 11), none⟩, ⟨some 13, .mkS [.int .i64 0] 8 (.t 12) (.t 12), none⟩, ⟨some 5, .mv (.t 13), none⟩]]) (.seq (.seq (.reg [[⟨some 14, .mv (.t 0), none⟩, ⟨some 15, .lenS (.t 14), none⟩, ⟨some 16, .mv (.c (.int .i64 0)), none⟩]]) (.block 0 (.loop (.seq (.reg [[⟨some 17, .bin .lss (.t 16) (.t 15), none⟩]]) (.seq (.cond (.t 17) (.skip) (.exit 0)) (.seq (.block 1 (.seq (.reg [[⟨some 18, .mv (.t 16), none⟩, ⟨some 6, .mv (.t 18), none⟩]]) (.reg [[⟨some 19, .mv (.t 5), none⟩, ⟨some 20, .mv (.t 6), none⟩, ⟨some 21, .mv (.t 0), none⟩, ⟨some 22, .mv (.t 6), none⟩, ⟨some 23, .iAddr 1 (.t 21) (.t 22), none⟩, ⟨some 24, .load1 (.t 23), none⟩, ⟨some 25, .bin .mul (.t 24) (.c (.int .i64 4096)), none⟩, ⟨some 26, .mv (.t 1), none⟩, ⟨some 27, .mv (.t 6), none⟩, ⟨some 28, .iAddr 1 (.t 26) (.t 27), none⟩, ⟨some 29, .load1 (.t 28), none⟩, ⟨some 30, .bin .add (.t 25) (.t 29), none⟩, ⟨some 31, .iAddr 1 (.t 19) (.t 20), none⟩, ⟨none, .store 1 (.t 31) (.t 30), none⟩]]))) (.reg [[⟨some 32, .bin .add (.t 16) (.c (.int .i64 1)), none⟩, ⟨some 16, .mv (.t 32), none⟩]]))))))) (.seq (.reg [[⟨some 33, .mv (.t 5), none⟩, ⟨some 34, .callF N_partition_Canonical [.t 33], none⟩, ⟨some 4, .mv (.t 34), none⟩]]) (.ret)))))
def f_partition_Meet : FnC := ⟨35, [.t 4], c_partition_Meet⟩

def c_partition_Discrete : C := .seq (.reg [[⟨some 2, .mv (.c (.nils)), none⟩]]) (.seq (.seq (.reg [[⟨some 5, .mv (.t 0), none⟩, ⟨some 6, .bin .lss (.t 5) (.c (.int .i64 0)), none⟩, ⟨some 7, .mv (.t 6), none⟩, ⟨some 8, .mv (.t 0), some (some 7, false)⟩, ⟨some 9, .bin .gtr (.t 8) (.c (.int .i64 4096)), some (some 7, false)⟩, ⟨some 10, .pick (.t 7) (.c (.bool true)) (.t 9), none⟩]]) (.cond (.t 10) (.seq (.reg [[⟨some 2, .mv (.c (.nils)), none⟩]]) (.ret)) (.skip))) (.seq (.reg [[⟨some 11, .mv (.t 0), none⟩, ⟨some 12, .mkS [.int .i64 0] 8 (.t 11) (.t 11), none⟩, ⟨some 3, .mv (.t 12), none⟩]]) (.seq (.seq (.reg [[⟨some 13, .mv (.t 3), none⟩, ⟨some 14, .lenS (.t 13), none⟩, ⟨some 15, .mv (.c (.int .i64 0)), none⟩]]) (.block 0 (.loop (.seq (.reg [[⟨some 16, .bin .lss (.t 15) (.t 14), none⟩]]) (.seq (.cond (.t 16) (.skip) (.exit 0)) (.seq (.block 1 (.seq (.reg [[⟨some 17, .mv (.t 15), none⟩, ⟨some 4, .mv (.t 17), none⟩]]) (.reg [[⟨some 18, .mv (.t 3), none⟩, ⟨some 19, .mv (.t 4), none⟩, ⟨some 20, .mv (.t 4), none⟩, ⟨some 21, .iAddr 1 (.t 18) (.t 19), none⟩, ⟨none, .store 1 (.t 21) (.t 20), none⟩]]))) (.reg [[⟨some 22, .bin .add (.t 15) (.c (.int .i64 1)), none⟩, ⟨some 15, .mv (.t 22), none⟩]]))))))) (.seq (.reg [[⟨some 23, .mv (.t 3), none⟩, ⟨some 2, .mv (.t 23), none⟩]]) (.ret)))))
def f_partition_Discrete : FnC := ⟨24, [.t 2], c_partition_Discrete⟩

def c_congr_forest_find : C := .seq (.reg [[⟨some 4, .mv (.c (.int .i64 0)), none⟩]]) (.seq (.block 0 (.loop (.seq (.seq (.reg [[⟨some 5, .mv (.t 0), none⟩, ⟨some 6, .mv (.t 1), none⟩, ⟨some 7, .iAddr 1 (.t 5) (.t 6), none⟩, ⟨some 8, .load1 (.t 7), none⟩, ⟨some 9, .mv (.t 1), none⟩, ⟨some 10, .bin .neq (.t 8) (.t 9), none⟩]]) (.cond (.t 10) (.skip) (.exit 0))) (.block 1 (.seq (.reg [[⟨some 11, .mv (.t 0), none⟩, ⟨some 12, .mv (.t 1), none⟩, ⟨some 13, .mv (.t 0), none⟩, ⟨some 14, .mv (.t 0), none⟩, ⟨some 15, .mv (.t 1), none⟩, ⟨some 16, .iAddr 1 (.t 14) (.t 15), none⟩, ⟨some 17, .load1 (.t 16), none⟩, ⟨some 18, .iAddr 1 (.t 13) (.t 17), none⟩, ⟨some 19, .load1 (.t 18), none⟩, ⟨some 20, .iAddr 1 (.t 11) (.t 12), none⟩, ⟨none, .store 1 (.t 20) (.t 19), none⟩]]) (.reg [[⟨some 21, .mv (.t 0), none⟩, ⟨some 22, .mv (.t 1), none⟩, ⟨some 23, .iAddr 1 (.t 21) (.t 22), none⟩, ⟨some 24, .load1 (.t 23), none⟩, ⟨some 1, .mv (.t 24), none⟩]])))))) (.seq (.reg [[⟨some 25, .mv (.t 1), none⟩, ⟨some 4, .mv (.t 25), none⟩]]) (.ret)))
def f_congr_forest_find : FnC := ⟨26, [.t 4], c_congr_forest_find⟩

def c_congr_forest_join : C := .block 0 (.loop (.seq (.seq (.reg [[⟨some 12, .mv (.t 3), none⟩, ⟨some 13, .lenS (.t 12), none⟩, ⟨some 14, .bin .gtr (.t 13) (.c (.int .i64 0)), none⟩]]) (.cond (.t 14) (.skip) (.exit 0))) (.block 1 (.seq (.reg [[⟨some 15, .mv (.t 3), none⟩, ⟨some 16, .mv (.t 3), none⟩, ⟨some 17, .lenS (.t 16), none⟩, ⟨some 18, .bin .sub (.t 17) (.c (.int .i64 1)), none⟩, ⟨some 19, .iAddr 2 (.t 15) (.t 18), none⟩, ⟨some 20, .loadA 2 (.t 19), none⟩, ⟨some 8, .alloc [.int .i64 0, .int .i64 0], none⟩, ⟨none, .store 2 (.t 8) (.t 20), none⟩]]) (.seq (.reg [[⟨some 21, .mv (.t 3), none⟩, ⟨some 22, .mv (.t 3), none⟩, ⟨some 23, .lenS (.t 22), none⟩, ⟨some 24, .bin .sub (.t 23) (.c (.int .i64 1)), none⟩, ⟨some 25, .slS 2 (.t 21) none (some (.t 24)) none, none⟩, ⟨some 3, .mv (.t 25), none⟩]]) (.seq (.reg [[⟨some 26, .mv (.t 0), none⟩, ⟨some 27, .iAddrA 2 1 (.t 8) (.c (.int .i64 0)), none⟩, ⟨some 28, .load1 (.t 27), none⟩, ⟨some 29, .callF N_congr_forest_find [.t 26, .t 28], none⟩, ⟨some 30, .mv (.t 0), none⟩, ⟨some 31, .iAddrA 2 1 (.t 8) (.c (.int .i64 1)), none⟩, ⟨some 32, .load1 (.t 31), none⟩, ⟨some 33, .callF N_congr_forest_find [.t 30, .t 32], none⟩, ⟨some 9, .mv (.t 29), none⟩, ⟨some 10, .mv (.t 33), none⟩], [⟨some 26, .mv (.t 0), none⟩, ⟨some 27, .iAddrA 2 1 (.t 8) (.c (.int .i64 0)), none⟩, ⟨some 28, .load1 (.t 27), none⟩, ⟨some 30, .mv (.t 0), none⟩, ⟨some 31, .iAddrA 2 1 (.t 8) (.c (.int .i64 1)), none⟩, ⟨some 32, .load1 (.t 31), none⟩, ⟨some 29, .callF N_congr_forest_find [.t 26, .t 28], none⟩, ⟨some 33, .callF N_congr_forest_find [.t 30, .t 32], none⟩, ⟨some 9, .mv (.t 29), none⟩, ⟨some 10, .mv (.t 33), none⟩]]) (.seq (.seq (.reg [[⟨some 34, .mv (.t 9), none⟩, ⟨some 35, .mv (.t 10), none⟩, ⟨some 36, .bin .eql (.t 34) (.t 35), none⟩]]) (.cond (.t 36) (.exit 1) (.skip))) (.seq (.reg [[⟨some 37, .mv (.t 0), none⟩, ⟨some 38, .mv (.t 9), none⟩, ⟨some 39, .mv (.t 10), none⟩, ⟨some 40, .iAddr 1 (.t 37) (.t 38), none⟩, ⟨none, .store 1 (.t 40) (.t 39), none⟩]]) (.seq (.reg [[⟨some 41, .mv (.t 1), none⟩, ⟨some 42, .lenS (.t 41), none⟩, ⟨some 43, .mv (.c (.int .i64 0)), none⟩]]) (.block 2 (.loop (.seq (.reg [[⟨some 44, .bin .lss (.t 43) (.t 42), none⟩]]) (.seq (.cond (.t 44) (.skip) (.exit 2)) (.seq (.block 3 (.seq (.reg [[⟨some 45, .mv (.t 43), none⟩, ⟨some 11, .mv (.t 45), none⟩]]) (.seq (.seq (.reg [[⟨some 46, .mv (.t 2), none⟩, ⟨some 47, .bin .neq (.t 46) (.c (.int .i64 2)), none⟩]]) (.cond (.t 47) (.reg [[⟨some 48, .mv (.t 3), none⟩, ⟨some 49, .mv (.t 1), none⟩, ⟨some 50, .mv (.t 11), none⟩, ⟨some 51, .iAddr 1 (.t 49) (.t 50), none⟩, ⟨some 52, .load1 (.t 51), none⟩, ⟨some 53, .iAddrA 2 1 (.t 8) (.c (.int .i64 0)), none⟩, ⟨some 54, .load1 (.t 53), none⟩, ⟨some 55, .iAddr 1 (.t 52) (.t 54), none⟩, ⟨some 56, .load1 (.t 55), none⟩, ⟨some 57, .mv (.t 1), none⟩, ⟨some 58, .mv (.t 11), none⟩, ⟨some 59, .iAddr 1 (.t 57) (.t 58), none⟩, ⟨some 60, .load1 (.t 59), none⟩, ⟨some 61, .iAddrA 2 1 (.t 8) (.c (.int .i64 1)), none⟩, ⟨some 62, .load1 (.t 61), none⟩, ⟨some 63, .iAddr 1 (.t 60) (.t 62), none⟩, ⟨some 64, .load1 (.t 63), none⟩, ⟨some 65, .build [.int .i64 0, .int .i64 0] [(0, 1, .t 56), (1, 1, .t 64)], none⟩, ⟨some 66, .lit [.int .i64 0, .int .i64 0] 2 1 [(0, 2, .t 65)], none⟩, ⟨some 67, .app [.int .i64 0, .int .i64 0] 16 (.t 48) (.t 66), none⟩, ⟨some 3, .mv (.t 67), none⟩]]) (.skip))) (.seq (.reg [[⟨some 68, .mv (.t 2), none⟩, ⟨some 69, .bin .neq (.t 68) (.c (.int .i64 1)), none⟩]]) (.cond (.t 69) (.reg [[⟨some 70, .mv (.t 3), none⟩, ⟨some 71, .mv (.t 1), none⟩, ⟨some 72, .iAddrA 2 1 (.t 8) (.c (.int .i64 0)), none⟩, ⟨some 73, .load1 (.t 72), none⟩, ⟨some 74, .iAddr 1 (.t 71) (.t 73), none⟩, ⟨some 75, .load1 (.t 74), none⟩, ⟨some 76, .mv (.t 11), none⟩, ⟨some 77, .iAddr 1 (.t 75) (.t 76), none⟩, ⟨some 78, .load1 (.t 77), none⟩, ⟨some 79, .mv (.t 1), none⟩, ⟨some 80, .iAddrA 2 1 (.t 8) (.c (.int .i64 1)), none⟩, ⟨some 81, .load1 (.t 80), none⟩, ⟨some 82, .iAddr 1 (.t 79) (.t 81), none⟩, ⟨some 83, .load1 (.t 82), none⟩, ⟨some 84, .mv (.t 11), none⟩, ⟨some 85, .iAddr 1 (.t 83) (.t 84), none⟩, ⟨some 86, .load1 (.t 85), none⟩, ⟨some 87, .build [.int .i64 0, .int .i64 0] [(0, 1, .t 78), (1, 1, .t 86)], none⟩, ⟨some 88, .lit [.int .i64 0, .int .i64 0] 2 1 [(0, 2, .t 87)], none⟩, ⟨some 89, .app [.int .i64 0, .int .i64 0] 16 (.t 70) (.t 88), none⟩, ⟨some 3, .mv (.t 89), none⟩]]) (.skip)))))) (.reg [[⟨some 90, .bin .add (.t 43) (.c (.int .i64 1)), none⟩, ⟨some 43, .mv (.t 90), none⟩]])))))))))))))))
def f_congr_forest_join : FnC := ⟨91, [], c_congr_forest_join⟩

def c_congr_forest_partition : C := .seq (.reg [[⟨some 2, .mv (.c (.nils)), none⟩]]) (.seq (.reg [[⟨some 5, .mv (.t 0), none⟩, ⟨some 6, .lenS (.t 5), none⟩, ⟨some 7, .mkS [.int .i64 0] 8 (.t 6) (.t 6), none⟩, ⟨some 3, .mv (.t 7), none⟩]]) (.seq (.seq (.reg [[⟨some 8, .mv (.t 3), none⟩, ⟨some 9, .lenS (.t 8), none⟩, ⟨some 10, .mv (.c (.int .i64 0)), none⟩]]) (.block 0 (.loop (.seq (.reg [[⟨some 11, .bin .lss (.t 10) (.t 9), none⟩]]) (.seq (.cond (.t 11) (.skip) (.exit 0)) (.seq (.block 1 (.seq (.reg [[⟨some 12, .mv (.t 10), none⟩, ⟨some 4, .mv (.t 12), none⟩]]) (.reg [[⟨some 13, .mv (.t 3), none⟩, ⟨some 14, .mv (.t 4), none⟩, ⟨some 15, .mv (.t 0), none⟩, ⟨some 16, .mv (.t 4), none⟩, ⟨some 17, .callF N_congr_forest_find [.t 15, .t 16], none⟩, ⟨some 18, .iAddr 1 (.t 13) (.t 14), none⟩, ⟨none, .store 1 (.t 18) (.t 17), none⟩]]))) (.reg [[⟨some 19, .bin .add (.t 10) (.c (.int .i64 1)), none⟩, ⟨some 10, .mv (.t 19), none⟩]]))))))) (.seq (.reg [[⟨some 20, .mv (.t 3), none⟩, ⟨some 21, .callF N_partition_Canonical [.t 20], none⟩, ⟨some 2, .mv (.t 21), none⟩]]) (.ret))))
def f_congr_forest_partition : FnC := ⟨22, [.t 2], c_congr_forest_partition⟩

def c_congr_generated : C := .seq (.reg [[⟨some 6, .mv (.c (.nils)), none⟩]]) (.seq (.reg [[⟨some 8, .mv (.t 0), none⟩, ⟨some 9, .lenS (.t 8), none⟩, ⟨some 10, .callF N_partition_Discrete [.t 9], none⟩, ⟨some 7, .mv (.t 10), none⟩]]) (.seq (.reg [[⟨some 11, .mv (.t 7), none⟩, ⟨some 12, .mv (.t 0), none⟩, ⟨some 13, .mv (.t 2), none⟩, ⟨some 14, .lit [] 2 0 [], none⟩, ⟨some 15, .mv (.t 1), none⟩, ⟨some 16, .app [.int .i64 0, .int .i64 0] 16 (.t 14) (.t 15), none⟩, ⟨some 17, .callF N_congr_forest_join [.t 11, .t 12, .t 13, .t 16], none⟩]]) (.seq (.reg [[⟨some 18, .mv (.t 7), none⟩, ⟨some 19, .callF N_congr_forest_partition [.t 18], none⟩, ⟨some 6, .mv (.t 19), none⟩]]) (.ret))))
def f_congr_generated : FnC := ⟨20, [.t 6], c_congr_generated⟩

def c_congr_Generated : C := .seq (.reg [[⟨some 6, .mv (.c (.nils)), none⟩]]) (.seq (.seq (.reg [[⟨some 9, .mv (.t 0), none⟩, ⟨some 10, .callF N_mult_Validate [.t 9], none⟩, ⟨some 11, .bin .neq (.t 10) (.c (.int .i64 0)), none⟩, ⟨some 12, .mv (.t 11), none⟩, ⟨some 13, .mv (.t 2), some (some 12, false)⟩, ⟨some 14, .bin .lss (.t 13) (.c (.int .i64 0)), some (some 12, false)⟩, ⟨some 15, .pick (.t 12) (.c (.bool true)) (.t 14), none⟩, ⟨some 16, .mv (.t 15), none⟩, ⟨some 17, .mv (.t 2), some (some 16, false)⟩, ⟨some 18, .bin .gtr (.t 17) (.c (.int .i64 2)), some (some 16, false)⟩, ⟨some 19, .pick (.t 16) (.c (.bool true)) (.t 18), none⟩]]) (.cond (.t 19) (.seq (.reg [[⟨some 6, .mv (.c (.nils)), none⟩]]) (.ret)) (.skip))) (.seq (.seq (.reg [[⟨some 20, .mv (.t 1), none⟩, ⟨some 21, .lenS (.t 20), none⟩, ⟨some 22, .mv (.c (.int .i64 0)), none⟩]]) (.block 0 (.loop (.seq (.reg [[⟨some 23, .bin .lss (.t 22) (.t 21), none⟩]]) (.seq (.cond (.t 23) (.skip) (.exit 0)) (.seq (.block 1 (.seq (.reg [[⟨some 24, .iAddr 2 (.t 20) (.t 22), none⟩, ⟨some 25, .loadA 2 (.t 24), none⟩, ⟨some 8, .alloc [.int .i64 0, .int .i64 0], none⟩, ⟨none, .store 2 (.t 8) (.t 25), none⟩]]) (.seq (.reg [[⟨some 26, .iAddrA 2 1 (.t 8) (.c (.int .i64 0)), none⟩, ⟨some 27, .load1 (.t 26), none⟩, ⟨some 28, .bin .lss (.t 27) (.c (.int .i64 0)), none⟩, ⟨some 29, .mv (.t 28), none⟩, ⟨some 30, .iAddrA 2 1 (.t 8) (.c (.int .i64 0)), some (some 29, false)⟩, ⟨some 31, .load1 (.t 30), some (some 29, false)⟩, ⟨some 32, .mv (.t 0), some (some 29, false)⟩, ⟨some 33, .lenS (.t 32), some (some 29, false)⟩, ⟨some 34, .bin .geq (.t 31) (.t 33), some (some 29, false)⟩, ⟨some 35, .pick (.t 29) (.c (.bool true)) (.t 34), none⟩, ⟨some 36, .mv (.t 35), none⟩, ⟨some 37, .iAddrA 2 1 (.t 8) (.c (.int .i64 1)), some (some 36, false)⟩, ⟨some 38, .load1 (.t 37), some (some 36, false)⟩, ⟨some 39, .bin .lss (.t 38) (.c (.int .i64 0)), some (some 36, false)⟩, ⟨some 40, .pick (.t 36) (.c (.bool true)) (.t 39), none⟩, ⟨some 41, .mv (.t 40), none⟩, ⟨some 42, .iAddrA 2 1 (.t 8) (.c (.int .i64 1)), some (some 41, false)⟩, ⟨some 43, .load1 (.t 42), some (some 41, false)⟩, ⟨some 44, .mv (.t 0), some (some 41, false)⟩, ⟨some 45, .lenS (.t 44), some (some 41, false)⟩, ⟨some 46, .bin .geq (.t 43) (.t 45), some (some 41, false)⟩, ⟨some 47, .pick (.t 41) (.c (.bool true)) (.t 46), none⟩]]) (.cond (.t 47) (.seq (.reg [[⟨some 6, .mv (.c (.nils)), none⟩]]) (.ret)) (.skip))))) (.reg [[⟨some 48, .bin .add (.t 22) (.c (.int .i64 1)), none⟩, ⟨some 22, .mv (.t 48), none⟩]]))))))) (.seq (.reg [[⟨some 49, .mv (.t 0), none⟩, ⟨some 50, .mv (.t 1), none⟩, ⟨some 51, .mv (.t 2), none⟩, ⟨some 52, .callF N_congr_generated [.t 49, .t 50, .t 51], none⟩, ⟨some 6, .mv (.t 52), none⟩]]) (.ret))))
def f_congr_Generated : FnC := ⟨53, [.t 6], c_congr_Generated⟩

def c_partition_Count : C := .seq (.reg [[⟨some 2, .mv (.c (.int .i64 0)), none⟩]]) (.seq (.seq (.reg [[⟨some 6, .mv (.t 0), none⟩, ⟨some 7, .callF N_partition_Valid [.t 6], none⟩, ⟨some 8, .un .not (.t 7), none⟩]]) (.cond (.t 8) (.seq (.reg [[⟨some 2, .mv (.c (.int .i64 0)), none⟩]]) (.ret)) (.skip))) (.seq (.reg [[⟨some 3, .mv (.c (.int .i64 0)), none⟩]]) (.seq (.seq (.reg [[⟨some 9, .mv (.t 0), none⟩, ⟨some 10, .lenS (.t 9), none⟩, ⟨some 11, .mv (.c (.int .i64 0)), none⟩]]) (.block 0 (.loop (.seq (.reg [[⟨some 12, .bin .lss (.t 11) (.t 10), none⟩]]) (.seq (.cond (.t 12) (.skip) (.exit 0)) (.seq (.block 1 (.seq (.reg [[⟨some 13, .iAddr 1 (.t 9) (.t 11), none⟩, ⟨some 14, .load1 (.t 13), none⟩, ⟨some 5, .mv (.t 14), none⟩]]) (.reg [[⟨some 15, .mv (.t 3), none⟩, ⟨some 16, .mv (.t 5), none⟩, ⟨some 17, .bin .add (.t 16) (.c (.int .i64 1)), none⟩, ⟨some 18, .max [.t 15, .t 17], none⟩, ⟨some 3, .mv (.t 18), none⟩]]))) (.reg [[⟨some 19, .bin .add (.t 11) (.c (.int .i64 1)), none⟩, ⟨some 11, .mv (.t 19), none⟩]]))))))) (.seq (.reg [[⟨some 20, .mv (.t 3), none⟩, ⟨some 2, .mv (.t 20), none⟩]]) (.ret)))))
def f_partition_Count : FnC := ⟨21, [.t 2], c_partition_Count⟩

def c_subdirect_discrete : C := .seq (.reg [[⟨some 2, .mv (.c (.bool false)), none⟩]]) (.seq (.reg [[⟨some 3, .mv (.t 0), none⟩, ⟨some 4, .callF N_partition_Count [.t 3], none⟩, ⟨some 5, .mv (.t 0), none⟩, ⟨some 6, .lenS (.t 5), none⟩, ⟨some 7, .bin .eql (.t 4) (.t 6), none⟩, ⟨some 2, .mv (.t 7), none⟩]]) (.ret))
def f_subdirect_discrete : FnC := ⟨8, [.t 2], c_subdirect_discrete⟩

def c_subdirect_monolith : C := .seq (.reg [[⟨some 2, .mv (.c (.nils)), none⟩]]) (.seq (.seq (.reg [[⟨some 6, .mv (.t 0), none⟩, ⟨some 7, .lenS (.t 6), none⟩, ⟨some 8, .bin .lss (.t 7) (.c (.int .i64 2)), none⟩]]) (.cond (.t 8) (.seq (.reg [[⟨some 2, .mv (.c (.nils)), none⟩]]) (.ret)) (.skip))) (.seq (.reg [[⟨some 9, .mv (.t 0), none⟩, ⟨some 10, .lenS (.t 9), none⟩, ⟨some 11, .callF N_partition_Trivial [.t 10], none⟩, ⟨some 3, .mv (.t 11), none⟩]]) (.seq (.seq (.reg [[⟨some 12, .mv (.t 0), none⟩, ⟨some 13, .lenS (.t 12), none⟩, ⟨some 14, .mv (.c (.int .i64 0)), none⟩]]) (.block 0 (.loop (.seq (.reg [[⟨some 15, .bin .lss (.t 14) (.t 13), none⟩]]) (.seq (.cond (.t 15) (.skip) (.exit 0)) (.seq (.block 1 (.seq (.reg [[⟨some 16, .mv (.t 14), none⟩, ⟨some 4, .mv (.t 16), none⟩]]) (.seq (.reg [[⟨some 5, .mv (.c (.int .i64 0)), none⟩]]) (.block 2 (.loop (.seq (.seq (.reg [[⟨some 17, .mv (.t 5), none⟩, ⟨some 18, .mv (.t 4), none⟩, ⟨some 19, .bin .lss (.t 17) (.t 18), none⟩]]) (.cond (.t 19) (.skip) (.exit 2))) (.seq (.block 3 (.seq (.reg [[⟨some 22, .mv (.t 3), none⟩, ⟨some 23, .mv (.t 0), none⟩, ⟨some 24, .mv (.t 5), none⟩, ⟨some 25, .mv (.t 4), none⟩, ⟨some 26, .build [.int .i64 0, .int .i64 0] [(0, 1, .t 24), (1, 1, .t 25)], none⟩, ⟨some 27, .lit [.int .i64 0, .int .i64 0] 2 1 [(0, 2, .t 26)], none⟩, ⟨some 28, .callF N_congr_Generated [.t 23, .t 27, .c (.int .i64 0)], none⟩, ⟨some 29, .callF N_partition_Meet [.t 22, .t 28], none⟩, ⟨some 3, .mv (.t 29), none⟩]]) (.seq (.reg [[⟨some 30, .mv (.t 3), none⟩, ⟨some 31, .callF N_subdirect_discrete [.t 30], none⟩]]) (.cond (.t 31) (.seq (.reg [[⟨some 2, .mv (.c (.nils)), none⟩]]) (.ret)) (.skip))))) (.reg [[⟨some 20, .mv (.t 5), none⟩, ⟨some 21, .bin .add (.t 20) (.c (.int .i64 1)), none⟩, ⟨some 5, .mv (.t 21), none⟩]])))))))) (.reg [[⟨some 32, .bin .add (.t 14) (.c (.int .i64 1)), none⟩, ⟨some 14, .mv (.t 32), none⟩]]))))))) (.seq (.reg [[⟨some 33, .mv (.t 3), none⟩, ⟨some 2, .mv (.t 33), none⟩]]) (.ret)))))
def f_subdirect_monolith : FnC := ⟨34, [.t 2], c_subdirect_monolith⟩

def c_subdirect_Irreducible : C := .seq (.reg [[⟨some 2, .mv (.c (.nils)), none⟩, ⟨some 3, .mv (.c (.bool false)), none⟩]]) (.seq (.seq (.reg [[⟨some 5, .mv (.t 0), none⟩, ⟨some 6, .callF N_mult_Validate [.t 5], none⟩, ⟨some 7, .bin .neq (.t 6) (.c (.int .i64 0)), none⟩]]) (.cond (.t 7) (.seq (.reg [[⟨some 2, .mv (.c (.nils)), none⟩, ⟨some 3, .mv (.c (.bool false)), none⟩]]) (.ret)) (.skip))) (.seq (.reg [[⟨some 8, .mv (.t 0), none⟩, ⟨some 9, .callF N_subdirect_monolith [.t 8], none⟩, ⟨some 4, .mv (.t 9), none⟩]]) (.seq (.reg [[⟨some 10, .mv (.t 4), none⟩, ⟨some 11, .mv (.t 4), none⟩, ⟨some 12, .eqv .sl true (.t 11) (.c (.nils)), none⟩, ⟨some 2, .mv (.t 10), none⟩, ⟨some 3, .mv (.t 12), none⟩]]) (.ret))))
def f_subdirect_Irreducible : FnC := ⟨13, [.t 2, .t 3], c_subdirect_Irreducible⟩

def c_congr_firsts : C := .seq (.reg [[⟨some 2, .mv (.c (.nils)), none⟩]]) (.seq (.reg [[⟨some 3, .mv (.c (.nils)), none⟩]]) (.seq (.seq (.reg [[⟨some 6, .mv (.t 0), none⟩, ⟨some 7, .lenS (.t 6), none⟩, ⟨some 8, .mv (.c (.int .i64 0)), none⟩]]) (.block 0 (.loop (.seq (.reg [[⟨some 9, .bin .lss (.t 8) (.t 7), none⟩]]) (.seq (.cond (.t 9) (.skip) (.exit 0)) (.seq (.block 1 (.seq (.reg [[⟨some 10, .mv (.t 8), none⟩, ⟨some 11, .iAddr 1 (.t 6) (.t 8), none⟩, ⟨some 12, .load1 (.t 11), none⟩, ⟨some 4, .mv (.t 10), none⟩, ⟨some 5, .mv (.t 12), none⟩]]) (.seq (.reg [[⟨some 13, .mv (.t 5), none⟩, ⟨some 14, .mv (.t 3), none⟩, ⟨some 15, .lenS (.t 14), none⟩, ⟨some 16, .bin .eql (.t 13) (.t 15), none⟩]]) (.cond (.t 16) (.reg [[⟨some 17, .mv (.t 3), none⟩, ⟨some 18, .mv (.t 4), none⟩, ⟨some 19, .lit [.int .i64 0] 1 1 [(0, 1, .t 18)], none⟩, ⟨some 20, .app [.int .i64 0] 8 (.t 17) (.t 19), none⟩, ⟨some 3, .mv (.t 20), none⟩]]) (.skip))))) (.reg [[⟨some 21, .bin .add (.t 8) (.c (.int .i64 1)), none⟩, ⟨some 8, .mv (.t 21), none⟩]]))))))) (.seq (.reg [[⟨some 22, .mv (.t 3), none⟩, ⟨some 2, .mv (.t 22), none⟩]]) (.ret))))
def f_congr_firsts : FnC := ⟨23, [.t 2], c_congr_firsts⟩

def c_congr_is : C := .seq (.reg [[⟨some 6, .mv (.c (.bool false)), none⟩]]) (.seq (.seq (.reg [[⟨some 12, .mv (.t 1), none⟩, ⟨some 13, .lenS (.t 12), none⟩, ⟨some 14, .mv (.t 0), none⟩, ⟨some 15, .lenS (.t 14), none⟩, ⟨some 16, .bin .neq (.t 13) (.t 15), none⟩, ⟨some 17, .mv (.t 16), none⟩, ⟨some 18, .mv (.t 1), some (some 17, false)⟩, ⟨some 19, .callF N_partition_Valid [.t 18], some (some 17, false)⟩, ⟨some 20, .un .not (.t 19), some (some 17, false)⟩, ⟨some 21, .pick (.t 17) (.c (.bool true)) (.t 20), none⟩]]) (.cond (.t 21) (.seq (.reg [[⟨some 6, .mv (.c (.bool false)), none⟩]]) (.ret)) (.skip))) (.seq (.reg [[⟨some 22, .mv (.t 1), none⟩, ⟨some 23, .callF N_congr_firsts [.t 22], none⟩, ⟨some 7, .mv (.t 23), none⟩]]) (.seq (.seq (.reg [[⟨some 24, .mv (.t 1), none⟩, ⟨some 25, .lenS (.t 24), none⟩, ⟨some 26, .mv (.c (.int .i64 0)), none⟩]]) (.block 0 (.loop (.seq (.reg [[⟨some 27, .bin .lss (.t 26) (.t 25), none⟩]]) (.seq (.cond (.t 27) (.skip) (.exit 0)) (.seq (.block 1 (.seq (.reg [[⟨some 28, .mv (.t 26), none⟩, ⟨some 29, .iAddr 1 (.t 24) (.t 26), none⟩, ⟨some 30, .load1 (.t 29), none⟩, ⟨some 8, .mv (.t 28), none⟩, ⟨some 9, .mv (.t 30), none⟩]]) (.seq (.reg [[⟨some 31, .mv (.t 7), none⟩, ⟨some 32, .mv (.t 9), none⟩, ⟨some 33, .iAddr 1 (.t 31) (.t 32), none⟩, ⟨some 34, .load1 (.t 33), none⟩, ⟨some 10, .mv (.t 34), none⟩]]) (.seq (.reg [[⟨some 35, .mv (.t 0), none⟩, ⟨some 36, .lenS (.t 35), none⟩, ⟨some 37, .mv (.c (.int .i64 0)), none⟩]]) (.block 2 (.loop (.seq (.reg [[⟨some 38, .bin .lss (.t 37) (.t 36), none⟩]]) (.seq (.cond (.t 38) (.skip) (.exit 2)) (.seq (.block 3 (.seq (.reg [[⟨some 39, .mv (.t 37), none⟩, ⟨some 11, .mv (.t 39), none⟩]]) (.seq (.reg [[⟨some 40, .mv (.t 2), none⟩, ⟨some 41, .bin .neq (.t 40) (.c (.int .i64 2)), none⟩, ⟨some 42, .mv (.t 41), none⟩, ⟨some 43, .mv (.t 1), some (some 42, true)⟩, ⟨some 44, .mv (.t 0), some (some 42, true)⟩, ⟨some 45, .mv (.t 11), some (some 42, true)⟩, ⟨some 46, .iAddr 1 (.t 44) (.t 45), some (some 42, true)⟩, ⟨some 47, .load1 (.t 46), some (some 42, true)⟩, ⟨some 48, .mv (.t 8), some (some 42, true)⟩, ⟨some 49, .iAddr 1 (.t 47) (.t 48), some (some 42, true)⟩, ⟨some 50, .load1 (.t 49), some (some 42, true)⟩, ⟨some 51, .iAddr 1 (.t 43) (.t 50), some (some 42, true)⟩, ⟨some 52, .load1 (.t 51), some (some 42, true)⟩, ⟨some 53, .mv (.t 1), some (some 42, true)⟩, ⟨some 54, .mv (.t 0), some (some 42, true)⟩, ⟨some 55, .mv (.t 11), some (some 42, true)⟩, ⟨some 56, .iAddr 1 (.t 54) (.t 55), some (some 42, true)⟩, ⟨some 57, .load1 (.t 56), some (some 42, true)⟩, ⟨some 58, .mv (.t 10), some (some 42, true)⟩, ⟨some 59, .iAddr 1 (.t 57) (.t 58), some (some 42, true)⟩, ⟨some 60, .load1 (.t 59), some (some 42, true)⟩, ⟨some 61, .iAddr 1 (.t 53) (.t 60), some (some 42, true)⟩, ⟨some 62, .load1 (.t 61), some (some 42, true)⟩, ⟨some 63, .bin .neq (.t 52) (.t 62), some (some 42, true)⟩, ⟨some 64, .pick (.t 42) (.t 63) (.c (.bool false)), none⟩, ⟨some 65, .mv (.t 64), none⟩, ⟨some 66, .mv (.t 2), some (some 65, false)⟩, ⟨some 67, .bin .neq (.t 66) (.c (.int .i64 1)), some (some 65, false)⟩, ⟨some 68, .mv (.t 67), some (some 65, false)⟩, ⟨some 69, .mv (.t 1), some (some 68, true)⟩, ⟨some 70, .mv (.t 0), some (some 68, true)⟩, ⟨some 71, .mv (.t 8), some (some 68, true)⟩, ⟨some 72, .iAddr 1 (.t 70) (.t 71), some (some 68, true)⟩, ⟨some 73, .load1 (.t 72), some (some 68, true)⟩, ⟨some 74, .mv (.t 11), some (some 68, true)⟩, ⟨some 75, .iAddr 1 (.t 73) (.t 74), some (some 68, true)⟩, ⟨some 76, .load1 (.t 75), some (some 68, true)⟩, ⟨some 77, .iAddr 1 (.t 69) (.t 76), some (some 68, true)⟩, ⟨some 78, .load1 (.t 77), some (some 68, true)⟩, ⟨some 79, .mv (.t 1), some (some 68, true)⟩, ⟨some 80, .mv (.t 0), some (some 68, true)⟩, ⟨some 81, .mv (.t 10), some (some 68, true)⟩, ⟨some 82, .iAddr 1 (.t 80) (.t 81), some (some 68, true)⟩, ⟨some 83, .load1 (.t 82), some (some 68, true)⟩, ⟨some 84, .mv (.t 11), some (some 68, true)⟩, ⟨some 85, .iAddr 1 (.t 83) (.t 84), some (some 68, true)⟩, ⟨some 86, .load1 (.t 85), some (some 68, true)⟩, ⟨some 87, .iAddr 1 (.t 79) (.t 86), some (some 68, true)⟩, ⟨some 88, .load1 (.t 87), some (some 68, true)⟩, ⟨some 89, .bin .neq (.t 78) (.t 88), some (some 68, true)⟩, ⟨some 90, .pick (.t 68) (.t 89) (.c (.bool false)), some (some 65, false)⟩, ⟨some 91, .pick (.t 65) (.c (.bool true)) (.t 90), none⟩]]) (.cond (.t 91) (.seq (.reg [[⟨some 6, .mv (.c (.bool false)), none⟩]]) (.ret)) (.skip))))) (.reg [[⟨some 92, .bin .add (.t 37) (.c (.int .i64 1)), none⟩, ⟨some 37, .mv (.t 92), none⟩]])))))))))) (.reg [[⟨some 93, .bin .add (.t 26) (.c (.int .i64 1)), none⟩, ⟨some 26, .mv (.t 93), none⟩]]))))))) (.seq (.reg [[⟨some 6, .mv (.c (.bool true)), none⟩]]) (.ret)))))
def f_congr_is : FnC := ⟨94, [.t 6], c_congr_is⟩

def c_congr_Quotient : C := .seq (.reg [[⟨some 4, .mv (.c (.nils)), none⟩, ⟨some 5, .mv (.c (.int .i64 0)), none⟩]]) (.seq (.seq (.reg [[⟨some 13, .mv (.t 0), none⟩, ⟨some 14, .callF N_mult_Validate [.t 13], none⟩, ⟨some 6, .mv (.t 14), none⟩]]) (.seq (.reg [[⟨some 15, .mv (.t 6), none⟩, ⟨some 16, .bin .neq (.t 15) (.c (.int .i64 0)), none⟩]]) (.cond (.t 16) (.seq (.reg [[⟨some 17, .mv (.t 6), none⟩, ⟨some 4, .mv (.c (.nils)), none⟩, ⟨some 5, .mv (.t 17), none⟩]]) (.ret)) (.skip)))) (.seq (.seq (.reg [[⟨some 18, .mv (.t 0), none⟩, ⟨some 19, .mv (.t 1), none⟩, ⟨some 20, .callF N_congr_is [.t 18, .t 19, .c (.int .i64 0)], none⟩, ⟨some 21, .un .not (.t 20), none⟩]]) (.cond (.t 21) (.seq (.reg [[⟨some 4, .mv (.c (.nils)), none⟩, ⟨some 5, .mv (.c (.int .i64 1)), none⟩]]) (.ret)) (.skip))) (.seq (.reg [[⟨some 22, .mv (.t 1), none⟩, ⟨some 23, .callF N_congr_firsts [.t 22], none⟩, ⟨some 7, .mv (.t 23), none⟩]]) (.seq (.reg [[⟨some 24, .mv (.t 7), none⟩, ⟨some 25, .lenS (.t 24), none⟩, ⟨some 26, .mkS [.nils] 24 (.t 25) (.t 25), none⟩, ⟨some 8, .mv (.t 26), none⟩]]) (.seq (.seq (.reg [[⟨some 27, .mv (.t 7), none⟩, ⟨some 28, .lenS (.t 27), none⟩, ⟨some 29, .mv (.c (.int .i64 0)), none⟩]]) (.block 0 (.loop (.seq (.reg [[⟨some 30, .bin .lss (.t 29) (.t 28), none⟩]]) (.seq (.cond (.t 30) (.skip) (.exit 0)) (.seq (.block 1 (.seq (.reg [[⟨some 31, .mv (.t 29), none⟩, ⟨some 32, .iAddr 1 (.t 27) (.t 29), none⟩, ⟨some 33, .load1 (.t 32), none⟩, ⟨some 9, .mv (.t 31), none⟩, ⟨some 10, .mv (.t 33), none⟩]]) (.seq (.reg [[⟨some 34, .mv (.t 8), none⟩, ⟨some 35, .mv (.t 9), none⟩, ⟨some 36, .mv (.t 7), none⟩, ⟨some 37, .lenS (.t 36), none⟩, ⟨some 38, .mkS [.int .i64 0] 8 (.t 37) (.t 37), none⟩, ⟨some 39, .iAddr 1 (.t 34) (.t 35), none⟩, ⟨none, .store 1 (.t 39) (.t 38), none⟩]]) (.seq (.reg [[⟨some 40, .mv (.t 7), none⟩, ⟨some 41, .lenS (.t 40), none⟩, ⟨some 42, .mv (.c (.int .i64 0)), none⟩]]) (.block 2 (.loop (.seq (.reg [[⟨some 43, .bin .lss (.t 42) (.t 41), none⟩]]) (.seq (.cond (.t 43) (.skip) (.exit 2)) (.seq (.block 3 (.seq (.reg [[⟨some 44, .mv (.t 42), none⟩, ⟨some 45, .iAddr 1 (.t 40) (.t 42), none⟩, ⟨some 46, .load1 (.t 45), none⟩, ⟨some 11, .mv (.t 44), none⟩, ⟨some 12, .mv (.t 46), none⟩]]) (.reg [[⟨some 47, .mv (.t 8), none⟩, ⟨some 48, .mv (.t 9), none⟩, ⟨some 49, .iAddr 1 (.t 47) (.t 48), none⟩, ⟨some 50, .load1 (.t 49), none⟩, ⟨some 51, .mv (.t 11), none⟩, ⟨some 52, .mv (.t 1), none⟩, ⟨some 53, .mv (.t 0), none⟩, ⟨some 54, .mv (.t 10), none⟩, ⟨some 55, .iAddr 1 (.t 53) (.t 54), none⟩, ⟨some 56, .load1 (.t 55), none⟩, ⟨some 57, .mv (.t 12), none⟩, ⟨some 58, .iAddr 1 (.t 56) (.t 57), none⟩, ⟨some 59, .load1 (.t 58), none⟩, ⟨some 60, .iAddr 1 (.t 52) (.t 59), none⟩, ⟨some 61, .load1 (.t 60), none⟩, ⟨some 62, .iAddr 1 (.t 50) (.t 51), none⟩, ⟨none, .store 1 (.t 62) (.t 61), none⟩]]))) (.reg [[⟨some 63, .bin .add (.t 42) (.c (.int .i64 1)), none⟩, ⟨some 42, .mv (.t 63), none⟩]])))))))))) (.reg [[⟨some 64, .bin .add (.t 29) (.c (.int .i64 1)), none⟩, ⟨some 29, .mv (.t 64), none⟩]]))))))) (.seq (.reg [[⟨some 65, .mv (.t 8), none⟩, ⟨some 4, .mv (.t 65), none⟩, ⟨some 5, .mv (.c (.int .i64 0)), none⟩]]) (.ret)))))))
def f_congr_Quotient : FnC := ⟨66, [.t 4, .t 5], c_congr_Quotient⟩

def c_subdirect_meet : C := .seq (.reg [[⟨some 6, .mv (.c (.nils)), none⟩]]) (.seq (.reg [[⟨some 10, .mv (.t 0), none⟩, ⟨some 11, .callF N_partition_Trivial [.t 10], none⟩, ⟨some 7, .mv (.t 11), none⟩]]) (.seq (.seq (.reg [[⟨some 12, .mv (.t 1), none⟩, ⟨some 13, .lenS (.t 12), none⟩, ⟨some 14, .mv (.c (.int .i64 0)), none⟩]]) (.block 0 (.loop (.seq (.reg [[⟨some 15, .bin .lss (.t 14) (.t 13), none⟩]]) (.seq (.cond (.t 15) (.skip) (.exit 0)) (.seq (.block 1 (.seq (.reg [[⟨some 16, .mv (.t 14), none⟩, ⟨some 17, .iAddr 1 (.t 12) (.t 14), none⟩, ⟨some 18, .load1 (.t 17), none⟩, ⟨some 8, .mv (.t 16), none⟩, ⟨some 9, .mv (.t 18), none⟩]]) (.seq (.reg [[⟨some 19, .mv (.t 8), none⟩, ⟨some 20, .mv (.t 2), none⟩, ⟨some 21, .bin .neq (.t 19) (.t 20), none⟩]]) (.cond (.t 21) (.reg [[⟨some 22, .mv (.t 7), none⟩, ⟨some 23, .mv (.t 9), none⟩, ⟨some 24, .callF N_partition_Meet [.t 22, .t 23], none⟩, ⟨some 7, .mv (.t 24), none⟩]]) (.skip))))) (.reg [[⟨some 25, .bin .add (.t 14) (.c (.int .i64 1)), none⟩, ⟨some 14, .mv (.t 25), none⟩]]))))))) (.seq (.reg [[⟨some 26, .mv (.t 7), none⟩, ⟨some 6, .mv (.t 26), none⟩]]) (.ret))))
def f_subdirect_meet : FnC := ⟨27, [.t 6], c_subdirect_meet⟩

def c_subdirect_Check : C := .seq (.reg [[⟨some 4, .mv (.c (.bool false)), none⟩]]) (.seq (.seq (.reg [[⟨some 10, .mv (.t 0), none⟩, ⟨some 11, .callF N_mult_Validate [.t 10], none⟩, ⟨some 12, .bin .neq (.t 11) (.c (.int .i64 0)), none⟩]]) (.cond (.t 12) (.seq (.reg [[⟨some 4, .mv (.c (.bool false)), none⟩]]) (.ret)) (.skip))) (.seq (.seq (.reg [[⟨some 13, .mv (.t 1), none⟩, ⟨some 14, .lenS (.t 13), none⟩, ⟨some 15, .mv (.c (.int .i64 0)), none⟩]]) (.block 0 (.loop (.seq (.reg [[⟨some 16, .bin .lss (.t 15) (.t 14), none⟩]]) (.seq (.cond (.t 16) (.skip) (.exit 0)) (.seq (.block 1 (.seq (.reg [[⟨some 17, .iAddr 1 (.t 13) (.t 15), none⟩, ⟨some 18, .load1 (.t 17), none⟩, ⟨some 6, .mv (.t 18), none⟩]]) (.seq (.reg [[⟨some 20, .mv (.t 0), none⟩, ⟨some 21, .mv (.t 6), none⟩, ⟨some 22, .callF N_congr_Quotient [.t 20, .t 21], none⟩, ⟨some 19, .mv (.t 22), none⟩, ⟨some 23, .ext 0 (.t 19), none⟩, ⟨some 24, .ext 1 (.t 19), none⟩, ⟨some 7, .mv (.t 23), none⟩, ⟨some 8, .mv (.t 24), none⟩]]) (.seq (.reg [[⟨some 25, .mv (.t 8), none⟩, ⟨some 26, .bin .neq (.t 25) (.c (.int .i64 0)), none⟩, ⟨some 27, .mv (.t 26), none⟩, ⟨some 28, .mv (.t 7), some (some 27, false)⟩, ⟨some 29, .callF N_subdirect_monolith [.t 28], some (some 27, false)⟩, ⟨some 30, .eqv .sl false (.t 29) (.c (.nils)), some (some 27, false)⟩, ⟨some 31, .pick (.t 27) (.c (.bool true)) (.t 30), none⟩]]) (.cond (.t 31) (.seq (.reg [[⟨some 4, .mv (.c (.bool false)), none⟩]]) (.ret)) (.skip)))))) (.reg [[⟨some 32, .bin .add (.t 15) (.c (.int .i64 1)), none⟩, ⟨some 15, .mv (.t 32), none⟩]]))))))) (.seq (.seq (.reg [[⟨some 33, .mv (.t 0), none⟩, ⟨some 34, .lenS (.t 33), none⟩, ⟨some 35, .mv (.t 1), none⟩, ⟨some 36, .callF N_subdirect_meet [.t 34, .t 35, .c (.int .i64 (-1))], none⟩, ⟨some 37, .callF N_subdirect_discrete [.t 36], none⟩, ⟨some 38, .un .not (.t 37), none⟩]]) (.cond (.t 38) (.seq (.reg [[⟨some 4, .mv (.c (.bool false)), none⟩]]) (.ret)) (.skip))) (.seq (.seq (.reg [[⟨some 39, .mv (.t 1), none⟩, ⟨some 40, .lenS (.t 39), none⟩, ⟨some 41, .mv (.c (.int .i64 0)), none⟩]]) (.block 2 (.loop (.seq (.reg [[⟨some 42, .bin .lss (.t 41) (.t 40), none⟩]]) (.seq (.cond (.t 42) (.skip) (.exit 2)) (.seq (.block 3 (.seq (.reg [[⟨some 43, .mv (.t 41), none⟩, ⟨some 9, .mv (.t 43), none⟩]]) (.seq (.reg [[⟨some 44, .mv (.t 0), none⟩, ⟨some 45, .lenS (.t 44), none⟩, ⟨some 46, .mv (.t 1), none⟩, ⟨some 47, .mv (.t 9), none⟩, ⟨some 48, .callF N_subdirect_meet [.t 45, .t 46, .t 47], none⟩, ⟨some 49, .callF N_subdirect_discrete [.t 48], none⟩]]) (.cond (.t 49) (.seq (.reg [[⟨some 4, .mv (.c (.bool false)), none⟩]]) (.ret)) (.skip))))) (.reg [[⟨some 50, .bin .add (.t 41) (.c (.int .i64 1)), none⟩, ⟨some 41, .mv (.t 50), none⟩]]))))))) (.seq (.reg [[⟨some 4, .mv (.c (.bool true)), none⟩]]) (.ret))))))
def f_subdirect_Check : FnC := ⟨51, [.t 4], c_subdirect_Check⟩

def c_semigrouplaw22_klein : C := .seq (.reg [[⟨some 0, .mv (.c (.nils)), none⟩]]) (.seq (.reg [[⟨some 1, .lit [.int .i64 0, .int .i64 0, .int .i64 0, .int .i64 0] 1 4 [(0, 1, .c (.int .i64 0)), (1, 1, .c (.int .i64 1)), (2, 1, .c (.int .i64 2)), (3, 1, .c (.int .i64 3))], none⟩, ⟨some 2, .lit [.int .i64 0, .int .i64 0, .int .i64 0, .int .i64 0] 1 4 [(0, 1, .c (.int .i64 1)), (1, 1, .c (.int .i64 0)), (2, 1, .c (.int .i64 3)), (3, 1, .c (.int .i64 2))], none⟩, ⟨some 3, .lit [.int .i64 0, .int .i64 0, .int .i64 0, .int .i64 0] 1 4 [(0, 1, .c (.int .i64 2)), (1, 1, .c (.int .i64 3)), (2, 1, .c (.int .i64 0)), (3, 1, .c (.int .i64 1))], none⟩, ⟨some 4, .lit [.int .i64 0, .int .i64 0, .int .i64 0, .int .i64 0] 1 4 [(0, 1, .c (.int .i64 3)), (1, 1, .c (.int .i64 2)), (2, 1, .c (.int .i64 1)), (3, 1, .c (.int .i64 0))], none⟩, ⟨some 5, .lit [.nils, .nils, .nils, .nils] 1 4 [(0, 1, .t 1), (1, 1, .t 2), (2, 1, .t 3), (3, 1, .t 4)], none⟩, ⟨some 0, .mv (.t 5), none⟩]]) (.ret))
def f_semigrouplaw22_klein : FnC := ⟨6, [.t 0], c_semigrouplaw22_klein⟩

def c_semigrouplaw22_awake : C := .seq (.reg [[⟨some 0, .mv (.c (.bool false)), none⟩]]) (.seq (.reg [[⟨some 6, .callF N_semigrouplaw22_klein [], none⟩, ⟨some 7, .callF N_subdirect_Irreducible [.t 6], none⟩, ⟨some 5, .mv (.t 7), none⟩, ⟨some 8, .ext 0 (.t 5), none⟩, ⟨some 9, .ext 1 (.t 5), none⟩, ⟨some 1, .mv (.t 8), none⟩, ⟨some 2, .mv (.t 9), none⟩]]) (.seq (.reg [[⟨some 11, .lit [.int .i64 0, .int .i64 0] 1 2 [(0, 1, .c (.int .i64 0)), (1, 1, .c (.int .i64 1))], none⟩, ⟨some 12, .lit [.int .i64 0, .int .i64 0] 1 2 [(0, 1, .c (.int .i64 1)), (1, 1, .c (.int .i64 0))], none⟩, ⟨some 13, .lit [.nils, .nils] 1 2 [(0, 1, .t 11), (1, 1, .t 12)], none⟩, ⟨some 14, .callF N_subdirect_Irreducible [.t 13], none⟩, ⟨some 10, .mv (.t 14), none⟩, ⟨some 15, .ext 0 (.t 10), none⟩, ⟨some 16, .ext 1 (.t 10), none⟩, ⟨some 3, .mv (.t 15), none⟩, ⟨some 4, .mv (.t 16), none⟩]]) (.seq (.reg [[⟨some 17, .mv (.t 2), none⟩, ⟨some 18, .un .not (.t 17), none⟩, ⟨some 19, .mv (.t 18), none⟩, ⟨some 20, .mv (.t 4), some (some 19, true)⟩, ⟨some 21, .pick (.t 19) (.t 20) (.c (.bool false)), none⟩, ⟨some 22, .mv (.t 21), none⟩, ⟨some 23, .callF N_semigrouplaw22_klein [], some (some 22, true)⟩, ⟨some 24, .lit [.int .i64 0, .int .i64 0, .int .i64 0, .int .i64 0] 1 4 [(0, 1, .c (.int .i64 0)), (1, 1, .c (.int .i64 0)), (2, 1, .c (.int .i64 1)), (3, 1, .c (.int .i64 1))], some (some 22, true)⟩, ⟨some 25, .lit [.int .i64 0, .int .i64 0, .int .i64 0, .int .i64 0] 1 4 [(0, 1, .c (.int .i64 0)), (1, 1, .c (.int .i64 1)), (2, 1, .c (.int .i64 0)), (3, 1, .c (.int .i64 1))], some (some 22, true)⟩, ⟨some 26, .lit [.nils, .nils] 1 2 [(0, 1, .t 24), (1, 1, .t 25)], some (some 22, true)⟩, ⟨some 27, .callF N_subdirect_Check [.t 23, .t 26], some (some 22, true)⟩, ⟨some 28, .pick (.t 22) (.t 27) (.c (.bool false)), none⟩, ⟨some 0, .mv (.t 28), none⟩]]) (.ret))))
def f_semigrouplaw22_awake : FnC := ⟨29, [.t 0], c_semigrouplaw22_awake⟩

def c_subdirect_apart : C := .seq (.reg [[⟨some 6, .mv (.c (.nils)), none⟩]]) (.seq (.reg [[⟨some 13, .mv (.t 0), none⟩, ⟨some 14, .lenS (.t 13), none⟩, ⟨some 15, .callF N_partition_Discrete [.t 14], none⟩, ⟨some 7, .mv (.t 15), none⟩]]) (.seq (.reg [[⟨some 16, .lit [] 2 0 [], none⟩, ⟨some 8, .mv (.t 16), none⟩]]) (.seq (.seq (.reg [[⟨some 17, .mv (.t 0), none⟩, ⟨some 18, .lenS (.t 17), none⟩, ⟨some 19, .mv (.c (.int .i64 0)), none⟩]]) (.block 0 (.loop (.seq (.reg [[⟨some 20, .bin .lss (.t 19) (.t 18), none⟩]]) (.seq (.cond (.t 20) (.skip) (.exit 0)) (.seq (.block 1 (.seq (.reg [[⟨some 21, .mv (.t 19), none⟩, ⟨some 9, .mv (.t 21), none⟩]]) (.seq (.reg [[⟨some 10, .mv (.c (.int .i64 0)), none⟩]]) (.block 2 (.loop (.seq (.seq (.reg [[⟨some 22, .mv (.t 10), none⟩, ⟨some 23, .mv (.t 9), none⟩, ⟨some 24, .bin .lss (.t 22) (.t 23), none⟩]]) (.cond (.t 24) (.skip) (.exit 2))) (.seq (.block 3 (.seq (.seq (.reg [[⟨some 27, .mv (.t 7), none⟩, ⟨some 28, .mv (.t 10), none⟩, ⟨some 29, .iAddr 1 (.t 27) (.t 28), none⟩, ⟨some 30, .load1 (.t 29), none⟩, ⟨some 31, .mv (.t 7), none⟩, ⟨some 32, .mv (.t 9), none⟩, ⟨some 33, .iAddr 1 (.t 31) (.t 32), none⟩, ⟨some 34, .load1 (.t 33), none⟩, ⟨some 35, .bin .eql (.t 30) (.t 34), none⟩]]) (.cond (.t 35) (.exit 3) (.skip))) (.seq (.reg [[⟨some 36, .lit [] 2 0 [], none⟩, ⟨some 37, .mv (.t 8), none⟩, ⟨some 38, .app [.int .i64 0, .int .i64 0] 16 (.t 36) (.t 37), none⟩, ⟨some 39, .mv (.t 10), none⟩, ⟨some 40, .mv (.t 9), none⟩, ⟨some 41, .build [.int .i64 0, .int .i64 0] [(0, 1, .t 39), (1, 1, .t 40)], none⟩, ⟨some 42, .lit [.int .i64 0, .int .i64 0] 2 1 [(0, 2, .t 41)], none⟩, ⟨some 43, .app [.int .i64 0, .int .i64 0] 16 (.t 38) (.t 42), none⟩, ⟨some 11, .mv (.t 43), none⟩]]) (.seq (.reg [[⟨some 44, .mv (.t 0), none⟩, ⟨some 45, .mv (.t 11), none⟩, ⟨some 46, .callF N_congr_Generated [.t 44, .t 45, .c (.int .i64 0)], none⟩, ⟨some 12, .mv (.t 46), none⟩]]) (.seq (.reg [[⟨some 47, .mv (.t 12), none⟩, ⟨some 48, .mv (.t 1), none⟩, ⟨some 49, .iAddr 1 (.t 47) (.t 48), none⟩, ⟨some 50, .load1 (.t 49), none⟩, ⟨some 51, .mv (.t 12), none⟩, ⟨some 52, .mv (.t 2), none⟩, ⟨some 53, .iAddr 1 (.t 51) (.t 52), none⟩, ⟨some 54, .load1 (.t 53), none⟩, ⟨some 55, .bin .neq (.t 50) (.t 54), none⟩]]) (.cond (.t 55) (.reg [[⟨some 56, .mv (.t 12), none⟩, ⟨some 57, .mv (.t 11), none⟩, ⟨some 7, .mv (.t 56), none⟩, ⟨some 8, .mv (.t 57), none⟩]]) (.skip))))))) (.reg [[⟨some 25, .mv (.t 10), none⟩, ⟨some 26, .bin .add (.t 25) (.c (.int .i64 1)), none⟩, ⟨some 10, .mv (.t 26), none⟩]])))))))) (.reg [[⟨some 58, .bin .add (.t 19) (.c (.int .i64 1)), none⟩, ⟨some 19, .mv (.t 58), none⟩]]))))))) (.seq (.reg [[⟨some 59, .mv (.t 7), none⟩, ⟨some 6, .mv (.t 59), none⟩]]) (.ret)))))
def f_subdirect_apart : FnC := ⟨60, [.t 6], c_subdirect_apart⟩

def c_subdirect_Decompose : C := .seq (.reg [[⟨some 2, .mv (.c (.nils)), none⟩, ⟨some 3, .mv (.c (.int .i64 0)), none⟩]]) (.seq (.seq (.reg [[⟨some 13, .mv (.t 0), none⟩, ⟨some 14, .callF N_mult_Validate [.t 13], none⟩, ⟨some 4, .mv (.t 14), none⟩]]) (.seq (.reg [[⟨some 15, .mv (.t 4), none⟩, ⟨some 16, .bin .neq (.t 15) (.c (.int .i64 0)), none⟩]]) (.cond (.t 16) (.seq (.reg [[⟨some 17, .mv (.t 4), none⟩, ⟨some 2, .mv (.c (.nils)), none⟩, ⟨some 3, .mv (.t 17), none⟩]]) (.ret)) (.skip)))) (.seq (.reg [[⟨some 5, .mv (.c (.nils)), none⟩]]) (.seq (.block 0 (.loop (.block 1 (.seq (.reg [[⟨some 18, .mv (.t 0), none⟩, ⟨some 19, .lenS (.t 18), none⟩, ⟨some 20, .mv (.t 5), none⟩, ⟨some 21, .callF N_subdirect_meet [.t 19, .t 20, .c (.int .i64 (-1))], none⟩, ⟨some 6, .mv (.t 21), none⟩]]) (.seq (.seq (.reg [[⟨some 22, .mv (.t 6), none⟩, ⟨some 23, .callF N_subdirect_discrete [.t 22], none⟩]]) (.cond (.t 23) (.exit 0) (.skip))) (.seq (.reg [[⟨some 24, .mkM, none⟩, ⟨some 7, .mv (.t 24), none⟩]]) (.seq (.reg [[⟨some 25, .mv (.t 6), none⟩, ⟨some 26, .lenS (.t 25), none⟩, ⟨some 27, .mv (.c (.int .i64 0)), none⟩]]) (.block 2 (.loop (.seq (.reg [[⟨some 28, .bin .lss (.t 27) (.t 26), none⟩]]) (.seq (.cond (.t 28) (.skip) (.exit 2)) (.seq (.block 3 (.seq (.reg [[⟨some 29, .mv (.t 27), none⟩, ⟨some 30, .iAddr 1 (.t 25) (.t 27), none⟩, ⟨some 31, .load1 (.t 30), none⟩, ⟨some 8, .mv (.t 29), none⟩, ⟨some 9, .mv (.t 31), none⟩]]) (.seq (.seq (.reg [[⟨some 33, .mv (.t 7), none⟩, ⟨some 34, .mv (.t 9), none⟩, ⟨some 35, .look .int (.int .i64 0) true (.t 33) (.t 34), none⟩, ⟨some 32, .mv (.t 35), none⟩, ⟨some 36, .ext 0 (.t 32), none⟩, ⟨some 37, .ext 1 (.t 32), none⟩, ⟨some 10, .mv (.t 36), none⟩, ⟨some 11, .mv (.t 37), none⟩]]) (.seq (.reg [[⟨some 38, .mv (.t 11), none⟩]]) (.cond (.t 38) (.seq (.reg [[⟨some 39, .mv (.t 5), none⟩, ⟨some 40, .mv (.t 0), none⟩, ⟨some 41, .mv (.t 10), none⟩, ⟨some 42, .mv (.t 8), none⟩, ⟨some 43, .callF N_subdirect_apart [.t 40, .t 41, .t 42], none⟩, ⟨some 44, .lit [.nils] 1 1 [(0, 1, .t 43)], none⟩, ⟨some 45, .app [.nils] 24 (.t 39) (.t 44), none⟩, ⟨some 5, .mv (.t 45), none⟩]]) (.exit 2)) (.skip)))) (.reg [[⟨some 46, .mv (.t 7), none⟩, ⟨some 47, .mv (.t 9), none⟩, ⟨some 48, .mv (.t 8), none⟩, ⟨none, .mset .int (.t 46) (.t 47) (.t 48), none⟩]])))) (.reg [[⟨some 49, .bin .add (.t 27) (.c (.int .i64 1)), none⟩, ⟨some 27, .mv (.t 49), none⟩]]))))))))))))) (.seq (.seq (.reg [[⟨some 12, .mv (.c (.int .i64 0)), none⟩]]) (.block 4 (.loop (.seq (.seq (.reg [[⟨some 50, .mv (.t 12), none⟩, ⟨some 51, .mv (.t 5), none⟩, ⟨some 52, .lenS (.t 51), none⟩, ⟨some 53, .bin .lss (.t 50) (.t 52), none⟩]]) (.cond (.t 53) (.skip) (.exit 4))) (.block 5 (.seq (.reg [[⟨some 54, .mv (.t 0), none⟩, ⟨some 55, .lenS (.t 54), none⟩, ⟨some 56, .mv (.t 5), none⟩, ⟨some 57, .mv (.t 12), none⟩, ⟨some 58, .callF N_subdirect_meet [.t 55, .t 56, .t 57], none⟩, ⟨some 59, .callF N_subdirect_discrete [.t 58], none⟩]]) (.cond (.t 59) (.reg [[⟨some 60, .lit [] 1 0 [], none⟩, ⟨some 61, .mv (.t 5), none⟩, ⟨some 62, .mv (.t 12), none⟩, ⟨some 63, .slS 1 (.t 61) none (some (.t 62)) none, none⟩, ⟨some 64, .app [.nils] 24 (.t 60) (.t 63), none⟩, ⟨some 65, .mv (.t 5), none⟩, ⟨some 66, .mv (.t 12), none⟩, ⟨some 67, .bin .add (.t 66) (.c (.int .i64 1)), none⟩, ⟨some 68, .slS 1 (.t 65) (some (.t 67)) none none, none⟩, ⟨some 69, .app [.nils] 24 (.t 64) (.t 68), none⟩, ⟨some 5, .mv (.t 69), none⟩]]) (.reg [[⟨some 70, .mv (.t 12), none⟩, ⟨some 71, .bin .add (.t 70) (.c (.int .i64 1)), none⟩, ⟨some 12, .mv (.t 71), none⟩]])))))))) (.seq (.reg [[⟨some 72, .mv (.t 5), none⟩, ⟨some 2, .mv (.t 72), none⟩, ⟨some 3, .mv (.c (.int .i64 0)), none⟩]]) (.ret))))))
def f_subdirect_Decompose : FnC := ⟨73, [.t 2, .t 3], c_subdirect_Decompose⟩

def c_semigroupref14_Shape : C := .seq (.reg [[⟨some 2, .mv (.c (.int .i64 0)), none⟩]]) (.seq (.seq (.reg [[⟨some 7, .mv (.t 0), none⟩, ⟨some 8, .lenS (.t 7), none⟩, ⟨some 9, .bin .gtr (.t 8) (.c (.int .i64 400)), none⟩]]) (.cond (.t 9) (.seq (.reg [[⟨some 2, .mv (.c (.int .i64 3)), none⟩]]) (.ret)) (.skip))) (.seq (.seq (.reg [[⟨some 10, .mv (.t 0), none⟩, ⟨some 11, .lenS (.t 10), none⟩, ⟨some 12, .bin .eql (.t 11) (.c (.int .i64 0)), none⟩]]) (.cond (.t 12) (.seq (.reg [[⟨some 2, .mv (.c (.int .i64 4)), none⟩]]) (.ret)) (.skip))) (.seq (.seq (.reg [[⟨some 13, .mv (.t 0), none⟩, ⟨some 14, .lenS (.t 13), none⟩, ⟨some 15, .mv (.c (.int .i64 0)), none⟩]]) (.block 0 (.loop (.seq (.reg [[⟨some 16, .bin .lss (.t 15) (.t 14), none⟩]]) (.seq (.cond (.t 16) (.skip) (.exit 0)) (.seq (.block 1 (.seq (.reg [[⟨some 17, .iAddr 1 (.t 13) (.t 15), none⟩, ⟨some 18, .load1 (.t 17), none⟩, ⟨some 4, .mv (.t 18), none⟩]]) (.seq (.seq (.reg [[⟨some 19, .mv (.t 4), none⟩, ⟨some 20, .lenS (.t 19), none⟩, ⟨some 21, .mv (.t 0), none⟩, ⟨some 22, .lenS (.t 21), none⟩, ⟨some 23, .bin .neq (.t 20) (.t 22), none⟩]]) (.cond (.t 23) (.seq (.reg [[⟨some 2, .mv (.c (.int .i64 4)), none⟩]]) (.ret)) (.skip))) (.seq (.reg [[⟨some 24, .mv (.t 4), none⟩, ⟨some 25, .lenS (.t 24), none⟩, ⟨some 26, .mv (.c (.int .i64 0)), none⟩]]) (.block 2 (.loop (.seq (.reg [[⟨some 27, .bin .lss (.t 26) (.t 25), none⟩]]) (.seq (.cond (.t 27) (.skip) (.exit 2)) (.seq (.block 3 (.seq (.reg [[⟨some 28, .iAddr 1 (.t 24) (.t 26), none⟩, ⟨some 29, .load1 (.t 28), none⟩, ⟨some 6, .mv (.t 29), none⟩]]) (.seq (.reg [[⟨some 30, .mv (.t 6), none⟩, ⟨some 31, .bin .lss (.t 30) (.c (.int .i64 0)), none⟩, ⟨some 32, .mv (.t 31), none⟩, ⟨some 33, .mv (.t 6), some (some 32, false)⟩, ⟨some 34, .mv (.t 0), some (some 32, false)⟩, ⟨some 35, .lenS (.t 34), some (some 32, false)⟩, ⟨some 36, .bin .geq (.t 33) (.t 35), some (some 32, false)⟩, ⟨some 37, .pick (.t 32) (.c (.bool true)) (.t 36), none⟩]]) (.cond (.t 37) (.seq (.reg [[⟨some 2, .mv (.c (.int .i64 4)), none⟩]]) (.ret)) (.skip))))) (.reg [[⟨some 38, .bin .add (.t 26) (.c (.int .i64 1)), none⟩, ⟨some 26, .mv (.t 38), none⟩]])))))))))) (.reg [[⟨some 39, .bin .add (.t 15) (.c (.int .i64 1)), none⟩, ⟨some 15, .mv (.t 39), none⟩]]))))))) (.seq (.reg [[⟨some 2, .mv (.c (.int .i64 0)), none⟩]]) (.ret)))))
def f_semigroupref14_Shape : FnC := ⟨40, [.t 2], c_semigroupref14_Shape⟩

def c_semigroupref14_Associative : C := .seq (.reg [[⟨some 2, .mv (.c (.int .i64 0)), none⟩, ⟨some 3, .mv (.c (.int .i64 0)), none⟩, ⟨some 4, .mv (.c (.int .i64 0)), none⟩, ⟨some 5, .mv (.c (.int .i64 0)), none⟩]]) (.seq (.seq (.reg [[⟨some 10, .mv (.t 0), none⟩, ⟨some 11, .callF N_semigroupref14_Shape [.t 10], none⟩, ⟨some 6, .mv (.t 11), none⟩]]) (.seq (.reg [[⟨some 12, .mv (.t 6), none⟩, ⟨some 13, .bin .neq (.t 12) (.c (.int .i64 0)), none⟩]]) (.cond (.t 13) (.seq (.reg [[⟨some 14, .mv (.t 6), none⟩, ⟨some 2, .mv (.c (.int .i64 0)), none⟩, ⟨some 3, .mv (.c (.int .i64 0)), none⟩, ⟨some 4, .mv (.c (.int .i64 0)), none⟩, ⟨some 5, .mv (.t 14), none⟩]]) (.ret)) (.skip)))) (.seq (.seq (.reg [[⟨some 15, .mv (.t 0), none⟩, ⟨some 16, .lenS (.t 15), none⟩, ⟨some 17, .mv (.c (.int .i64 0)), none⟩]]) (.block 0 (.loop (.seq (.reg [[⟨some 18, .bin .lss (.t 17) (.t 16), none⟩]]) (.seq (.cond (.t 18) (.skip) (.exit 0)) (.seq (.block 1 (.seq (.reg [[⟨some 19, .mv (.t 17), none⟩, ⟨some 7, .mv (.t 19), none⟩]]) (.seq (.reg [[⟨some 20, .mv (.t 0), none⟩, ⟨some 21, .lenS (.t 20), none⟩, ⟨some 22, .mv (.c (.int .i64 0)), none⟩]]) (.block 2 (.loop (.seq (.reg [[⟨some 23, .bin .lss (.t 22) (.t 21), none⟩]]) (.seq (.cond (.t 23) (.skip) (.exit 2)) (.seq (.block 3 (.seq (.reg [[⟨some 24, .mv (.t 22), none⟩, ⟨some 8, .mv (.t 24), none⟩]]) (.seq (.reg [[⟨some 25, .mv (.t 0), none⟩, ⟨some 26, .lenS (.t 25), none⟩, ⟨some 27, .mv (.c (.int .i64 0)), none⟩]]) (.block 4 (.loop (.seq (.reg [[⟨some 28, .bin .lss (.t 27) (.t 26), none⟩]]) (.seq (.cond (.t 28) (.skip) (.exit 4)) (.seq (.block 5 (.seq (.reg [[⟨some 29, .mv (.t 27), none⟩, ⟨some 9, .mv (.t 29), none⟩]]) (.seq (.reg [[⟨some 30, .mv (.t 0), none⟩, ⟨some 31, .mv (.t 0), none⟩, ⟨some 32, .mv (.t 7), none⟩, ⟨some 33, .iAddr 1 (.t 31) (.t 32), none⟩, ⟨some 34, .load1 (.t 33), none⟩, ⟨some 35, .mv (.t 8), none⟩, ⟨some 36, .iAddr 1 (.t 34) (.t 35), none⟩, ⟨some 37, .load1 (.t 36), none⟩, ⟨some 38, .iAddr 1 (.t 30) (.t 37), none⟩, ⟨some 39, .load1 (.t 38), none⟩, ⟨some 40, .mv (.t 9), none⟩, ⟨some 41, .iAddr 1 (.t 39) (.t 40), none⟩, ⟨some 42, .load1 (.t 41), none⟩, ⟨some 43, .mv (.t 0), none⟩, ⟨some 44, .mv (.t 7), none⟩, ⟨some 45, .iAddr 1 (.t 43) (.t 44), none⟩, ⟨some 46, .load1 (.t 45), none⟩, ⟨some 47, .mv (.t 0), none⟩, ⟨some 48, .mv (.t 8), none⟩, ⟨some 49, .iAddr 1 (.t 47) (.t 48), none⟩, ⟨some 50, .load1 (.t 49), none⟩, ⟨some 51, .mv (.t 9), none⟩, ⟨some 52, .iAddr 1 (.t 50) (.t 51), none⟩, ⟨some 53, .load1 (.t 52), none⟩, ⟨some 54, .iAddr 1 (.t 46) (.t 53), none⟩, ⟨some 55, .load1 (.t 54), none⟩, ⟨some 56, .bin .neq (.t 42) (.t 55), none⟩]]) (.cond (.t 56) (.seq (.reg [[⟨some 57, .mv (.t 7), none⟩, ⟨some 58, .mv (.t 8), none⟩, ⟨some 59, .mv (.t 9), none⟩, ⟨some 2, .mv (.t 57), none⟩, ⟨some 3, .mv (.t 58), none⟩, ⟨some 4, .mv (.t 59), none⟩, ⟨some 5, .mv (.c (.int .i64 5)), none⟩]]) (.ret)) (.skip))))) (.reg [[⟨some 60, .bin .add (.t 27) (.c (.int .i64 1)), none⟩, ⟨some 27, .mv (.t 60), none⟩]]))))))))) (.reg [[⟨some 61, .bin .add (.t 22) (.c (.int .i64 1)), none⟩, ⟨some 22, .mv (.t 61), none⟩]]))))))))) (.reg [[⟨some 62, .bin .add (.t 17) (.c (.int .i64 1)), none⟩, ⟨some 17, .mv (.t 62), none⟩]]))))))) (.seq (.reg [[⟨some 2, .mv (.c (.int .i64 0)), none⟩, ⟨some 3, .mv (.c (.int .i64 0)), none⟩, ⟨some 4, .mv (.c (.int .i64 0)), none⟩, ⟨some 5, .mv (.c (.int .i64 0)), none⟩]]) (.ret))))
def f_semigroupref14_Associative : FnC := ⟨63, [.t 2, .t 3, .t 4, .t 5], c_semigroupref14_Associative⟩

def c_semigroupref14_Validate : C := .seq (.reg [[⟨some 2, .mv (.c (.int .i64 0)), none⟩]]) (.seq (.reg [[⟨some 8, .mv (.t 0), none⟩, ⟨some 9, .callF N_semigroupref14_Associative [.t 8], none⟩, ⟨some 7, .mv (.t 9), none⟩, ⟨some 10, .ext 0 (.t 7), none⟩, ⟨some 11, .ext 1 (.t 7), none⟩, ⟨some 12, .ext 2 (.t 7), none⟩, ⟨some 13, .ext 3 (.t 7), none⟩, ⟨some 3, .mv (.t 10), none⟩, ⟨some 4, .mv (.t 11), none⟩, ⟨some 5, .mv (.t 12), none⟩, ⟨some 6, .mv (.t 13), none⟩]]) (.seq (.reg [[⟨some 14, .mv (.t 6), none⟩, ⟨some 2, .mv (.t 14), none⟩]]) (.ret)))
def f_semigroupref14_Validate : FnC := ⟨15, [.t 2], c_semigroupref14_Validate⟩

def c_semigroupref14_Valid : C := .seq (.reg [[⟨some 2, .mv (.c (.bool false)), none⟩]]) (.seq (.reg [[⟨some 3, .mv (.t 0), none⟩, ⟨some 4, .callF N_semigroupref14_Validate [.t 3], none⟩, ⟨some 5, .bin .eql (.t 4) (.c (.int .i64 0)), none⟩, ⟨some 2, .mv (.t 5), none⟩]]) (.ret))
def f_semigroupref14_Valid : FnC := ⟨6, [.t 2], c_semigroupref14_Valid⟩

def c_semigrouplaw22_small : C := .seq (.reg [[⟨some 4, .mv (.c (.bool false)), none⟩]]) (.seq (.reg [[⟨some 5, .mv (.t 0), none⟩, ⟨some 6, .lenS (.t 5), none⟩, ⟨some 7, .mv (.t 1), none⟩, ⟨some 8, .bin .leq (.t 6) (.t 7), none⟩, ⟨some 9, .mv (.t 8), none⟩, ⟨some 10, .mv (.t 0), some (some 9, true)⟩, ⟨some 11, .callF N_semigroupref14_Valid [.t 10], some (some 9, true)⟩, ⟨some 12, .pick (.t 9) (.t 11) (.c (.bool false)), none⟩, ⟨some 4, .mv (.t 12), none⟩]]) (.ret))
def f_semigrouplaw22_small : FnC := ⟨13, [.t 4], c_semigrouplaw22_small⟩

def c_mult_Direct : C := .seq (.reg [[⟨some 4, .mv (.c (.nils)), none⟩]]) (.seq (.seq (.reg [[⟨some 9, .mv (.t 0), none⟩, ⟨some 10, .callF N_mult_Validate [.t 9], none⟩, ⟨some 11, .bin .neq (.t 10) (.c (.int .i64 0)), none⟩, ⟨some 12, .mv (.t 11), none⟩, ⟨some 13, .mv (.t 1), some (some 12, false)⟩, ⟨some 14, .callF N_mult_Validate [.t 13], some (some 12, false)⟩, ⟨some 15, .bin .neq (.t 14) (.c (.int .i64 0)), some (some 12, false)⟩, ⟨some 16, .pick (.t 12) (.c (.bool true)) (.t 15), none⟩, ⟨some 17, .mv (.t 16), none⟩, ⟨some 18, .mv (.t 0), some (some 17, false)⟩, ⟨some 19, .lenS (.t 18), some (some 17, false)⟩, ⟨some 20, .mv (.t 1), some (some 17, false)⟩, ⟨some 21, .lenS (.t 20), some (some 17, false)⟩, ⟨some 22, .bin .mul (.t 19) (.t 21), some (some 17, false)⟩, ⟨some 23, .bin .gtr (.t 22) (.c (.int .i64 400)), some (some 17, false)⟩, ⟨some 24, .pick (.t 17) (.c (.bool true)) (.t 23), none⟩]]) (.cond (.t 24) (.seq (.reg [[⟨some 4, .mv (.c (.nils)), none⟩]]) (.ret)) (.skip))) (.seq (.reg [[⟨some 25, .mv (.t 1), none⟩, ⟨some 26, .lenS (.t 25), none⟩, ⟨some 5, .mv (.t 26), none⟩]]) (.seq (.reg [[⟨some 27, .mv (.t 0), none⟩, ⟨some 28, .lenS (.t 27), none⟩, ⟨some 29, .mv (.t 5), none⟩, ⟨some 30, .bin .mul (.t 28) (.t 29), none⟩, ⟨some 31, .mkS [.nils] 24 (.t 30) (.t 30), none⟩, ⟨some 6, .mv (.t 31), none⟩]]) (.seq (.seq (.reg [[⟨some 32, .mv (.t 6), none⟩, ⟨some 33, .lenS (.t 32), none⟩, ⟨some 34, .mv (.c (.int .i64 0)), none⟩]]) (.block 0 (.loop (.seq (.reg [[⟨some 35, .bin .lss (.t 34) (.t 33), none⟩]]) (.seq (.cond (.t 35) (.skip) (.exit 0)) (.seq (.block 1 (.seq (.reg [[⟨some 36, .mv (.t 34), none⟩, ⟨some 7, .mv (.t 36), none⟩]]) (.seq (.reg [[⟨some 37, .mv (.t 6), none⟩, ⟨some 38, .mv (.t 7), none⟩, ⟨some 39, .mv (.t 6), none⟩, ⟨some 40, .lenS (.t 39), none⟩, ⟨some 41, .mkS [.int .i64 0] 8 (.t 40) (.t 40), none⟩, ⟨some 42, .iAddr 1 (.t 37) (.t 38), none⟩, ⟨none, .store 1 (.t 42) (.t 41), none⟩]]) (.seq (.reg [[⟨some 43, .mv (.t 6), none⟩, ⟨some 44, .lenS (.t 43), none⟩, ⟨some 45, .mv (.c (.int .i64 0)), none⟩]]) (.block 2 (.loop (.seq (.reg [[⟨some 46, .bin .lss (.t 45) (.t 44), none⟩]]) (.seq (.cond (.t 46) (.skip) (.exit 2)) (.seq (.block 3 (.seq (.reg [[⟨some 47, .mv (.t 45), none⟩, ⟨some 8, .mv (.t 47), none⟩]]) (.reg [[⟨some 48, .mv (.t 6), none⟩, ⟨some 49, .mv (.t 7), none⟩, ⟨some 50, .iAddr 1 (.t 48) (.t 49), none⟩, ⟨some 51, .load1 (.t 50), none⟩, ⟨some 52, .mv (.t 8), none⟩, ⟨some 53, .mv (.t 0), none⟩, ⟨some 54, .mv (.t 7), none⟩, ⟨some 55, .mv (.t 5), none⟩, ⟨some 56, .bin .quo (.t 54) (.t 55), none⟩, ⟨some 57, .iAddr 1 (.t 53) (.t 56), none⟩, ⟨some 58, .load1 (.t 57), none⟩, ⟨some 59, .mv (.t 8), none⟩, ⟨some 60, .mv (.t 5), none⟩, ⟨some 61, .bin .quo (.t 59) (.t 60), none⟩, ⟨some 62, .iAddr 1 (.t 58) (.t 61), none⟩, ⟨some 63, .load1 (.t 62), none⟩, ⟨some 64, .mv (.t 5), none⟩, ⟨some 65, .bin .mul (.t 63) (.t 64), none⟩, ⟨some 66, .mv (.t 1), none⟩, ⟨some 67, .mv (.t 7), none⟩, ⟨some 68, .mv (.t 5), none⟩, ⟨some 69, .bin .rem (.t 67) (.t 68), none⟩, ⟨some 70, .iAddr 1 (.t 66) (.t 69), none⟩, ⟨some 71, .load1 (.t 70), none⟩, ⟨some 72, .mv (.t 8), none⟩, ⟨some 73, .mv (.t 5), none⟩, ⟨some 74, .bin .rem (.t 72) (.t 73), none⟩, ⟨some 75, .iAddr 1 (.t 71) (.t 74), none⟩, ⟨some 76, .load1 (.t 75), none⟩, ⟨some 77, .bin .add (.t 65) (.t 76), none⟩, ⟨some 78, .iAddr 1 (.t 51) (.t 52), none⟩, ⟨none, .store 1 (.t 78) (.t 77), none⟩]]))) (.reg [[⟨some 79, .bin .add (.t 45) (.c (.int .i64 1)), none⟩, ⟨some 45, .mv (.t 79), none⟩]])))))))))) (.reg [[⟨some 80, .bin .add (.t 34) (.c (.int .i64 1)), none⟩, ⟨some 34, .mv (.t 80), none⟩]]))))))) (.seq (.reg [[⟨some 81, .mv (.t 6), none⟩, ⟨some 4, .mv (.t 81), none⟩]]) (.ret))))))
def f_mult_Direct : FnC := ⟨82, [.t 4], c_mult_Direct⟩

def c_semigrouplaw22_SubdirectProducts : C := .seq (.reg [[⟨some 4, .mv (.c (.bool false)), none⟩]]) (.seq (.seq (.reg [[⟨some 21, .mv (.t 0), none⟩, ⟨some 22, .callF N_semigrouplaw22_small [.t 21, .c (.int .i64 3)], none⟩, ⟨some 23, .un .not (.t 22), none⟩, ⟨some 24, .mv (.t 23), none⟩, ⟨some 25, .mv (.t 1), some (some 24, false)⟩, ⟨some 26, .callF N_semigrouplaw22_small [.t 25, .c (.int .i64 3)], some (some 24, false)⟩, ⟨some 27, .un .not (.t 26), some (some 24, false)⟩, ⟨some 28, .pick (.t 24) (.c (.bool true)) (.t 27), none⟩, ⟨some 29, .mv (.t 28), none⟩, ⟨some 30, .mv (.t 0), some (some 29, false)⟩, ⟨some 31, .lenS (.t 30), some (some 29, false)⟩, ⟨some 32, .bin .lss (.t 31) (.c (.int .i64 2)), some (some 29, false)⟩, ⟨some 33, .pick (.t 29) (.c (.bool true)) (.t 32), none⟩, ⟨some 34, .mv (.t 33), none⟩, ⟨some 35, .mv (.t 1), some (some 34, false)⟩, ⟨some 36, .lenS (.t 35), some (some 34, false)⟩, ⟨some 37, .bin .lss (.t 36) (.c (.int .i64 2)), some (some 34, false)⟩, ⟨some 38, .pick (.t 34) (.c (.bool true)) (.t 37), none⟩]]) (.cond (.t 38) (.seq (.reg [[⟨some 39, .callF N_semigrouplaw22_awake [], none⟩, ⟨some 4, .mv (.t 39), none⟩]]) (.ret)) (.skip))) (.seq (.reg [[⟨some 40, .mv (.t 0), none⟩, ⟨some 41, .mv (.t 1), none⟩, ⟨some 42, .callF N_mult_Direct [.t 40, .t 41], none⟩, ⟨some 5, .mv (.t 42), none⟩]]) (.seq (.reg [[⟨some 44, .mv (.t 5), none⟩, ⟨some 45, .callF N_subdirect_Irreducible [.t 44], none⟩, ⟨some 43, .mv (.t 45), none⟩, ⟨some 46, .ext 0 (.t 43), none⟩, ⟨some 47, .ext 1 (.t 43), none⟩, ⟨some 6, .mv (.t 46), none⟩, ⟨some 7, .mv (.t 47), none⟩]]) (.seq (.reg [[⟨some 49, .mv (.t 0), none⟩, ⟨some 50, .callF N_subdirect_Decompose [.t 49], none⟩, ⟨some 48, .mv (.t 50), none⟩, ⟨some 51, .ext 0 (.t 48), none⟩, ⟨some 52, .ext 1 (.t 48), none⟩, ⟨some 8, .mv (.t 51), none⟩, ⟨some 9, .mv (.t 52), none⟩]]) (.seq (.reg [[⟨some 54, .mv (.t 1), none⟩, ⟨some 55, .callF N_subdirect_Decompose [.t 54], none⟩, ⟨some 53, .mv (.t 55), none⟩, ⟨some 56, .ext 0 (.t 53), none⟩, ⟨some 57, .ext 1 (.t 53), none⟩, ⟨some 10, .mv (.t 56), none⟩, ⟨some 11, .mv (.t 57), none⟩]]) (.seq (.seq (.reg [[⟨some 58, .mv (.t 7), none⟩, ⟨some 59, .mv (.t 58), none⟩, ⟨some 60, .mv (.t 9), some (some 59, false)⟩, ⟨some 61, .bin .neq (.t 60) (.c (.int .i64 0)), some (some 59, false)⟩, ⟨some 62, .pick (.t 59) (.c (.bool true)) (.t 61), none⟩, ⟨some 63, .mv (.t 62), none⟩, ⟨some 64, .mv (.t 11), some (some 63, false)⟩, ⟨some 65, .bin .neq (.t 64) (.c (.int .i64 0)), some (some 63, false)⟩, ⟨some 66, .pick (.t 63) (.c (.bool true)) (.t 65), none⟩, ⟨some 67, .mv (.t 66), none⟩, ⟨some 68, .mv (.t 5), some (some 67, false)⟩, ⟨some 69, .lenS (.t 68), some (some 67, false)⟩, ⟨some 70, .mv (.t 0), some (some 67, false)⟩, ⟨some 71, .lenS (.t 70), some (some 67, false)⟩, ⟨some 72, .mv (.t 1), some (some 67, false)⟩, ⟨some 73, .lenS (.t 72), some (some 67, false)⟩, ⟨some 74, .bin .mul (.t 71) (.t 73), some (some 67, false)⟩, ⟨some 75, .bin .neq (.t 69) (.t 74), some (some 67, false)⟩, ⟨some 76, .pick (.t 67) (.c (.bool true)) (.t 75), none⟩]]) (.cond (.t 76) (.seq (.reg [[⟨some 4, .mv (.c (.bool false)), none⟩]]) (.ret)) (.skip))) (.seq (.reg [[⟨some 77, .mv (.t 5), none⟩, ⟨some 78, .lenS (.t 77), none⟩, ⟨some 79, .callF N_partition_Trivial [.t 78], none⟩, ⟨some 12, .mv (.t 79), none⟩]]) (.seq (.seq (.reg [[⟨some 80, .mv (.t 8), none⟩, ⟨some 81, .lenS (.t 80), none⟩, ⟨some 82, .mv (.c (.int .i64 0)), none⟩]]) (.block 0 (.loop (.seq (.reg [[⟨some 83, .bin .lss (.t 82) (.t 81), none⟩]]) (.seq (.cond (.t 83) (.skip) (.exit 0)) (.seq (.block 1 (.seq (.reg [[⟨some 84, .iAddr 1 (.t 80) (.t 82), none⟩, ⟨some 85, .load1 (.t 84), none⟩, ⟨some 14, .mv (.t 85), none⟩]]) (.seq (.reg [[⟨some 15, .mv (.c (.nils)), none⟩]]) (.seq (.seq (.reg [[⟨some 86, .mv (.t 5), none⟩, ⟨some 87, .lenS (.t 86), none⟩, ⟨some 88, .mv (.c (.int .i64 0)), none⟩]]) (.block 2 (.loop (.seq (.reg [[⟨some 89, .bin .lss (.t 88) (.t 87), none⟩]]) (.seq (.cond (.t 89) (.skip) (.exit 2)) (.seq (.block 3 (.seq (.reg [[⟨some 90, .mv (.t 88), none⟩, ⟨some 16, .mv (.t 90), none⟩]]) (.reg [[⟨some 91, .mv (.t 15), none⟩, ⟨some 92, .mv (.t 14), none⟩, ⟨some 93, .mv (.t 16), none⟩, ⟨some 94, .mv (.t 1), none⟩, ⟨some 95, .lenS (.t 94), none⟩, ⟨some 96, .bin .quo (.t 93) (.t 95), none⟩, ⟨some 97, .iAddr 1 (.t 92) (.t 96), none⟩, ⟨some 98, .load1 (.t 97), none⟩, ⟨some 99, .lit [.int .i64 0] 1 1 [(0, 1, .t 98)], none⟩, ⟨some 100, .app [.int .i64 0] 8 (.t 91) (.t 99), none⟩, ⟨some 15, .mv (.t 100), none⟩]]))) (.reg [[⟨some 101, .bin .add (.t 88) (.c (.int .i64 1)), none⟩, ⟨some 88, .mv (.t 101), none⟩]]))))))) (.reg [[⟨some 102, .mv (.t 12), none⟩, ⟨some 103, .mv (.t 15), none⟩, ⟨some 104, .callF N_partition_Canonical [.t 103], none⟩, ⟨some 105, .callF N_partition_Meet [.t 102, .t 104], none⟩, ⟨some 12, .mv (.t 105), none⟩]]))))) (.reg [[⟨some 106, .bin .add (.t 82) (.c (.int .i64 1)), none⟩, ⟨some 82, .mv (.t 106), none⟩]]))))))) (.seq (.seq (.reg [[⟨some 107, .mv (.t 10), none⟩, ⟨some 108, .lenS (.t 107), none⟩, ⟨some 109, .mv (.c (.int .i64 0)), none⟩]]) (.block 4 (.loop (.seq (.reg [[⟨some 110, .bin .lss (.t 109) (.t 108), none⟩]]) (.seq (.cond (.t 110) (.skip) (.exit 4)) (.seq (.block 5 (.seq (.reg [[⟨some 111, .iAddr 1 (.t 107) (.t 109), none⟩, ⟨some 112, .load1 (.t 111), none⟩, ⟨some 18, .mv (.t 112), none⟩]]) (.seq (.reg [[⟨some 19, .mv (.c (.nils)), none⟩]]) (.seq (.seq (.reg [[⟨some 113, .mv (.t 5), none⟩, ⟨some 114, .lenS (.t 113), none⟩, ⟨some 115, .mv (.c (.int .i64 0)), none⟩]]) (.block 6 (.loop (.seq (.reg [[⟨some 116, .bin .lss (.t 115) (.t 114), none⟩]]) (.seq (.cond (.t 116) (.skip) (.exit 6)) (.seq (.block 7 (.seq (.reg [[⟨some 117, .mv (.t 115), none⟩, ⟨some 20, .mv (.t 117), none⟩]]) (.reg [[⟨some 118, .mv (.t 19), none⟩, ⟨some 119, .mv (.t 18), none⟩, ⟨some 120, .mv (.t 20), none⟩, ⟨some 121, .mv (.t 1), none⟩, ⟨some 122, .lenS (.t 121), none⟩, ⟨some 123, .bin .rem (.t 120) (.t 122), none⟩, ⟨some 124, .iAddr 1 (.t 119) (.t 123), none⟩, ⟨some 125, .load1 (.t 124), none⟩, ⟨some 126, .lit [.int .i64 0] 1 1 [(0, 1, .t 125)], none⟩, ⟨some 127, .app [.int .i64 0] 8 (.t 118) (.t 126), none⟩, ⟨some 19, .mv (.t 127), none⟩]]))) (.reg [[⟨some 128, .bin .add (.t 115) (.c (.int .i64 1)), none⟩, ⟨some 115, .mv (.t 128), none⟩]]))))))) (.reg [[⟨some 129, .mv (.t 12), none⟩, ⟨some 130, .mv (.t 19), none⟩, ⟨some 131, .callF N_partition_Canonical [.t 130], none⟩, ⟨some 132, .callF N_partition_Meet [.t 129, .t 131], none⟩, ⟨some 12, .mv (.t 132), none⟩]]))))) (.reg [[⟨some 133, .bin .add (.t 109) (.c (.int .i64 1)), none⟩, ⟨some 109, .mv (.t 133), none⟩]]))))))) (.seq (.reg [[⟨some 134, .mv (.t 12), none⟩, ⟨some 135, .callF N_partition_Count [.t 134], none⟩, ⟨some 136, .mv (.t 5), none⟩, ⟨some 137, .lenS (.t 136), none⟩, ⟨some 138, .bin .eql (.t 135) (.t 137), none⟩, ⟨some 139, .mv (.t 138), none⟩, ⟨some 140, .callF N_semigrouplaw22_awake [], some (some 139, true)⟩, ⟨some 141, .pick (.t 139) (.t 140) (.c (.bool false)), none⟩, ⟨some 4, .mv (.t 141), none⟩]]) (.ret)))))))))))
def f_semigrouplaw22_SubdirectProducts : FnC := ⟨142, [.t 4], c_semigrouplaw22_SubdirectProducts⟩

def tab : List (Nat × FnC) := [(59, f_mult_shape), (60, f_mult_failing), (38, f_mult_Validate), (22, f_partition_Trivial), (24, f_partition_Canonical), (49, f_partition_Valid), (48, f_partition_both), (23, f_partition_Meet), (65, f_partition_Discrete), (97, f_congr_forest_find), (74, f_congr_forest_join), (75, f_congr_forest_partition), (58, f_congr_generated), (34, f_congr_Generated), (25, f_partition_Count), (41, f_subdirect_discrete), (39, f_subdirect_monolith), (12, f_subdirect_Irreducible), (53, f_congr_firsts), (52, f_congr_is), (31, f_congr_Quotient), (42, f_subdirect_meet), (15, f_subdirect_Check), (37, f_semigrouplaw22_klein), (11, f_semigrouplaw22_awake), (46, f_subdirect_apart), (17, f_subdirect_Decompose), (36, f_semigroupref14_Shape), (47, f_semigroupref14_Associative), (18, f_semigroupref14_Validate), (27, f_semigroupref14_Valid), (19, f_semigrouplaw22_small), (21, f_mult_Direct), (7, f_semigrouplaw22_SubdirectProducts)]
end Go.Proofs.Ytmdpejgnkoneoaa.Code
set_option maxRecDepth 100000
namespace Go.Proofs.Ytmdpejgnkoneoaa.Code
open Go Go.AM

theorem ok_mult_shape : CodeOK Try.prog 59 f_mult_shape := CodeOK.of Try.func59 (by kernel_rfl) (by kernel_rfl) (by kernel_rfl) (by kernel_rfl)
theorem ok_mult_failing : CodeOK Try.prog 60 f_mult_failing := CodeOK.of Try.func60 (by kernel_rfl) (by kernel_rfl) (by kernel_rfl) (by kernel_rfl)
theorem ok_mult_Validate : CodeOK Try.prog 38 f_mult_Validate := CodeOK.of Try.func38 (by kernel_rfl) (by kernel_rfl) (by kernel_rfl) (by kernel_rfl)
theorem ok_partition_Trivial : CodeOK Try.prog 22 f_partition_Trivial := CodeOK.of Try.func22 (by kernel_rfl) (by kernel_rfl) (by kernel_rfl) (by kernel_rfl)
theorem ok_partition_Canonical : CodeOK Try.prog 24 f_partition_Canonical := CodeOK.of Try.func24 (by kernel_rfl) (by kernel_rfl) (by kernel_rfl) (by kernel_rfl)
theorem ok_partition_Valid : CodeOK Try.prog 49 f_partition_Valid := CodeOK.of Try.func49 (by kernel_rfl) (by kernel_rfl) (by kernel_rfl) (by kernel_rfl)
theorem ok_partition_both : CodeOK Try.prog 48 f_partition_both := CodeOK.of Try.func48 (by kernel_rfl) (by kernel_rfl) (by kernel_rfl) (by kernel_rfl)
theorem ok_partition_Meet : CodeOK Try.prog 23 f_partition_Meet := CodeOK.of Try.func23 (by kernel_rfl) (by kernel_rfl) (by kernel_rfl) (by kernel_rfl)
theorem ok_partition_Discrete : CodeOK Try.prog 65 f_partition_Discrete := CodeOK.of Try.func65 (by kernel_rfl) (by kernel_rfl) (by kernel_rfl) (by kernel_rfl)
theorem ok_congr_forest_find : CodeOK Try.prog 97 f_congr_forest_find := CodeOK.of Try.func97 (by kernel_rfl) (by kernel_rfl) (by kernel_rfl) (by kernel_rfl)
theorem ok_congr_forest_join : CodeOK Try.prog 74 f_congr_forest_join := CodeOK.of Try.func74 (by kernel_rfl) (by kernel_rfl) (by kernel_rfl) (by kernel_rfl)
theorem ok_congr_forest_partition : CodeOK Try.prog 75 f_congr_forest_partition := CodeOK.of Try.func75 (by kernel_rfl) (by kernel_rfl) (by kernel_rfl) (by kernel_rfl)
theorem ok_congr_generated : CodeOK Try.prog 58 f_congr_generated := CodeOK.of Try.func58 (by kernel_rfl) (by kernel_rfl) (by kernel_rfl) (by kernel_rfl)
theorem ok_congr_Generated : CodeOK Try.prog 34 f_congr_Generated := CodeOK.of Try.func34 (by kernel_rfl) (by kernel_rfl) (by kernel_rfl) (by kernel_rfl)
theorem ok_partition_Count : CodeOK Try.prog 25 f_partition_Count := CodeOK.of Try.func25 (by kernel_rfl) (by kernel_rfl) (by kernel_rfl) (by kernel_rfl)
theorem ok_subdirect_discrete : CodeOK Try.prog 41 f_subdirect_discrete := CodeOK.of Try.func41 (by kernel_rfl) (by kernel_rfl) (by kernel_rfl) (by kernel_rfl)
theorem ok_subdirect_monolith : CodeOK Try.prog 39 f_subdirect_monolith := CodeOK.of Try.func39 (by kernel_rfl) (by kernel_rfl) (by kernel_rfl) (by kernel_rfl)
theorem ok_subdirect_Irreducible : CodeOK Try.prog 12 f_subdirect_Irreducible := CodeOK.of Try.func12 (by kernel_rfl) (by kernel_rfl) (by kernel_rfl) (by kernel_rfl)
theorem ok_congr_firsts : CodeOK Try.prog 53 f_congr_firsts := CodeOK.of Try.func53 (by kernel_rfl) (by kernel_rfl) (by kernel_rfl) (by kernel_rfl)
theorem ok_congr_is : CodeOK Try.prog 52 f_congr_is := CodeOK.of Try.func52 (by kernel_rfl) (by kernel_rfl) (by kernel_rfl) (by kernel_rfl)
theorem ok_congr_Quotient : CodeOK Try.prog 31 f_congr_Quotient := CodeOK.of Try.func31 (by kernel_rfl) (by kernel_rfl) (by kernel_rfl) (by kernel_rfl)
theorem ok_subdirect_meet : CodeOK Try.prog 42 f_subdirect_meet := CodeOK.of Try.func42 (by kernel_rfl) (by kernel_rfl) (by kernel_rfl) (by kernel_rfl)
theorem ok_subdirect_Check : CodeOK Try.prog 15 f_subdirect_Check := CodeOK.of Try.func15 (by kernel_rfl) (by kernel_rfl) (by kernel_rfl) (by kernel_rfl)
theorem ok_semigrouplaw22_klein : CodeOK Try.prog 37 f_semigrouplaw22_klein := CodeOK.of Try.func37 (by kernel_rfl) (by kernel_rfl) (by kernel_rfl) (by kernel_rfl)
theorem ok_semigrouplaw22_awake : CodeOK Try.prog 11 f_semigrouplaw22_awake := CodeOK.of Try.func11 (by kernel_rfl) (by kernel_rfl) (by kernel_rfl) (by kernel_rfl)
theorem ok_subdirect_apart : CodeOK Try.prog 46 f_subdirect_apart := CodeOK.of Try.func46 (by kernel_rfl) (by kernel_rfl) (by kernel_rfl) (by kernel_rfl)
theorem ok_subdirect_Decompose : CodeOK Try.prog 17 f_subdirect_Decompose := CodeOK.of Try.func17 (by kernel_rfl) (by kernel_rfl) (by kernel_rfl) (by kernel_rfl)
theorem ok_semigroupref14_Shape : CodeOK Try.prog 36 f_semigroupref14_Shape := CodeOK.of Try.func36 (by kernel_rfl) (by kernel_rfl) (by kernel_rfl) (by kernel_rfl)
theorem ok_semigroupref14_Associative : CodeOK Try.prog 47 f_semigroupref14_Associative := CodeOK.of Try.func47 (by kernel_rfl) (by kernel_rfl) (by kernel_rfl) (by kernel_rfl)
theorem ok_semigroupref14_Validate : CodeOK Try.prog 18 f_semigroupref14_Validate := CodeOK.of Try.func18 (by kernel_rfl) (by kernel_rfl) (by kernel_rfl) (by kernel_rfl)
theorem ok_semigroupref14_Valid : CodeOK Try.prog 27 f_semigroupref14_Valid := CodeOK.of Try.func27 (by kernel_rfl) (by kernel_rfl) (by kernel_rfl) (by kernel_rfl)
theorem ok_semigrouplaw22_small : CodeOK Try.prog 19 f_semigrouplaw22_small := CodeOK.of Try.func19 (by kernel_rfl) (by kernel_rfl) (by kernel_rfl) (by kernel_rfl)
theorem ok_mult_Direct : CodeOK Try.prog 21 f_mult_Direct := CodeOK.of Try.func21 (by kernel_rfl) (by kernel_rfl) (by kernel_rfl) (by kernel_rfl)
theorem ok_semigrouplaw22_SubdirectProducts : CodeOK Try.prog 7 f_semigrouplaw22_SubdirectProducts := CodeOK.of Try.func7 (by kernel_rfl) (by kernel_rfl) (by kernel_rfl) (by kernel_rfl)
theorem tabOK : ∀ p ∈ tab, CodeOK Try.prog p.1 p.2 :=
  List.forall_mem_cons.2 ⟨ok_mult_shape, List.forall_mem_cons.2 ⟨ok_mult_failing, List.forall_mem_cons.2 ⟨ok_mult_Validate, List.forall_mem_cons.2 ⟨ok_partition_Trivial, List.forall_mem_cons.2 ⟨ok_partition_Canonical, List.forall_mem_cons.2 ⟨ok_partition_Valid, List.forall_mem_cons.2 ⟨ok_partition_both, List.forall_mem_cons.2 ⟨ok_partition_Meet, List.forall_mem_cons.2 ⟨ok_partition_Discrete, List.forall_mem_cons.2 ⟨ok_congr_forest_find, List.forall_mem_cons.2 ⟨ok_congr_forest_join, List.forall_mem_cons.2 ⟨ok_congr_forest_partition, List.forall_mem_cons.2 ⟨ok_congr_generated, List.forall_mem_cons.2 ⟨ok_congr_Generated, List.forall_mem_cons.2 ⟨ok_partition_Count, List.forall_mem_cons.2 ⟨ok_subdirect_discrete, List.forall_mem_cons.2 ⟨ok_subdirect_monolith, List.forall_mem_cons.2 ⟨ok_subdirect_Irreducible, List.forall_mem_cons.2 ⟨ok_congr_firsts, List.forall_mem_cons.2 ⟨ok_congr_is, List.forall_mem_cons.2 ⟨ok_congr_Quotient, List.forall_mem_cons.2 ⟨ok_subdirect_meet, List.forall_mem_cons.2 ⟨ok_subdirect_Check, List.forall_mem_cons.2 ⟨ok_semigrouplaw22_klein, List.forall_mem_cons.2 ⟨ok_semigrouplaw22_awake, List.forall_mem_cons.2 ⟨ok_subdirect_apart, List.forall_mem_cons.2 ⟨ok_subdirect_Decompose, List.forall_mem_cons.2 ⟨ok_semigroupref14_Shape, List.forall_mem_cons.2 ⟨ok_semigroupref14_Associative, List.forall_mem_cons.2 ⟨ok_semigroupref14_Validate, List.forall_mem_cons.2 ⟨ok_semigroupref14_Valid, List.forall_mem_cons.2 ⟨ok_semigrouplaw22_small, List.forall_mem_cons.2 ⟨ok_mult_Direct, List.forall_mem_cons.2 ⟨ok_semigrouplaw22_SubdirectProducts, fun p h => (List.not_mem_nil h).elim⟩⟩⟩⟩⟩⟩⟩⟩⟩⟩⟩⟩⟩⟩⟩⟩⟩⟩⟩⟩⟩⟩⟩⟩⟩⟩⟩⟩⟩⟩⟩⟩⟩⟩
end Go.Proofs.Ytmdpejgnkoneoaa.Code
namespace Go.AM

section
variable {α : Type} {L : List α}
theorem gi_lt {k : Nat} (d : α) (h : k < L.length) : gi L (k : Int) = some (L.getD k d) := by
  unfold gi; rw [if_pos (by omega)]; simp [List.getD_eq_getElem?_getD, h]
theorem gi_int {i : Int} (d : α) (h0 : 0 ≤ i) (h : i < L.length) : gi L i = some (L.getD i.toNat d) := by
  have := gi_lt (L := L) (k := i.toNat) d (by omega)
  rwa [Int.toNat_of_nonneg h0] at this
theorem si_lt {k : Nat} {x : α} (h : k < L.length) : si L (k : Int) x = some (L.set k x) := by
  unfold si; rw [if_pos ⟨by omega, by omega⟩]; simp
theorem mkz_ok {b n : Nat} {z : α} (h : n ≤ 1000000000) (hb : b ≤ 1000) : mkz b (n : Int) (n : Int) z = some (List.replicate n z) := by
  unfold mkz
  have : b * n ≤ 1000 * 1000000000 := Nat.mul_le_mul hb h
  have h2 : (b : Int) * (n : Int) = ((b * n : Nat) : Int) := by simp
  rw [if_pos ⟨by omega, by omega, by omega, by rw [h2]; omega⟩]; simp
theorem pus_ok {b : Nat} {M : List α} (h : L.length + M.length ≤ 10000000) (hb : b ≤ 1000) : pus b L M = some (L ++ M) := by
  unfold pus
  have : (L.length + M.length) * b ≤ 10000000 * 1000 := Nat.mul_le_mul h hb
  rw [if_pos ⟨by omega, by omega⟩]
theorem w64_id {x : Int} (h1 : -9223372036854775808 ≤ x) (h2 : x ≤ 9223372036854775807) : w64 x = x := wrap64 h1 h2
theorem getD_set' {d x : α} {i j : Nat} : (L.set i x).getD j d = if i = j ∧ i < L.length then x else L.getD j d := by
  simp only [List.getD_eq_getElem?_getD, List.getElem?_set]
  by_cases e : i = j
  · subst e
    by_cases h : i < L.length
    · simp [h]
    · simp [h, List.getElem?_eq_none (Nat.le_of_not_lt h)]
  · simp [e]
theorem list_ext {A B : List α} (d : α) (hl : A.length = B.length) (h : ∀ i, i < A.length → A.getD i d = B.getD i d) : A = B := by
  apply List.ext_getElem hl
  intro i h1 h2
  have := h i h1
  simpa [List.getD_eq_getElem?_getD, h1, h2] using this
theorem getD_mem {d : α} {k : Nat} (h : k < L.length) : L.getD k d ∈ L := by
  rw [List.getD_eq_getElem?_getD, List.getElem?_eq_getElem h, Option.getD_some]; exact List.getElem_mem _
def tab (n : Nat) (f : Nat → α) : List α := (List.range n).map f
@[simp] theorem tab_length {n : Nat} {f : Nat → α} : (tab n f).length = n := by simp [tab]
theorem tab_getD {n : Nat} {f : Nat → α} {d : α} {k : Nat} (h : k < n) : (tab n f).getD k d = f k := by simp [tab, List.getD_eq_getElem?_getD, h]
theorem tab_of {d : α} : L = tab L.length fun i => L.getD i d := list_ext d (by simp) fun i hi => by rw [tab_getD hi]

theorem fill_loop {n : Nat} {f : Nat → List α → Option (List α)} {v : Nat → α} {M : List α} (d : α) (hM : M.length = n) (hf : ∀ k (X : List α), k < n → X.length = n → f k X = some (X.set k (v k))) :
    forS n f M = some (tab n v) := by
  obtain ⟨y, hy, h1, h2⟩ := forS_inv (n := n) (f := f) (x := M) (fun k X => X.length = n ∧ ∀ i, i < k → X.getD i d = v i) ⟨hM, fun i hi => by omega⟩ fun k X hk ⟨h1, h2⟩ => by
    refine ⟨_, hf k X hk h1, by simpa using h1, fun i hi => ?_⟩
    rw [getD_set']
    split
    · rename_i e; rw [e.1]
    · rename_i e
      exact h2 i (by
        rcases Nat.lt_or_ge i k with h | h
        · exact h
        · exact absurd ⟨by omega, by omega⟩ e)
  rw [hy]
  congr 1
  exact list_ext d (by simp [h1]) fun i hi => by rw [h2 i (by omega), tab_getD (by omega)]

theorem look_loop {β : Type} {n : Nat} {f : Nat → Unit → Option (Lp Unit β)} {ok : Nat → Prop} [∀ k, Decidable (ok k)] {e : Nat → β} (hf : ∀ k, k < n → f k () = some (if ok k then .go () else .ex (e k))) :
    (∀ k, k < n → ok k) ∧ forR n f () = some (.inl ()) ∨ ∃ k, k < n ∧ ¬ ok k ∧ forR n f () = some (.inr (e k)) := by
  obtain ⟨y, hy, hQ⟩ := forR_inv (n := n) (f := f) (x := ()) (fun k _ => ∀ i, i < k → ok i) (fun y => (y = .inl () ∧ ∀ i, i < n → ok i) ∨ ∃ k, k < n ∧ ¬ ok k ∧ y = .inr (e k)) (fun i hi => by omega)
    (fun k x hk hP => by
      by_cases h : ok k
      · refine .inl ⟨(), by rw [hf k hk, if_pos h], fun i hi => ?_⟩
        rcases Nat.lt_or_ge i k with h1 | h1
        · exact hP i h1
        · have : i = k := by omega
          subst this; exact h
      · exact .inr (.inr ⟨e k, by rw [hf k hk, if_neg h], .inr ⟨k, hk, h, rfl⟩⟩))
    (fun x hP => .inl ⟨rfl, hP⟩)
  rcases hQ with ⟨rfl, h⟩ | ⟨k, h1, h2, rfl⟩
  · exact .inl ⟨h, hy⟩
  · exact .inr ⟨k, h1, h2, hy⟩
theorem look_const {β : Type} {n : Nat} {f : Nat → Unit → Option (Lp Unit β)} {ok : Nat → Prop} [∀ k, Decidable (ok k)] {b : β} (hf : ∀ k, k < n → f k () = some (if ok k then .go () else .ex b)) :
    forR n f () = some (if ∀ k, k < n → ok k then .inl () else .inr b) := by
  rcases look_loop (e := fun _ => b) hf with ⟨h, e⟩ | ⟨k, h1, h2, e⟩
  · rw [e, if_pos h]
  · rw [e, if_neg fun h => h2 (h k h1)]
end
end Go.AM
namespace Go.AM
section
variable {κ ν : Type} [BEq κ] [LawfulBEq κ]
theorem mget_mput (M : List (κ × ν)) (k a : κ) (x : ν) : mget (mput M k x) a = if k == a then some x else mget M a := by
  induction M with
  | nil => simp [mput, mget]
  | cons p M ih =>
    obtain ⟨b, y⟩ := p
    simp only [mput]
    by_cases h : b = k
    · subst h
      simp only [beq_self_eq_true, if_true, mget]
      by_cases h2 : b = a
      · subst h2; simp
      · simp [h2]
    · have h1 : (b == k) = false := by simpa using h
      simp only [h1, Bool.false_eq_true, if_false, mget, ih]
      by_cases h2 : b = a
      · subst h2
        have : (k == b) = false := by simpa using fun e => h e.symm
        simp [this]
      · have : (b == a) = false := by simpa using h2
        simp [this]
theorem mput_len_new {M : List (κ × ν)} {k : κ} {x : ν} (h : mget M k = none) : (mput M k x).length = M.length + 1 := by
  induction M with
  | nil => rfl
  | cons p M ih =>
    obtain ⟨b, y⟩ := p
    simp only [mget] at h
    split at h
    · cases h
    · rename_i hb
      simp only [mput, if_neg hb, List.length_cons, ih h]
end
end Go.AM
namespace Go.AM.Par
open Go.AM

def nubS (D : List Int) (x : Int) : List Int := if x ∈ D then D else D ++ [x]
def nub (L : List Int) : List Int := L.foldl nubS []
def canonI (L : List Int) : List Int := L.map fun x => ((nub L).idxOf x : Int)

theorem nub_snoc (L : List Int) (x : Int) : nub (L ++ [x]) = if x ∈ nub L then nub L else nub L ++ [x] := by
  simp only [nub, List.foldl_append, List.foldl_cons, List.foldl_nil]; rfl
theorem mem_foldl_nub (x : Int) : ∀ (L D : List Int), x ∈ L.foldl nubS D ↔ x ∈ D ∨ x ∈ L
  | [], D => by simp
  | y :: L, D => by
    simp only [List.foldl_cons, mem_foldl_nub x L, List.mem_cons, nubS]
    split
    · rename_i h
      constructor
      · rintro (h1 | h1)
        · exact .inl h1
        · exact .inr (.inr h1)
      · rintro (h1 | rfl | h1)
        · exact .inl h1
        · exact .inl h
        · exact .inr h1
    · simp [or_assoc]
theorem mem_nub {x : Int} {L : List Int} : x ∈ nub L ↔ x ∈ L := by simp [nub, mem_foldl_nub]
theorem take_getD {L : List Int} {k : Nat} (h : k < L.length) : L.take (k + 1) = L.take k ++ [L.getD k 0] := by
  rw [List.take_add_one]; simp [List.getD_eq_getElem?_getD, h]
theorem mem_take {L : List Int} {k : Nat} {x : Int} : x ∈ L.take k ↔ ∃ i, i < k ∧ i < L.length ∧ L.getD i 0 = x := by
  constructor
  · intro h
    obtain ⟨i, hi, rfl⟩ := List.mem_iff_getElem.1 h
    have hi2 : i < k ∧ i < L.length := by simp only [List.length_take] at hi; omega
    exact ⟨i, hi2.1, hi2.2, by simp [List.getD_eq_getElem?_getD, hi2.2]⟩
  · rintro ⟨i, h1, h2, rfl⟩
    rw [List.getD_eq_getElem?_getD, List.getElem?_eq_getElem h2, Option.getD_some]
    exact List.mem_iff_getElem.2 ⟨i, by simp; omega, by simp⟩

def isNew (L : List Int) (k : Nat) : Prop := ∀ i, i < k → L.getD i 0 ≠ L.getD k 0
theorem new_iff {L : List Int} {k : Nat} (h : k < L.length) : L.getD k 0 ∉ nub (L.take k) ↔ isNew L k := by
  rw [mem_nub, mem_take]
  constructor
  · intro h1 i hi e; exact h1 ⟨i, hi, by omega, e⟩
  · rintro h1 ⟨i, hi, -, e⟩; exact h1 i hi e
theorem nub_new {L : List Int} {k : Nat} (h : k < L.length) (hn : isNew L k) : nub (L.take (k + 1)) = nub (L.take k) ++ [L.getD k 0] := by
  rw [take_getD h, nub_snoc, if_neg ((new_iff h).2 hn)]
theorem nub_old {L : List Int} {k : Nat} (h : k < L.length) (hn : ¬ isNew L k) : nub (L.take (k + 1)) = nub (L.take k) := by
  rw [take_getD h, nub_snoc, if_pos (Classical.not_not.1 fun h1 => hn ((new_iff h).1 h1))]
theorem nub_le (L : List Int) : ∀ k, k ≤ L.length → (nub (L.take k)).length ≤ k
  | 0, _ => by simp [nub]
  | k + 1, h => by
    have ih := nub_le L k (by omega)
    by_cases hn : isNew L k
    · rw [nub_new (by omega) hn]; simp; omega
    · rw [nub_old (by omega) hn]; omega
theorem idx_stay {L : List Int} {x : Int} : ∀ (m k : Nat), k ≤ m → m ≤ L.length → x ∈ nub (L.take k) → (nub (L.take m)).idxOf x = (nub (L.take k)).idxOf x := by
  intro m
  induction m with
  | zero => intro k hk _ _; have : k = 0 := by omega
            subst this; rfl
  | succ m ih =>
    intro k hk hm hx
    rcases Nat.lt_or_ge k (m + 1) with h | h
    · have h1 := ih k (by omega) (by omega) hx
      by_cases hn : isNew L m
      · rw [nub_new (by omega) hn, List.idxOf_append, if_pos]
        · exact h1
        · rw [mem_nub, mem_take] at hx ⊢
          obtain ⟨i, a, b, c⟩ := hx
          exact ⟨i, by omega, b, c⟩
      · rw [nub_old (by omega) hn]; exact h1
    · have : k = m + 1 := by omega
      subst this; rfl

@[simp] theorem canonI_length {L : List Int} : (canonI L).length = L.length := by simp [canonI]
theorem canonI_at {L : List Int} {k : Nat} (h : k < L.length) : (canonI L).getD k 0 = ((nub L).idxOf (L.getD k 0) : Int) := by
  simp [canonI, List.getD_eq_getElem?_getD, h]
theorem canonI_new {L : List Int} {k : Nat} (h : k < L.length) (hn : isNew L k) : (canonI L).getD k 0 = ((nub (L.take k)).length : Int) := by
  rw [canonI_at h]
  have h1 : (nub (L.take L.length)).idxOf (L.getD k 0) = (nub (L.take (k + 1))).idxOf (L.getD k 0) := idx_stay _ _ (by omega) (Nat.le_refl _) (by rw [mem_nub, mem_take]; exact ⟨k, by omega, h, rfl⟩)
  rw [List.take_length] at h1
  rw [h1, nub_new h hn, List.idxOf_append, if_neg ((new_iff h).2 hn)]
  simp
theorem canonI_old {L : List Int} {i k : Nat} (h : k < L.length) (hi : i < k) (he : L.getD i 0 = L.getD k 0) : (canonI L).getD k 0 = (canonI L).getD i 0 := by
  rw [canonI_at h, canonI_at (by omega), he]
theorem canonI_lt {L : List Int} {k : Nat} (h : k < L.length) {m : Nat} (hm : k < m) (hm2 : m ≤ L.length) : 0 ≤ (canonI L).getD k 0 ∧ (canonI L).getD k 0 < ((nub (L.take m)).length : Int) := by
  rw [canonI_at h]
  have h0 : L.getD k 0 ∈ nub (L.take m) := by rw [mem_nub, mem_take]; exact ⟨k, hm, h, rfl⟩
  have h1 : (nub (L.take L.length)).idxOf (L.getD k 0) = (nub (L.take m)).idxOf (L.getD k 0) := idx_stay _ _ hm2 (Nat.le_refl _) h0
  rw [List.take_length] at h1
  rw [h1]
  have := List.idxOf_lt_length_iff.2 h0
  omega
theorem canonI_ker {L : List Int} {i j : Nat} (hi : i < L.length) (hj : j < L.length) : (canonI L).getD i 0 = (canonI L).getD j 0 ↔ L.getD i 0 = L.getD j 0 := by
  rw [canonI_at hi, canonI_at hj]
  constructor
  · intro h
    have h' : (nub L).idxOf (L.getD i 0) = (nub L).idxOf (L.getD j 0) := by omega
    have a := List.getElem_idxOf (List.idxOf_lt_length_iff.2 (mem_nub.2 (getD_mem (d := (0 : Int)) hi)))
    have b := List.getElem_idxOf (List.idxOf_lt_length_iff.2 (mem_nub.2 (getD_mem (d := (0 : Int)) hj)))
    rw [← a, ← b]
    simp only [h']
  · intro h; rw [h]
theorem canonI_unique {A B : List Int} (hl : A.length = B.length) (h : ∀ i j, i < A.length → j < A.length → (A.getD i 0 = A.getD j 0 ↔ B.getD i 0 = B.getD j 0)) : canonI A = canonI B := by
  have hnew : ∀ k, k < A.length → (isNew A k ↔ isNew B k) := fun k hk => by
    unfold isNew
    constructor
    · intro h1 i hi e; exact h1 i hi ((h i k (by omega) hk).2 e)
    · intro h1 i hi e; exact h1 i hi ((h i k (by omega) hk).1 e)
  have hlen : ∀ k, k ≤ A.length → (nub (A.take k)).length = (nub (B.take k)).length := by
    intro k
    induction k with
    | zero => intro _; simp [nub]
    | succ k ih =>
      intro hk
      have := ih (by omega)
      by_cases hn : isNew A k
      · rw [nub_new (by omega) hn, nub_new (by omega) ((hnew k (by omega)).1 hn)]; simp [this]
      · rw [nub_old (by omega) hn, nub_old (by omega) fun h1 => hn ((hnew k (by omega)).2 h1)]; exact this
  have key : ∀ k, k < A.length → (canonI A).getD k 0 = (canonI B).getD k 0 := by
    intro k
    induction k using Nat.strongRecOn with
    | ind k ih =>
      intro hk
      by_cases hn : isNew A k
      · rw [canonI_new hk hn, canonI_new (by omega) ((hnew k hk).1 hn), hlen k (by omega)]
      · have : ∃ i, i < k ∧ A.getD i 0 = A.getD k 0 := by
          refine Classical.byContradiction fun hc => hn fun i hi e => hc ⟨i, hi, e⟩
        obtain ⟨i, hi, e⟩ := this
        rw [canonI_old hk hi e, canonI_old (by omega) hi ((h i k (by omega) hk).1 e)]
        exact ih i hi (by omega)
  exact list_ext 0 (by simp [hl]) fun i hi => key i (by simpa using hi)
theorem canonI_idem (L : List Int) : canonI (canonI L) = canonI L :=
  canonI_unique (by simp) fun i j hi hj => by simp only [canonI_length] at hi hj; exact canonI_ker hi hj

def rgGo : List Int → Nat → Bool
  | [], _ => true
  | x :: L, m => if x < 0 then false else if (m : Int) < x then false else rgGo L (if x = m then m + 1 else m)
def validP (L : List Int) : Bool := decide (L.length ≤ 4096) && rgGo L 0
theorem drop_getD {L : List Int} {k : Nat} (h : k < L.length) : L.drop k = L.getD k 0 :: L.drop (k + 1) := by
  rw [List.drop_eq_getElem_cons h]; simp [List.getD_eq_getElem?_getD, h]

theorem rg_canon (L : List Int) : ∀ (m k : Nat), k + m = L.length → rgGo ((canonI L).drop k) (nub (L.take k)).length = true := by
  intro m
  induction m with
  | zero => intro k hk; rw [List.drop_eq_nil_of_le (by simp; omega)]; rfl
  | succ m ih =>
    intro k hk
    have hkl : k < L.length := by omega
    rw [drop_getD (by simpa using hkl)]
    simp only [rgGo]
    have ih' := ih (k + 1) (by omega)
    by_cases hn : isNew L k
    · have h1 := canonI_new hkl hn
      rw [h1, if_neg (by omega), if_neg (by omega), if_pos rfl]
      rw [nub_new hkl hn] at ih'
      simpa using ih'
    · have : ∃ i, i < k ∧ L.getD i 0 = L.getD k 0 := by
        refine Classical.byContradiction fun hc => hn fun i hi e => hc ⟨i, hi, e⟩
      obtain ⟨i, hi, e⟩ := this
      have h1 := canonI_old hkl hi e
      have h2 := canonI_lt (L := L) (k := i) (by omega) hi (by omega)
      rw [h1, if_neg (by omega), if_neg (by omega), if_neg (by omega)]
      rw [nub_old hkl hn] at ih'
      exact ih'
theorem canon_rg (L : List Int) : ∀ (m k : Nat), k + m = L.length → rgGo (L.drop k) (nub (L.take k)).length = true → (∀ i, i < k → L.getD i 0 = (canonI L).getD i 0) → ∀ i, i < L.length → L.getD i 0 = (canonI L).getD i 0 := by
  intro m
  induction m with
  | zero => intro k hk _ h i hi; exact h i (by omega)
  | succ m ih =>
    intro k hk hr h
    have hkl : k < L.length := by omega
    rw [drop_getD hkl] at hr
    simp only [rgGo] at hr
    split at hr
    · cases hr
    · rename_i h0
      split at hr
      · cases hr
      · rename_i h1
        by_cases hn : isNew L k
        · have e1 := canonI_new hkl hn
          -- a smaller number was met already
          have e2 : L.getD k 0 = ((nub (L.take k)).length : Int) := by
            refine Classical.byContradiction fun hne => ?_
            have hlt : L.getD k 0 < ((nub (L.take k)).length : Int) := by omega
            have key : ∀ (q k : Nat), k ≤ L.length → (q : Int) < ((nub (L.take k)).length : Int) → (∀ i, i < k → L.getD i 0 = (canonI L).getD i 0) → ∃ i, i < k ∧ L.getD i 0 = (q : Int) := by
              intro q k
              induction k with
              | zero => intro _ h _; simp [nub] at h; omega
              | succ k ihk =>
                intro hk hq hh
                by_cases hn : isNew L k
                · rw [nub_new (by omega) hn] at hq
                  simp only [List.length_append, List.length_singleton] at hq
                  rcases Nat.lt_or_ge q (nub (L.take k)).length with h5 | h5
                  · obtain ⟨i, a, b⟩ := ihk (by omega) (by omega) fun i hi => hh i (by omega)
                    exact ⟨i, by omega, b⟩
                  · refine ⟨k, by omega, ?_⟩
                    rw [hh k (by omega), canonI_new (by omega) hn]
                    omega
                · rw [nub_old (by omega) hn] at hq
                  obtain ⟨i, a, b⟩ := ihk (by omega) hq fun i hi => hh i (by omega)
                  exact ⟨i, by omega, b⟩
            obtain ⟨i, a, b⟩ := key (L.getD k 0).toNat k (by omega) (by omega) h
            exact hn i a (by omega)
          refine ih (k + 1) (by omega) ?_ ?_
          · rw [nub_new hkl hn]
            rw [if_pos e2] at hr
            simpa using hr
          · intro i hi
            rcases Nat.lt_or_ge i k with h5 | h5
            · exact h i h5
            · have : i = k := by omega
              subst this; rw [e1, e2]
        · have : ∃ i, i < k ∧ L.getD i 0 = L.getD k 0 := by
            refine Classical.byContradiction fun hc => hn fun i hi e => hc ⟨i, hi, e⟩
          obtain ⟨i, hi, e⟩ := this
          have e1 := canonI_old hkl hi e
          have e2 := canonI_lt (L := L) (k := i) (by omega) hi (by omega)
          rw [← h i hi, e] at e1 e2
          refine ih (k + 1) (by omega) ?_ ?_
          · rw [nub_old hkl hn]
            rw [if_neg (by omega)] at hr
            exact hr
          · intro j hj
            rcases Nat.lt_or_ge j k with h5 | h5
            · exact h j h5
            · have : j = k := by omega
              subst this; exact e1.symm
theorem validP_iff {L : List Int} : validP L = true ↔ L.length ≤ 4096 ∧ canonI L = L := by
  unfold validP
  simp only [Bool.and_eq_true, decide_eq_true_eq]
  refine and_congr_right fun _ => ⟨fun h => ?_, fun h => ?_⟩
  · exact list_ext 0 (by simp) fun i hi => (canon_rg L L.length 0 (by omega) (by simpa [nub] using h) (fun i hi => by omega) i (by simpa using hi)).symm
  · have := rg_canon L L.length 0 (by omega)
    rw [h] at this
    simpa [nub] using this

theorem nub_full {L : List Int} : (nub L).length = L.length ↔ ∀ i j, i < L.length → j < L.length → L.getD i 0 = L.getD j 0 → i = j := by
  have key : ∀ k, k ≤ L.length → ((nub (L.take k)).length = k ↔ ∀ i, i < k → isNew L i) := by
    intro k
    induction k with
    | zero => intro _; simp [nub]
    | succ k ih =>
      intro hk
      have ih := ih (by omega)
      have hle := nub_le L k (by omega)
      by_cases hn : isNew L k
      · rw [nub_new (by omega) hn]
        simp only [List.length_append, List.length_singleton, Nat.add_right_cancel_iff]
        rw [ih]
        constructor
        · intro h i hi
          rcases Nat.lt_or_ge i k with h5 | h5
          · exact h i h5
          · have : i = k := by omega
            subst this; exact hn
        · intro h i hi; exact h i (by omega)
      · rw [nub_old (by omega) hn]
        constructor
        · intro h; omega
        · intro h; exact absurd (h k (by omega)) hn
  have h1 := key L.length (Nat.le_refl _)
  rw [List.take_length] at h1
  rw [h1]
  constructor
  · intro h i j hi hj e
    rcases Nat.lt_trichotomy i j with h5 | h5 | h5
    · exact absurd e (h j hj i h5)
    · exact h5
    · exact absurd e.symm (h i hi j h5)
  · intro h i hi j hj e
    have := h j i (by omega) hi e
    omega

structure IsP (n : Nat) (θ : Nat → Nat → Prop) (p : List Int) : Prop where
  len : p.length = n
  can : canonI p = p
  ker : ∀ x y, x < n → y < n → (p.getD x 0 = p.getD y 0 ↔ θ x y)
theorem IsP.of {n : Nat} {θ : Nat → Nat → Prop} {L : List Int} (hl : L.length = n) (h : ∀ x y, x < n → y < n → (L.getD x 0 = L.getD y 0 ↔ θ x y)) : IsP n θ (canonI L) :=
  ⟨by simp [hl], canonI_idem L, fun x y hx hy => by rw [canonI_ker (by omega) (by omega)]; exact h x y hx hy⟩
theorem IsP.valid {n : Nat} {θ : Nat → Nat → Prop} {p : List Int} (hp : IsP n θ p) (hn : n ≤ 4096) : validP p = true := validP_iff.2 ⟨by rw [hp.len]; exact hn, hp.can⟩
theorem IsP.self {p : List Int} (h : validP p = true) : IsP p.length (fun x y => p.getD x 0 = p.getD y 0) p := ⟨rfl, (validP_iff.1 h).2, fun _ _ _ _ => Iff.rfl⟩
theorem IsP.mono {n : Nat} {θ φ : Nat → Nat → Prop} {p : List Int} (hp : IsP n θ p) (h : ∀ x y, x < n → y < n → (θ x y ↔ φ x y)) : IsP n φ p :=
  ⟨hp.len, hp.can, fun x y hx hy => by rw [hp.ker x y hx hy, h x y hx hy]⟩
theorem IsP.bound {n : Nat} {θ : Nat → Nat → Prop} {p : List Int} (hp : IsP n θ p) {k : Nat} (hk : k < n) : 0 ≤ p.getD k 0 ∧ p.getD k 0 ≤ k := by
  have h0 := hp.len
  have h1 := canonI_lt (L := p) (k := k) (by omega) (m := k + 1) (by omega) (by omega)
  rw [hp.can] at h1
  have := nub_le p (k + 1) (by omega)
  omega
end Go.AM.Par
