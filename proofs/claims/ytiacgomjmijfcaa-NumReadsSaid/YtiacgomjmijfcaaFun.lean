/- By program (Gen): the functions of the program, as the shadow machine has them. -/
import Derived.Test.YtiacgomjmijfcaaChecked
import Derived.Test.YtiacgomjmijfcaaShT
set_option linter.all false
namespace Go.Proofs.Ytiacgomjmijfcaa
open Go.Sh
set_option maxRecDepth 100000

abbrev f_main_main : Nat := 0
abbrev f_gosem_cut : Nat := 1
/-- gosem.cut.init -/
abbrev f_gosem_cut_init : Nat := 2
/-- hedgerow/hedgerowlaw02.NumPuts -/
abbrev f_hedgerowlaw02_NumPuts : Nat := 3
/-- hedgerow/hedgerowlaw02.NumSizes -/
abbrev f_hedgerowlaw02_NumSizes : Nat := 4
/-- hedgerow/hedgerowlaw02.NumRows -/
abbrev f_hedgerowlaw02_NumRows : Nat := 5
/-- hedgerow/hedgerowlaw02.NumReads -/
abbrev f_hedgerowlaw02_NumReads : Nat := 6
/-- hedgerow/hedgerowlaw02.fixed -/
abbrev f_hedgerowlaw02_fixed : Nat := 7
/-- hedgerow/num.Put -/
abbrev f_num_Put : Nat := 8
/-- hedgerow/hedgerowref02.Put -/
abbrev f_hedgerowref02_Put : Nat := 9
/-- hedgerow/num.Signed -/
abbrev f_num_Signed : Nat := 10
/-- hedgerow/hedgerowref02.Signed -/
abbrev f_hedgerowref02_Signed : Nat := 11
/-- hedgerow/num.Text -/
abbrev f_num_Text : Nat := 12
/-- hedgerow/hedgerowref02.Text -/
abbrev f_hedgerowref02_Text : Nat := 13
/-- hedgerow/num.Read -/
abbrev f_num_Read : Nat := 14
/-- (*hedgerow/num.Reader).Num -/
abbrev f_num_Reader_Num : Nat := 15
/-- (*hedgerow/num.Reader).Signed -/
abbrev f_num_Reader_Signed : Nat := 16
/-- (*hedgerow/num.Reader).Text -/
abbrev f_num_Reader_Text : Nat := 17
/-- (*hedgerow/num.Reader).Done -/
abbrev f_num_Reader_Done : Nat := 18
/-- (*hedgerow/num.Reader).Fail -/
abbrev f_num_Reader_Fail : Nat := 19
/-- (*hedgerow/hedgerowref02.Reader).Num -/
abbrev f_hedgerowref02_Reader_Num : Nat := 20
/-- (*hedgerow/hedgerowref02.Reader).Signed -/
abbrev f_hedgerowref02_Reader_Signed : Nat := 21
/-- (*hedgerow/hedgerowref02.Reader).Text -/
abbrev f_hedgerowref02_Reader_Text : Nat := 22
/-- (*hedgerow/num.Reader).Left -/
abbrev f_num_Reader_Left : Nat := 23
/-- (*hedgerow/hedgerowref02.Reader).Left -/
abbrev f_hedgerowref02_Reader_Left : Nat := 24
/-- hedgerow/num.take -/
abbrev f_num_take : Nat := 25
/-- hedgerow/hedgerowref02.Take -/
abbrev f_hedgerowref02_Take : Nat := 26
abbrev f_runtime_boundsError_Error : Nat := 27
abbrev f_runtime_boundsError_RuntimeError : Nat := 28
abbrev f_runtime_errorString_Error : Nat := 29
abbrev f_runtime_errorString_RuntimeError : Nat := 30
abbrev f_runtime_plainError_Error : Nat := 31
abbrev f_runtime_plainError_RuntimeError : Nat := 32
abbrev f_runtime_errorAddressString_Error : Nat := 33
abbrev f_runtime_errorAddressString_RuntimeError : Nat := 34
abbrev f_runtime_TypeAssertionError_Error : Nat := 35
abbrev f_runtime_TypeAssertionError_RuntimeError : Nat := 36
abbrev f_runtime_PanicNilError_Error : Nat := 37
abbrev f_runtime_PanicNilError_RuntimeError : Nat := 38
abbrev f_abi_Type_Align : Nat := 39
abbrev f_runtime_maps_unhashableTypeError_Error : Nat := 40
abbrev f_runtime_maps_unhashableTypeError_RuntimeError : Nat := 41
abbrev f_abi_Kind_String : Nat := 42
def b_gosem_cut_init : ICode :=
 .region [
   ⟨(some 0), none, .call f_gosem_cut, [], none⟩]
def F_gosem_cut_init : IFun := ⟨1, [], b_gosem_cut_init, 0, 0⟩
theorem c_gosem_cut_init : cFun Try.prog [] 0 f_gosem_cut_init = some F_gosem_cut_init := by kernel_rfl

def b_hedgerowlaw02_NumPuts : ICode :=
 .seq
  (.region [
    ⟨(some 6), none, .id, [.val (.bool false)], none⟩])
  (.seq
   (.seq
    (.region [
      ⟨(some 10), none, .call f_hedgerowlaw02_fixed, [], none⟩,
      ⟨(some 11), none, .un .not, [.slot 10], none⟩])
    (.cond (.slot 11)
     (.seq
      (.region [
        ⟨(some 6), none, .id, [.val (.bool false)], none⟩])
      (.ret))
     (.skip)))
   (.seq
    (.seq
     (.region [
       ⟨(some 12), none, .id, [.slot 0], none⟩,
       ⟨(some 13), none, .lensl, [.slot 12], none⟩,
       ⟨(some 14), none, .bin .gtr, [.slot 13, .val (.int .i64 100)], none⟩,
       ⟨(some 15), none, .id, [.slot 14], none⟩,
       ⟨(some 16), (some (15, false)), .id, [.slot 2], none⟩,
       ⟨(some 17), (some (15, false)), .lenstr, [.slot 16], none⟩,
       ⟨(some 18), (some (15, false)), .bin .gtr, [.slot 17, .val (.int .i64 200)], none⟩,
       ⟨(some 19), none, .pick, [.slot 15, .val (.bool true), .slot 18], none⟩])
     (.cond (.slot 19)
      (.seq
       (.region [
         ⟨(some 6), none, .id, [.val (.bool true)], none⟩])
       (.ret))
      (.skip)))
    (.seq
     (.seq
      (.region [
        ⟨(some 20), none, .buildSl 1 0 (.int .u8 0) [], [], none⟩,
        ⟨(some 21), none, .id, [.slot 0], none⟩,
        ⟨(some 22), none, .append 1 1, [.slot 20, .slot 21], none⟩,
        ⟨(some 23), none, .id, [.slot 1], none⟩,
        ⟨(some 24), none, .call f_num_Put, [.slot 22, .slot 23], none⟩,
        ⟨(some 25), none, .b2s, [.slot 24], none⟩,
        ⟨(some 26), none, .id, [.slot 0], none⟩,
        ⟨(some 27), none, .id, [.slot 1], none⟩,
        ⟨(some 28), none, .call f_hedgerowref02_Put, [.slot 26, .slot 27], none⟩,
        ⟨(some 29), none, .b2s, [.slot 28], none⟩,
        ⟨(some 30), none, .bin .neq, [.slot 25, .slot 29], none⟩,
        ⟨(some 31), none, .id, [.slot 30], none⟩,
        ⟨(some 32), (some (31, false)), .buildSl 1 0 (.int .u8 0) [], [], none⟩,
        ⟨(some 33), (some (31, false)), .id, [.slot 0], none⟩,
        ⟨(some 34), (some (31, false)), .append 1 1, [.slot 32, .slot 33], none⟩,
        ⟨(some 35), (some (31, false)), .id, [.slot 1], none⟩,
        ⟨(some 36), (some (31, false)), .call f_num_Signed, [.slot 34, .slot 35], none⟩,
        ⟨(some 37), (some (31, false)), .b2s, [.slot 36], none⟩,
        ⟨(some 38), (some (31, false)), .id, [.slot 0], none⟩,
        ⟨(some 39), (some (31, false)), .id, [.slot 1], none⟩,
        ⟨(some 40), (some (31, false)), .call f_hedgerowref02_Signed, [.slot 38, .slot 39], none⟩,
        ⟨(some 41), (some (31, false)), .b2s, [.slot 40], none⟩,
        ⟨(some 42), (some (31, false)), .bin .neq, [.slot 37, .slot 41], none⟩,
        ⟨(some 43), none, .pick, [.slot 31, .val (.bool true), .slot 42], none⟩,
        ⟨(some 44), none, .id, [.slot 43], none⟩,
        ⟨(some 45), (some (44, false)), .buildSl 1 0 (.int .u8 0) [], [], none⟩,
        ⟨(some 46), (some (44, false)), .id, [.slot 0], none⟩,
        ⟨(some 47), (some (44, false)), .append 1 1, [.slot 45, .slot 46], none⟩,
        ⟨(some 48), (some (44, false)), .id, [.slot 2], none⟩,
        ⟨(some 49), (some (44, false)), .call f_num_Text, [.slot 47, .slot 48], none⟩,
        ⟨(some 50), (some (44, false)), .b2s, [.slot 49], none⟩,
        ⟨(some 51), (some (44, false)), .id, [.slot 0], none⟩,
        ⟨(some 52), (some (44, false)), .id, [.slot 2], none⟩,
        ⟨(some 53), (some (44, false)), .call f_hedgerowref02_Text, [.slot 51, .slot 52], none⟩,
        ⟨(some 54), (some (44, false)), .b2s, [.slot 53], none⟩,
        ⟨(some 55), (some (44, false)), .bin .neq, [.slot 50, .slot 54], none⟩,
        ⟨(some 56), none, .pick, [.slot 44, .val (.bool true), .slot 55], none⟩])
      (.cond (.slot 56)
       (.seq
        (.region [
          ⟨(some 6), none, .id, [.val (.bool false)], none⟩])
        (.ret))
       (.skip)))
     (.seq
      (.region [
        ⟨(some 57), none, .id, [.slot 1], none⟩,
        ⟨(some 7), none, .id, [.slot 57], none⟩])
      (.seq
       (.seq
        (.region [
          ⟨(some 58), none, .id, [.slot 7], none⟩,
          ⟨(some 59), none, .bin .lss, [.slot 58, .val (.int .i64 0)], none⟩])
        (.cond (.slot 59)
         (.region [
           ⟨(some 7), none, .id, [.val (.int .i64 0)], none⟩])
         (.skip)))
       (.seq
        (.region [
          ⟨(some 60), none, .id, [.slot 7], none⟩,
          ⟨(some 61), none, .bin .rem, [.slot 60, .val (.int .i64 4611686018427387904)], none⟩,
          ⟨(some 7), none, .id, [.slot 61], none⟩])
        (.seq
         (.region [
           ⟨(some 62), none, .id, [.slot 1], none⟩,
           ⟨(some 63), none, .bin .rem, [.slot 62, .val (.int .i64 1152921504606846976)], none⟩,
           ⟨(some 8), none, .id, [.slot 63], none⟩])
         (.seq
          (.region [
            ⟨(some 64), none, .id, [.slot 7], none⟩,
            ⟨(some 65), none, .call f_num_Put, [.val .nilsl, .slot 64], none⟩,
            ⟨(some 66), none, .id, [.slot 8], none⟩,
            ⟨(some 67), none, .call f_num_Signed, [.slot 65, .slot 66], none⟩,
            ⟨(some 68), none, .id, [.slot 2], none⟩,
            ⟨(some 69), none, .call f_num_Text, [.slot 67, .slot 68], none⟩,
            ⟨(some 70), none, .call f_num_Read, [.slot 69], none⟩,
            ⟨(some 9), none, .id, [.slot 70], none⟩])
          (.seq
           (.region [
             ⟨(some 71), none, .id, [.slot 9], none⟩,
             ⟨(some 72), none, .call f_num_Reader_Num, [.slot 71, .val (.int .i64 4611686018427387903)], none⟩,
             ⟨(some 73), none, .id, [.slot 7], none⟩,
             ⟨(some 74), none, .bin .eql, [.slot 72, .slot 73], none⟩,
             ⟨(some 75), none, .id, [.slot 74], none⟩,
             ⟨(some 76), (some (75, true)), .id, [.slot 9], none⟩,
             ⟨(some 77), (some (75, true)), .call f_num_Reader_Signed, [.slot 76], none⟩,
             ⟨(some 78), (some (75, true)), .id, [.slot 8], none⟩,
             ⟨(some 79), (some (75, true)), .bin .eql, [.slot 77, .slot 78], none⟩,
             ⟨(some 80), none, .pick, [.slot 75, .slot 79, .val (.bool false)], none⟩,
             ⟨(some 81), none, .id, [.slot 80], none⟩,
             ⟨(some 82), (some (81, true)), .id, [.slot 9], none⟩,
             ⟨(some 83), (some (81, true)), .call f_num_Reader_Text, [.slot 82, .val (.int .i64 200)], none⟩,
             ⟨(some 84), (some (81, true)), .id, [.slot 2], none⟩,
             ⟨(some 85), (some (81, true)), .bin .eql, [.slot 83, .slot 84], none⟩,
             ⟨(some 86), none, .pick, [.slot 81, .slot 85, .val (.bool false)], none⟩,
             ⟨(some 87), none, .id, [.slot 86], none⟩,
             ⟨(some 88), (some (87, true)), .id, [.slot 9], none⟩,
             ⟨(some 89), (some (87, true)), .call f_num_Reader_Done, [.slot 88], none⟩,
             ⟨(some 90), none, .pick, [.slot 87, .slot 89, .val (.bool false)], none⟩,
             ⟨(some 6), none, .id, [.slot 90], none⟩])
           (.ret))))))))))
def F_hedgerowlaw02_NumPuts : IFun := ⟨91, [.slot 6], b_hedgerowlaw02_NumPuts, 0, 0⟩
theorem c_hedgerowlaw02_NumPuts : cFun Try.prog [2097159, 2097170] 0 f_hedgerowlaw02_NumPuts = some F_hedgerowlaw02_NumPuts := by kernel_rfl

def b_hedgerowlaw02_NumSizes : ICode :=
 .seq
  (.region [
    ⟨(some 4), none, .id, [.val (.bool false)], none⟩])
  (.seq
   (.seq
    (.region [
      ⟨(some 7), none, .call f_hedgerowlaw02_fixed, [], none⟩,
      ⟨(some 8), none, .un .not, [.slot 7], none⟩])
    (.cond (.slot 8)
     (.seq
      (.region [
        ⟨(some 4), none, .id, [.val (.bool false)], none⟩])
      (.ret))
     (.skip)))
   (.seq
    (.seq
     (.region [
       ⟨(some 9), none, .id, [.slot 0], none⟩,
       ⟨(some 10), none, .bin .lss, [.slot 9, .val (.int .i64 0)], none⟩,
       ⟨(some 11), none, .id, [.slot 10], none⟩,
       ⟨(some 12), (some (11, false)), .id, [.slot 1], none⟩,
       ⟨(some 13), (some (11, false)), .id, [.slot 0], none⟩,
       ⟨(some 14), (some (11, false)), .bin .lss, [.slot 12, .slot 13], none⟩,
       ⟨(some 15), none, .pick, [.slot 11, .val (.bool true), .slot 14], none⟩,
       ⟨(some 16), none, .id, [.slot 15], none⟩,
       ⟨(some 17), (some (16, false)), .id, [.slot 1], none⟩,
       ⟨(some 18), (some (16, false)), .bin .geq, [.slot 17, .val (.int .i64 4611686018427387904)], none⟩,
       ⟨(some 19), none, .pick, [.slot 16, .val (.bool true), .slot 18], none⟩])
     (.cond (.slot 19)
      (.seq
       (.region [
         ⟨(some 4), none, .id, [.val (.bool true)], none⟩])
       (.ret))
      (.skip)))
    (.seq
     (.region [
       ⟨(some 20), none, .id, [.slot 0], none⟩,
       ⟨(some 21), none, .call f_num_Put, [.val .nilsl, .slot 20], none⟩,
       ⟨(some 22), none, .b2s, [.slot 21], none⟩,
       ⟨(some 23), none, .id, [.slot 1], none⟩,
       ⟨(some 24), none, .call f_num_Put, [.val .nilsl, .slot 23], none⟩,
       ⟨(some 25), none, .b2s, [.slot 24], none⟩,
       ⟨(some 5), none, .id, [.slot 22], none⟩,
       ⟨(some 6), none, .id, [.slot 25], none⟩])
     (.seq
      (.seq
       (.region [
         ⟨(some 26), none, .id, [.slot 5], none⟩,
         ⟨(some 27), none, .lenstr, [.slot 26], none⟩,
         ⟨(some 28), none, .id, [.slot 6], none⟩,
         ⟨(some 29), none, .lenstr, [.slot 28], none⟩,
         ⟨(some 30), none, .bin .gtr, [.slot 27, .slot 29], none⟩,
         ⟨(some 31), none, .id, [.slot 30], none⟩,
         ⟨(some 32), (some (31, false)), .id, [.slot 6], none⟩,
         ⟨(some 33), (some (31, false)), .lenstr, [.slot 32], none⟩,
         ⟨(some 34), (some (31, false)), .bin .gtr, [.slot 33, .val (.int .i64 9)], none⟩,
         ⟨(some 35), none, .pick, [.slot 31, .val (.bool true), .slot 34], none⟩,
         ⟨(some 36), none, .id, [.slot 35], none⟩,
         ⟨(some 37), (some (36, false)), .id, [.slot 5], none⟩,
         ⟨(some 38), (some (36, false)), .lenstr, [.slot 37], none⟩,
         ⟨(some 39), (some (36, false)), .bin .lss, [.slot 38, .val (.int .i64 1)], none⟩,
         ⟨(some 40), none, .pick, [.slot 36, .val (.bool true), .slot 39], none⟩])
       (.cond (.slot 40)
        (.seq
         (.region [
           ⟨(some 4), none, .id, [.val (.bool false)], none⟩])
         (.ret))
        (.skip)))
      (.seq
       (.region [
         ⟨(some 41), none, .id, [.slot 6], none⟩,
         ⟨(some 42), none, .id, [.slot 5], none⟩,
         ⟨(some 43), none, .lenstr, [.slot 42], none⟩,
         ⟨(some 44), none, .slstr false true, [.slot 41, .slot 43], none⟩,
         ⟨(some 45), none, .id, [.slot 5], none⟩,
         ⟨(some 46), none, .bin .eql, [.slot 44, .slot 45], none⟩,
         ⟨(some 47), none, .id, [.slot 0], none⟩,
         ⟨(some 48), none, .id, [.slot 1], none⟩,
         ⟨(some 49), none, .bin .eql, [.slot 47, .slot 48], none⟩,
         ⟨(some 50), none, .eq1 false .bool, [.slot 46, .slot 49], none⟩,
         ⟨(some 4), none, .id, [.slot 50], none⟩])
       (.ret))))))
def F_hedgerowlaw02_NumSizes : IFun := ⟨51, [.slot 4], b_hedgerowlaw02_NumSizes, 0, 0⟩
theorem c_hedgerowlaw02_NumSizes : cFun Try.prog [2097159] 0 f_hedgerowlaw02_NumSizes = some F_hedgerowlaw02_NumSizes := by kernel_rfl

def L0_hedgerowlaw02_NumRows : ICode :=
 .seq
  (.region [
    ⟨(some 17), none, .bin .lss, [.slot 16, .slot 15], none⟩])
  (.seq
   (.cond (.slot 17)
    (.skip)
    (.exit 0))
   (.seq
    (.block 1
     (.seq
      (.region [
        ⟨(some 18), none, .ixaddr 1, [.slot 14, .slot 16], none⟩,
        ⟨(some 19), none, .load 1 false, [.slot 18], none⟩,
        ⟨(some 5), none, .id, [.slot 19], none⟩])
      (.region [
        ⟨(some 20), none, .id, [.slot 3], none⟩,
        ⟨(some 21), none, .id, [.slot 5], none⟩,
        ⟨(some 22), none, .bin .rem, [.slot 21, .val (.int .i64 576460752303423488)], none⟩,
        ⟨(some 23), none, .call f_num_Signed, [.slot 20, .slot 22], none⟩,
        ⟨(some 3), none, .id, [.slot 23], none⟩])))
    (.region [
      ⟨(some 24), none, .bin .add, [.slot 16, .val (.int .i64 1)], none⟩,
      ⟨(some 16), none, .id, [.slot 24], none⟩])))
def L1_hedgerowlaw02_NumRows : ICode :=
 .seq
  (.region [
    ⟨(some 30), none, .bin .lss, [.slot 29, .slot 28], none⟩])
  (.seq
   (.cond (.slot 30)
    (.skip)
    (.exit 2))
   (.seq
    (.block 3
     (.seq
      (.region [
        ⟨(some 31), none, .ixaddr 1, [.slot 27, .slot 29], none⟩,
        ⟨(some 32), none, .load 1 false, [.slot 31], none⟩,
        ⟨(some 8), none, .id, [.slot 32], none⟩])
      (.seq
       (.region [
         ⟨(some 33), none, .id, [.slot 6], none⟩,
         ⟨(some 34), none, .call f_num_Reader_Fail, [.slot 33], none⟩,
         ⟨(some 35), none, .id, [.slot 34], none⟩,
         ⟨(some 36), (some (35, false)), .id, [.slot 6], none⟩,
         ⟨(some 37), (some (35, false)), .call f_num_Reader_Signed, [.slot 36], none⟩,
         ⟨(some 38), (some (35, false)), .id, [.slot 8], none⟩,
         ⟨(some 39), (some (35, false)), .bin .rem, [.slot 38, .val (.int .i64 576460752303423488)], none⟩,
         ⟨(some 40), (some (35, false)), .bin .neq, [.slot 37, .slot 39], none⟩,
         ⟨(some 41), none, .pick, [.slot 35, .val (.bool true), .slot 40], none⟩])
       (.cond (.slot 41)
        (.seq
         (.region [
           ⟨(some 2), none, .id, [.val (.bool false)], none⟩])
         (.ret))
        (.skip)))))
    (.region [
      ⟨(some 42), none, .bin .add, [.slot 29, .val (.int .i64 1)], none⟩,
      ⟨(some 29), none, .id, [.slot 42], none⟩])))
def b_hedgerowlaw02_NumRows : ICode :=
 .seq
  (.region [
    ⟨(some 2), none, .id, [.val (.bool false)], none⟩])
  (.seq
   (.seq
    (.region [
      ⟨(some 9), none, .call f_hedgerowlaw02_fixed, [], none⟩,
      ⟨(some 10), none, .un .not, [.slot 9], none⟩])
    (.cond (.slot 10)
     (.seq
      (.region [
        ⟨(some 2), none, .id, [.val (.bool false)], none⟩])
      (.ret))
     (.skip)))
   (.seq
    (.seq
     (.region [
       ⟨(some 11), none, .id, [.slot 0], none⟩,
       ⟨(some 12), none, .lensl, [.slot 11], none⟩,
       ⟨(some 13), none, .bin .gtr, [.slot 12, .val (.int .i64 60)], none⟩])
     (.cond (.slot 13)
      (.seq
       (.region [
         ⟨(some 2), none, .id, [.val (.bool true)], none⟩])
       (.ret))
      (.skip)))
    (.seq
     (.region [
       ⟨(some 3), none, .id, [.val .nilsl], none⟩])
     (.seq
      (.seq
       (.region [
         ⟨(some 14), none, .id, [.slot 0], none⟩,
         ⟨(some 15), none, .lensl, [.slot 14], none⟩,
         ⟨(some 16), none, .id, [.val (.int .i64 0)], none⟩])
       (.block 0
        (.loop L0_hedgerowlaw02_NumRows)))
      (.seq
       (.region [
         ⟨(some 25), none, .id, [.slot 3], none⟩,
         ⟨(some 26), none, .call f_num_Read, [.slot 25], none⟩,
         ⟨(some 6), none, .id, [.slot 26], none⟩])
       (.seq
        (.seq
         (.region [
           ⟨(some 27), none, .id, [.slot 0], none⟩,
           ⟨(some 28), none, .lensl, [.slot 27], none⟩,
           ⟨(some 29), none, .id, [.val (.int .i64 0)], none⟩])
         (.block 2
          (.loop L1_hedgerowlaw02_NumRows)))
        (.seq
         (.region [
           ⟨(some 43), none, .id, [.slot 6], none⟩,
           ⟨(some 44), none, .call f_num_Reader_Done, [.slot 43], none⟩,
           ⟨(some 45), none, .id, [.slot 44], none⟩,
           ⟨(some 46), (some (45, true)), .id, [.slot 6], none⟩,
           ⟨(some 47), (some (45, true)), .call f_num_Reader_Num, [.slot 46, .val (.int .i64 9)], none⟩,
           ⟨(some 48), (some (45, true)), .bin .eql, [.slot 47, .val (.int .i64 0)], none⟩,
           ⟨(some 49), none, .pick, [.slot 45, .slot 48, .val (.bool false)], none⟩,
           ⟨(some 50), none, .id, [.slot 49], none⟩,
           ⟨(some 51), (some (50, true)), .id, [.slot 6], none⟩,
           ⟨(some 52), (some (50, true)), .call f_num_Reader_Fail, [.slot 51], none⟩,
           ⟨(some 53), none, .pick, [.slot 50, .slot 52, .val (.bool false)], none⟩,
           ⟨(some 2), none, .id, [.slot 53], none⟩])
         (.ret))))))))
def F_hedgerowlaw02_NumRows : IFun := ⟨54, [.slot 2], b_hedgerowlaw02_NumRows, 0, 0⟩
theorem c_hedgerowlaw02_NumRows : cFun Try.prog [2097159, 2097171, 2097170] 0 f_hedgerowlaw02_NumRows = some F_hedgerowlaw02_NumRows := by kernel_rfl

def L0_hedgerowlaw02_NumReads : ICode :=
 .seq
  (.region [
    ⟨(some 28), none, .bin .lss, [.slot 27, .slot 26], none⟩])
  (.seq
   (.cond (.slot 28)
    (.skip)
    (.exit 0))
   (.seq
    (.block 1
     (.seq
      (.region [
        ⟨(some 29), none, .ixaddr 2, [.slot 25, .slot 27], none⟩,
        ⟨(some 30), none, .load 2 true, [.slot 29], none⟩,
        ⟨(some 8), none, .allocL [(.int .u8 0), (.int .i64 0)], [], none⟩,
        ⟨none, none, .store 2, [.slot 8, .slot 30], none⟩])
      (.seq
       (.region [
         ⟨(some 9), none, .id, [.val (.bool true)], none⟩])
       (.seq
        (.seq
         (.region [
           ⟨(some 31), none, .faddr 0, [.slot 8], none⟩,
           ⟨(some 32), none, .load 1 false, [.slot 31], none⟩,
           ⟨(some 33), none, .bin .rem, [.slot 32, .val (.int .u8 3)], none⟩])
         (.block 2
          (.seq
           (.region [
             ⟨(some 35), none, .bin .eql, [.slot 33, .val (.int .u8 0)], none⟩,
             ⟨(some 34), none, .id, [.slot 35], none⟩])
           (.cond (.slot 34)
            (.region [
              ⟨(some 36), none, .id, [.slot 5], none⟩,
              ⟨(some 37), none, .faddr 1, [.slot 8], none⟩,
              ⟨(some 38), none, .load 1 false, [.slot 37], (some (.loc 8))⟩,
              ⟨(some 39), none, .call f_num_Reader_Num, [.slot 36, .slot 38], none⟩,
              ⟨(some 40), none, .id, [.slot 6], none⟩,
              ⟨(some 41), none, .faddr 1, [.slot 8], none⟩,
              ⟨(some 42), none, .load 1 false, [.slot 41], (some (.loc 8))⟩,
              ⟨(some 43), none, .call f_hedgerowref02_Reader_Num, [.slot 40, .slot 42], none⟩,
              ⟨(some 44), none, .bin .eql, [.slot 39, .slot 43], none⟩,
              ⟨(some 9), none, .id, [.slot 44], none⟩])
            (.seq
             (.region [
               ⟨(some 46), none, .bin .eql, [.slot 33, .val (.int .u8 1)], none⟩,
               ⟨(some 45), none, .id, [.slot 46], none⟩])
             (.cond (.slot 45)
              (.region [
                ⟨(some 47), none, .id, [.slot 5], none⟩,
                ⟨(some 48), none, .call f_num_Reader_Signed, [.slot 47], none⟩,
                ⟨(some 49), none, .id, [.slot 6], none⟩,
                ⟨(some 50), none, .call f_hedgerowref02_Reader_Signed, [.slot 49], none⟩,
                ⟨(some 51), none, .bin .eql, [.slot 48, .slot 50], none⟩,
                ⟨(some 9), none, .id, [.slot 51], none⟩])
              (.seq
               (.region [
                 ⟨(some 53), none, .bin .eql, [.slot 33, .val (.int .u8 2)], none⟩,
                 ⟨(some 52), none, .id, [.slot 53], none⟩])
               (.cond (.slot 52)
                (.region [
                  ⟨(some 54), none, .id, [.slot 5], none⟩,
                  ⟨(some 55), none, .faddr 1, [.slot 8], none⟩,
                  ⟨(some 56), none, .load 1 false, [.slot 55], (some (.loc 8))⟩,
                  ⟨(some 57), none, .call f_num_Reader_Text, [.slot 54, .slot 56], none⟩,
                  ⟨(some 58), none, .id, [.slot 6], none⟩,
                  ⟨(some 59), none, .faddr 1, [.slot 8], none⟩,
                  ⟨(some 60), none, .load 1 false, [.slot 59], (some (.loc 8))⟩,
                  ⟨(some 61), none, .call f_hedgerowref02_Reader_Text, [.slot 58, .slot 60], none⟩,
                  ⟨(some 62), none, .bin .eql, [.slot 57, .slot 61], none⟩,
                  ⟨(some 9), none, .id, [.slot 62], none⟩])
                (.skip)))))))))
        (.seq
         (.region [
           ⟨(some 63), none, .id, [.slot 9], none⟩,
           ⟨(some 64), none, .un .not, [.slot 63], none⟩,
           ⟨(some 65), none, .id, [.slot 64], none⟩,
           ⟨(some 66), (some (65, false)), .id, [.slot 5], none⟩,
           ⟨(some 67), (some (65, false)), .callP f_num_Reader_Left, [.slot 66], none⟩,
           ⟨(some 68), (some (65, false)), .id, [.slot 6], none⟩,
           ⟨(some 69), (some (65, false)), .callP f_hedgerowref02_Reader_Left, [.slot 68], none⟩,
           ⟨(some 70), (some (65, false)), .bin .neq, [.slot 67, .slot 69], none⟩,
           ⟨(some 71), none, .pick, [.slot 65, .val (.bool true), .slot 70], none⟩,
           ⟨(some 72), none, .id, [.slot 71], none⟩,
           ⟨(some 73), (some (72, false)), .id, [.slot 5], none⟩,
           ⟨(some 74), (some (72, false)), .callP f_num_Reader_Fail, [.slot 73], none⟩,
           ⟨(some 75), (some (72, false)), .id, [.slot 6], none⟩,
           ⟨(some 76), (some (72, false)), .nilchk, [.slot 75], none⟩,
           ⟨(some 77), (some (72, false)), .faddr 1, [.slot 76], none⟩,
           ⟨(some 78), (some (72, false)), .load 1 false, [.slot 77], (some (.heap))⟩,
           ⟨(some 79), (some (72, false)), .eq1 true .bool, [.slot 74, .slot 78], none⟩,
           ⟨(some 80), none, .pick, [.slot 72, .val (.bool true), .slot 79], none⟩,
           ⟨(some 81), none, .id, [.slot 80], none⟩,
           ⟨(some 82), (some (81, false)), .id, [.slot 5], none⟩,
           ⟨(some 83), (some (81, false)), .callP f_num_Reader_Done, [.slot 82], none⟩,
           ⟨(some 84), (some (81, false)), .id, [.slot 6], none⟩,
           ⟨(some 85), (some (81, false)), .nilchk, [.slot 84], none⟩,
           ⟨(some 86), (some (81, false)), .faddr 1, [.slot 85], none⟩,
           ⟨(some 87), (some (81, false)), .load 1 false, [.slot 86], (some (.heap))⟩,
           ⟨(some 88), (some (81, false)), .un .not, [.slot 87], none⟩,
           ⟨(some 89), (some (81, false)), .id, [.slot 88], none⟩,
           ⟨(some 90), (some (89, true)), .id, [.slot 6], none⟩,
           ⟨(some 91), (some (89, true)), .nilchk, [.slot 90], none⟩,
           ⟨(some 92), (some (89, true)), .faddr 0, [.slot 91], none⟩,
           ⟨(some 93), (some (89, true)), .load 1 false, [.slot 92], (some (.heap))⟩,
           ⟨(some 94), (some (89, true)), .lensl, [.slot 93], none⟩,
           ⟨(some 95), (some (89, true)), .bin .eql, [.slot 94, .val (.int .i64 0)], none⟩,
           ⟨(some 96), (some (81, false)), .pick, [.slot 89, .slot 95, .val (.bool false)], none⟩,
           ⟨(some 97), (some (81, false)), .eq1 true .bool, [.slot 83, .slot 96], none⟩,
           ⟨(some 98), none, .pick, [.slot 81, .val (.bool true), .slot 97], none⟩])
         (.cond (.slot 98)
          (.seq
           (.region [
             ⟨(some 4), none, .id, [.val (.bool false)], none⟩])
           (.ret))
          (.skip)))))))
    (.region [
      ⟨(some 99), none, .bin .add, [.slot 27, .val (.int .i64 1)], none⟩,
      ⟨(some 27), none, .id, [.slot 99], none⟩])))
def b_hedgerowlaw02_NumReads : ICode :=
 .seq
  (.region [
    ⟨(some 4), none, .id, [.val (.bool false)], none⟩])
  (.seq
   (.seq
    (.region [
      ⟨(some 10), none, .call f_hedgerowlaw02_fixed, [], none⟩,
      ⟨(some 11), none, .un .not, [.slot 10], none⟩])
    (.cond (.slot 11)
     (.seq
      (.region [
        ⟨(some 4), none, .id, [.val (.bool false)], none⟩])
      (.ret))
     (.skip)))
   (.seq
    (.seq
     (.region [
       ⟨(some 12), none, .id, [.slot 0], none⟩,
       ⟨(some 13), none, .lensl, [.slot 12], none⟩,
       ⟨(some 14), none, .bin .gtr, [.slot 13, .val (.int .i64 200)], none⟩,
       ⟨(some 15), none, .id, [.slot 14], none⟩,
       ⟨(some 16), (some (15, false)), .id, [.slot 1], none⟩,
       ⟨(some 17), (some (15, false)), .lensl, [.slot 16], none⟩,
       ⟨(some 18), (some (15, false)), .bin .gtr, [.slot 17, .val (.int .i64 60)], none⟩,
       ⟨(some 19), none, .pick, [.slot 15, .val (.bool true), .slot 18], none⟩])
     (.cond (.slot 19)
      (.seq
       (.region [
         ⟨(some 4), none, .id, [.val (.bool true)], none⟩])
       (.ret))
      (.skip)))
    (.seq
     (.region [
       ⟨(some 20), none, .id, [.slot 0], none⟩,
       ⟨(some 21), none, .call f_num_Read, [.slot 20], none⟩,
       ⟨(some 22), none, .id, [.slot 0], none⟩,
       ⟨(some 23), none, .build [.nilsl, (.bool false)] [(0, 1)], [.slot 22], none⟩,
       ⟨(some 24), none, .boxH, [.slot 23], none⟩,
       ⟨(some 5), none, .id, [.slot 21], none⟩,
       ⟨(some 6), none, .id, [.slot 24], none⟩])
     (.seq
      (.seq
       (.region [
         ⟨(some 25), none, .id, [.slot 1], none⟩,
         ⟨(some 26), none, .lensl, [.slot 25], none⟩,
         ⟨(some 27), none, .id, [.val (.int .i64 0)], none⟩])
       (.block 0
        (.loop L0_hedgerowlaw02_NumReads)))
      (.seq
       (.region [
         ⟨(some 4), none, .id, [.val (.bool true)], none⟩])
       (.ret))))))
def F_hedgerowlaw02_NumReads : IFun := ⟨100, [.slot 4], b_hedgerowlaw02_NumReads, 0, 0⟩
theorem c_hedgerowlaw02_NumReads : cFun Try.prog [24, 1048584, 2097159, 2097175, 2097176, 2097171, 2097170] 0 f_hedgerowlaw02_NumReads = some F_hedgerowlaw02_NumReads := by kernel_rfl

def b_hedgerowlaw02_fixed : ICode :=
 .seq
  (.region [
    ⟨(some 0), none, .id, [.val (.bool false)], none⟩])
  (.seq
   (.region [
     ⟨(some 7), none, .call f_num_Put, [.val .nilsl, .val (.int .i64 300)], none⟩,
     ⟨(some 8), none, .call f_num_Signed, [.slot 7, .val (.int .i64 (-2))], none⟩,
     ⟨(some 9), none, .call f_num_Text, [.slot 8, .val (.str ⟨#[104, 105]⟩)], none⟩,
     ⟨(some 10), none, .call f_num_Read, [.slot 9], none⟩,
     ⟨(some 1), none, .id, [.slot 10], none⟩])
   (.seq
    (.region [
      ⟨(some 11), none, .id, [.slot 1], none⟩,
      ⟨(some 12), none, .call f_num_Reader_Num, [.slot 11, .val (.int .i64 1000)], none⟩,
      ⟨(some 13), none, .id, [.slot 1], none⟩,
      ⟨(some 14), none, .call f_num_Reader_Signed, [.slot 13], none⟩,
      ⟨(some 15), none, .id, [.slot 1], none⟩,
      ⟨(some 16), none, .call f_num_Reader_Text, [.slot 15, .val (.int .i64 9)], none⟩,
      ⟨(some 2), none, .id, [.slot 12], none⟩,
      ⟨(some 3), none, .id, [.slot 14], none⟩,
      ⟨(some 4), none, .id, [.slot 16], none⟩])
    (.seq
     (.region [
       ⟨(some 17), none, .buildSl 1 2 (.int .u8 0) [0, 1], [.val (.int .u8 128), .val (.int .u8 0)], none⟩,
       ⟨(some 18), none, .call f_num_Read, [.slot 17], none⟩,
       ⟨(some 5), none, .id, [.slot 18], none⟩])
     (.seq
      (.region [
        ⟨(some 6), none, .id, [.val .nilptr], none⟩])
      (.seq
       (.region [
         ⟨(some 19), none, .call f_num_Put, [.val .nilsl, .val (.int .i64 300)], none⟩,
         ⟨(some 20), none, .b2s, [.slot 19], none⟩,
         ⟨(some 21), none, .bin .eql, [.slot 20, .val (.str ⟨#[172, 2]⟩)], none⟩,
         ⟨(some 22), none, .id, [.slot 21], none⟩,
         ⟨(some 23), (some (22, true)), .id, [.slot 2], none⟩,
         ⟨(some 24), (some (22, true)), .bin .eql, [.slot 23, .val (.int .i64 300)], none⟩,
         ⟨(some 25), none, .pick, [.slot 22, .slot 24, .val (.bool false)], none⟩,
         ⟨(some 26), none, .id, [.slot 25], none⟩,
         ⟨(some 27), (some (26, true)), .id, [.slot 3], none⟩,
         ⟨(some 28), (some (26, true)), .bin .eql, [.slot 27, .val (.int .i64 (-2))], none⟩,
         ⟨(some 29), none, .pick, [.slot 26, .slot 28, .val (.bool false)], none⟩,
         ⟨(some 30), none, .id, [.slot 29], none⟩,
         ⟨(some 31), (some (30, true)), .id, [.slot 4], none⟩,
         ⟨(some 32), (some (30, true)), .bin .eql, [.slot 31, .val (.str ⟨#[104, 105]⟩)], none⟩,
         ⟨(some 33), none, .pick, [.slot 30, .slot 32, .val (.bool false)], none⟩,
         ⟨(some 34), none, .id, [.slot 33], none⟩,
         ⟨(some 35), (some (34, true)), .id, [.slot 1], none⟩,
         ⟨(some 36), (some (34, true)), .call f_num_Reader_Done, [.slot 35], none⟩,
         ⟨(some 37), none, .pick, [.slot 34, .slot 36, .val (.bool false)], none⟩,
         ⟨(some 38), none, .id, [.slot 37], none⟩,
         ⟨(some 39), (some (38, true)), .id, [.slot 5], none⟩,
         ⟨(some 40), (some (38, true)), .call f_num_Reader_Num, [.slot 39, .val (.int .i64 9)], none⟩,
         ⟨(some 41), (some (38, true)), .bin .eql, [.slot 40, .val (.int .i64 0)], none⟩,
         ⟨(some 42), none, .pick, [.slot 38, .slot 41, .val (.bool false)], none⟩,
         ⟨(some 43), none, .id, [.slot 42], none⟩,
         ⟨(some 44), (some (43, true)), .id, [.slot 5], none⟩,
         ⟨(some 45), (some (43, true)), .call f_num_Reader_Fail, [.slot 44], none⟩,
         ⟨(some 46), none, .pick, [.slot 43, .slot 45, .val (.bool false)], none⟩,
         ⟨(some 47), none, .id, [.slot 46], none⟩,
         ⟨(some 48), (some (47, true)), .id, [.slot 6], none⟩,
         ⟨(some 49), (some (47, true)), .call f_num_Reader_Fail, [.slot 48], none⟩,
         ⟨(some 50), none, .pick, [.slot 47, .slot 49, .val (.bool false)], none⟩,
         ⟨(some 51), none, .id, [.slot 50], none⟩,
         ⟨(some 52), (some (51, true)), .id, [.slot 6], none⟩,
         ⟨(some 53), (some (51, true)), .call f_num_Reader_Num, [.slot 52, .val (.int .i64 1)], none⟩,
         ⟨(some 54), (some (51, true)), .bin .eql, [.slot 53, .val (.int .i64 0)], none⟩,
         ⟨(some 55), none, .pick, [.slot 51, .slot 54, .val (.bool false)], none⟩,
         ⟨(some 56), none, .id, [.slot 55], none⟩,
         ⟨(some 57), (some (56, true)), .id, [.slot 6], none⟩,
         ⟨(some 58), (some (56, true)), .call f_num_Reader_Text, [.slot 57, .val (.int .i64 3)], none⟩,
         ⟨(some 59), (some (56, true)), .bin .eql, [.slot 58, .val (.str ⟨#[]⟩)], none⟩,
         ⟨(some 60), none, .pick, [.slot 56, .slot 59, .val (.bool false)], none⟩,
         ⟨(some 0), none, .id, [.slot 60], none⟩])
       (.ret))))))
def F_hedgerowlaw02_fixed : IFun := ⟨61, [.slot 0], b_hedgerowlaw02_fixed, 0, 2⟩
theorem c_hedgerowlaw02_fixed : cFun Try.prog [2097170, 2097171] 2 f_hedgerowlaw02_fixed = some F_hedgerowlaw02_fixed := by kernel_rfl

def L0_num_Put : ICode :=
 .seq
  (.seq
   (.region [
     ⟨(some 12), none, .id, [.slot 1], none⟩,
     ⟨(some 13), none, .bin .gtr, [.slot 12, .val (.int .i64 127)], none⟩])
   (.cond (.slot 13)
    (.skip)
    (.exit 0)))
  (.seq
   (.block 1
    (.region [
      ⟨(some 16), none, .id, [.slot 0], none⟩,
      ⟨(some 17), none, .id, [.slot 1], none⟩,
      ⟨(some 18), none, .bin .and, [.slot 17, .val (.int .i64 127)], none⟩,
      ⟨(some 19), none, .bin .or, [.slot 18, .val (.int .i64 128)], none⟩,
      ⟨(some 20), none, .conv .u8, [.slot 19], none⟩,
      ⟨(some 21), none, .buildSl 1 1 (.int .u8 0) [0], [.slot 20], none⟩,
      ⟨(some 22), none, .append 1 1, [.slot 16, .slot 21], none⟩,
      ⟨(some 0), none, .id, [.slot 22], none⟩]))
   (.region [
     ⟨(some 14), none, .id, [.slot 1], none⟩,
     ⟨(some 15), none, .bin .shr, [.slot 14, .val (.int .u64 7)], none⟩,
     ⟨(some 1), none, .id, [.slot 15], none⟩]))
def b_num_Put : ICode :=
 .seq
  (.region [
    ⟨(some 4), none, .id, [.val .nilsl], none⟩])
  (.seq
   (.seq
    (.region [
      ⟨(some 5), none, .id, [.slot 1], none⟩,
      ⟨(some 6), none, .bin .lss, [.slot 5, .val (.int .i64 0)], none⟩,
      ⟨(some 7), none, .id, [.slot 6], none⟩,
      ⟨(some 8), (some (7, false)), .id, [.slot 1], none⟩,
      ⟨(some 9), (some (7, false)), .bin .gtr, [.slot 8, .val (.int .i64 4611686018427387903)], none⟩,
      ⟨(some 10), none, .pick, [.slot 7, .val (.bool true), .slot 9], none⟩])
    (.cond (.slot 10)
     (.seq
      (.region [
        ⟨(some 11), none, .id, [.slot 0], none⟩,
        ⟨(some 4), none, .id, [.slot 11], none⟩])
      (.ret))
     (.skip)))
   (.seq
    (.block 0
     (.loop L0_num_Put))
    (.seq
     (.region [
       ⟨(some 23), none, .id, [.slot 0], none⟩,
       ⟨(some 24), none, .id, [.slot 1], none⟩,
       ⟨(some 25), none, .conv .u8, [.slot 24], none⟩,
       ⟨(some 26), none, .buildSl 1 1 (.int .u8 0) [0], [.slot 25], none⟩,
       ⟨(some 27), none, .append 1 1, [.slot 23, .slot 26], none⟩,
       ⟨(some 4), none, .id, [.slot 27], none⟩])
     (.ret))))
def F_num_Put : IFun := ⟨28, [.slot 4], b_num_Put, 0, 0⟩
theorem c_num_Put : cFun Try.prog [] 0 f_num_Put = some F_num_Put := by kernel_rfl

def L0_hedgerowref02_Put : ICode :=
 .seq
  (.seq
   (.region [
     ⟨(some 16), none, .id, [.slot 1], none⟩,
     ⟨(some 17), none, .bin .gtr, [.slot 16, .val (.int .i64 127)], none⟩])
   (.cond (.slot 17)
    (.skip)
    (.exit 0)))
  (.block 1
   (.seq
    (.region [
      ⟨(some 18), none, .id, [.slot 5], none⟩,
      ⟨(some 19), none, .id, [.slot 1], none⟩,
      ⟨(some 20), none, .bin .rem, [.slot 19, .val (.int .i64 128)], none⟩,
      ⟨(some 21), none, .bin .add, [.slot 20, .val (.int .i64 128)], none⟩,
      ⟨(some 22), none, .conv .u8, [.slot 21], none⟩,
      ⟨(some 23), none, .buildSl 1 1 (.int .u8 0) [0], [.slot 22], none⟩,
      ⟨(some 24), none, .append 1 1, [.slot 18, .slot 23], none⟩,
      ⟨(some 5), none, .id, [.slot 24], none⟩])
    (.region [
      ⟨(some 25), none, .id, [.slot 1], none⟩,
      ⟨(some 26), none, .bin .quo, [.slot 25, .val (.int .i64 128)], none⟩,
      ⟨(some 1), none, .id, [.slot 26], none⟩])))
def b_hedgerowref02_Put : ICode :=
 .seq
  (.region [
    ⟨(some 4), none, .id, [.val .nilsl], none⟩])
  (.seq
   (.seq
    (.region [
      ⟨(some 6), none, .id, [.slot 1], none⟩,
      ⟨(some 7), none, .bin .lss, [.slot 6, .val (.int .i64 0)], none⟩,
      ⟨(some 8), none, .id, [.slot 7], none⟩,
      ⟨(some 9), (some (8, false)), .id, [.slot 1], none⟩,
      ⟨(some 10), (some (8, false)), .bin .geq, [.slot 9, .val (.int .i64 4611686018427387904)], none⟩,
      ⟨(some 11), none, .pick, [.slot 8, .val (.bool true), .slot 10], none⟩])
    (.cond (.slot 11)
     (.seq
      (.region [
        ⟨(some 12), none, .id, [.slot 0], none⟩,
        ⟨(some 4), none, .id, [.slot 12], none⟩])
      (.ret))
     (.skip)))
   (.seq
    (.region [
      ⟨(some 13), none, .buildSl 1 0 (.int .u8 0) [], [], none⟩,
      ⟨(some 14), none, .id, [.slot 0], none⟩,
      ⟨(some 15), none, .append 1 1, [.slot 13, .slot 14], none⟩,
      ⟨(some 5), none, .id, [.slot 15], none⟩])
    (.seq
     (.block 0
      (.loop L0_hedgerowref02_Put))
     (.seq
      (.region [
        ⟨(some 27), none, .id, [.slot 5], none⟩,
        ⟨(some 28), none, .id, [.slot 1], none⟩,
        ⟨(some 29), none, .conv .u8, [.slot 28], none⟩,
        ⟨(some 30), none, .buildSl 1 1 (.int .u8 0) [0], [.slot 29], none⟩,
        ⟨(some 31), none, .append 1 1, [.slot 27, .slot 30], none⟩,
        ⟨(some 4), none, .id, [.slot 31], none⟩])
      (.ret)))))
def F_hedgerowref02_Put : IFun := ⟨32, [.slot 4], b_hedgerowref02_Put, 0, 0⟩
theorem c_hedgerowref02_Put : cFun Try.prog [] 0 f_hedgerowref02_Put = some F_hedgerowref02_Put := by kernel_rfl

def b_num_Signed : ICode :=
 .seq
  (.region [
    ⟨(some 4), none, .id, [.val .nilsl], none⟩])
  (.seq
   (.block 0
    (.seq
     (.region [
       ⟨(some 6), none, .id, [.slot 1], none⟩,
       ⟨(some 7), none, .bin .lss, [.slot 6, .val (.int .i64 (-1152921504606846976))], none⟩,
       ⟨(some 8), none, .id, [.slot 7], none⟩,
       ⟨(some 9), (some (8, false)), .id, [.slot 1], none⟩,
       ⟨(some 10), (some (8, false)), .bin .gtr, [.slot 9, .val (.int .i64 1152921504606846976)], none⟩,
       ⟨(some 11), none, .pick, [.slot 8, .val (.bool true), .slot 10], none⟩,
       ⟨(some 5), none, .id, [.slot 11], none⟩])
     (.cond (.slot 5)
      (.seq
       (.region [
         ⟨(some 12), none, .id, [.slot 0], none⟩,
         ⟨(some 4), none, .id, [.slot 12], none⟩])
       (.ret))
      (.seq
       (.region [
         ⟨(some 14), none, .id, [.slot 1], none⟩,
         ⟨(some 15), none, .bin .lss, [.slot 14, .val (.int .i64 0)], none⟩,
         ⟨(some 13), none, .id, [.slot 15], none⟩])
       (.cond (.slot 13)
        (.seq
         (.region [
           ⟨(some 16), none, .id, [.slot 0], none⟩,
           ⟨(some 17), none, .id, [.slot 1], none⟩,
           ⟨(some 18), none, .bin .mul, [.val (.int .i64 (-2)), .slot 17], none⟩,
           ⟨(some 19), none, .bin .sub, [.slot 18, .val (.int .i64 1)], none⟩,
           ⟨(some 20), none, .call f_num_Put, [.slot 16, .slot 19], none⟩,
           ⟨(some 4), none, .id, [.slot 20], none⟩])
         (.ret))
        (.skip))))))
   (.seq
    (.region [
      ⟨(some 21), none, .id, [.slot 0], none⟩,
      ⟨(some 22), none, .id, [.slot 1], none⟩,
      ⟨(some 23), none, .bin .mul, [.val (.int .i64 2), .slot 22], none⟩,
      ⟨(some 24), none, .call f_num_Put, [.slot 21, .slot 23], none⟩,
      ⟨(some 4), none, .id, [.slot 24], none⟩])
    (.ret)))
def F_num_Signed : IFun := ⟨25, [.slot 4], b_num_Signed, 0, 0⟩
theorem c_num_Signed : cFun Try.prog [] 0 f_num_Signed = some F_num_Signed := by kernel_rfl

def b_hedgerowref02_Signed : ICode :=
 .seq
  (.region [
    ⟨(some 4), none, .id, [.val .nilsl], none⟩])
  (.seq
   (.seq
    (.region [
      ⟨(some 5), none, .id, [.slot 1], none⟩,
      ⟨(some 6), none, .bin .lss, [.slot 5, .val (.int .i64 (-1152921504606846976))], none⟩,
      ⟨(some 7), none, .id, [.slot 6], none⟩,
      ⟨(some 8), (some (7, false)), .id, [.slot 1], none⟩,
      ⟨(some 9), (some (7, false)), .bin .gtr, [.slot 8, .val (.int .i64 1152921504606846976)], none⟩,
      ⟨(some 10), none, .pick, [.slot 7, .val (.bool true), .slot 9], none⟩])
    (.cond (.slot 10)
     (.seq
      (.region [
        ⟨(some 11), none, .id, [.slot 0], none⟩,
        ⟨(some 4), none, .id, [.slot 11], none⟩])
      (.ret))
     (.skip)))
   (.seq
    (.seq
     (.region [
       ⟨(some 12), none, .id, [.slot 1], none⟩,
       ⟨(some 13), none, .bin .lss, [.slot 12, .val (.int .i64 0)], none⟩])
     (.cond (.slot 13)
      (.seq
       (.region [
         ⟨(some 14), none, .id, [.slot 0], none⟩,
         ⟨(some 15), none, .id, [.slot 1], none⟩,
         ⟨(some 16), none, .bin .mul, [.val (.int .i64 (-2)), .slot 15], none⟩,
         ⟨(some 17), none, .bin .sub, [.slot 16, .val (.int .i64 1)], none⟩,
         ⟨(some 18), none, .call f_hedgerowref02_Put, [.slot 14, .slot 17], none⟩,
         ⟨(some 4), none, .id, [.slot 18], none⟩])
       (.ret))
      (.skip)))
    (.seq
     (.region [
       ⟨(some 19), none, .id, [.slot 0], none⟩,
       ⟨(some 20), none, .id, [.slot 1], none⟩,
       ⟨(some 21), none, .bin .mul, [.val (.int .i64 2), .slot 20], none⟩,
       ⟨(some 22), none, .call f_hedgerowref02_Put, [.slot 19, .slot 21], none⟩,
       ⟨(some 4), none, .id, [.slot 22], none⟩])
     (.ret))))
def F_hedgerowref02_Signed : IFun := ⟨23, [.slot 4], b_hedgerowref02_Signed, 0, 0⟩
theorem c_hedgerowref02_Signed : cFun Try.prog [] 0 f_hedgerowref02_Signed = some F_hedgerowref02_Signed := by kernel_rfl

def b_num_Text : ICode :=
 .seq
  (.region [
    ⟨(some 4), none, .id, [.val .nilsl], none⟩])
  (.seq
   (.region [
     ⟨(some 5), none, .id, [.slot 0], none⟩,
     ⟨(some 6), none, .id, [.slot 1], none⟩,
     ⟨(some 7), none, .lenstr, [.slot 6], none⟩,
     ⟨(some 8), none, .call f_num_Put, [.slot 5, .slot 7], none⟩,
     ⟨(some 9), none, .id, [.slot 1], none⟩,
     ⟨(some 10), none, .appendS, [.slot 8, .slot 9], none⟩,
     ⟨(some 4), none, .id, [.slot 10], none⟩])
   (.ret))
def F_num_Text : IFun := ⟨11, [.slot 4], b_num_Text, 0, 0⟩
theorem c_num_Text : cFun Try.prog [] 0 f_num_Text = some F_num_Text := by kernel_rfl

def b_hedgerowref02_Text : ICode :=
 .seq
  (.region [
    ⟨(some 4), none, .id, [.val .nilsl], none⟩])
  (.seq
   (.region [
     ⟨(some 5), none, .id, [.slot 0], none⟩,
     ⟨(some 6), none, .id, [.slot 1], none⟩,
     ⟨(some 7), none, .lenstr, [.slot 6], none⟩,
     ⟨(some 8), none, .call f_hedgerowref02_Put, [.slot 5, .slot 7], none⟩,
     ⟨(some 9), none, .id, [.slot 1], none⟩,
     ⟨(some 10), none, .appendS, [.slot 8, .slot 9], none⟩,
     ⟨(some 4), none, .id, [.slot 10], none⟩])
   (.ret))
def F_hedgerowref02_Text : IFun := ⟨11, [.slot 4], b_hedgerowref02_Text, 0, 0⟩
theorem c_hedgerowref02_Text : cFun Try.prog [] 0 f_hedgerowref02_Text = some F_hedgerowref02_Text := by kernel_rfl

def b_num_Read : ICode :=
 .seq
  (.region [
    ⟨(some 2), none, .id, [.val .nilptr], none⟩])
  (.seq
   (.region [
     ⟨(some 3), none, .id, [.slot 0], none⟩,
     ⟨(some 4), none, .build [.nilsl, (.bool false)] [(0, 1)], [.slot 3], none⟩,
     ⟨(some 5), none, .boxH, [.slot 4], none⟩,
     ⟨(some 2), none, .id, [.slot 5], none⟩])
   (.ret))
def F_num_Read : IFun := ⟨6, [.slot 2], b_num_Read, 0, 0⟩
theorem c_num_Read : cFun Try.prog [5] 0 f_num_Read = some F_num_Read := by kernel_rfl

def b_num_Reader_Num : ICode :=
 .seq
  (.region [
    ⟨(some 4), none, .id, [.val (.int .i64 0)], none⟩])
  (.seq
   (.seq
    (.region [
      ⟨(some 7), none, .id, [.slot 0], none⟩,
      ⟨(some 8), none, .call f_num_Reader_Fail, [.slot 7], none⟩])
    (.cond (.slot 8)
     (.seq
      (.region [
        ⟨(some 4), none, .id, [.val (.int .i64 0)], none⟩])
      (.ret))
     (.skip)))
   (.seq
    (.region [
      ⟨(some 10), none, .id, [.slot 0], none⟩,
      ⟨(some 11), none, .nilchk, [.slot 10], none⟩,
      ⟨(some 12), none, .faddr 0, [.slot 11], none⟩,
      ⟨(some 13), none, .load 1 false, [.slot 12], none⟩,
      ⟨(some 14), none, .call f_num_take, [.slot 13], none⟩,
      ⟨(some 9), none, .id, [.slot 14], none⟩,
      ⟨(some 15), none, .extract 0, [.slot 9], none⟩,
      ⟨(some 16), none, .extract 1, [.slot 9], none⟩,
      ⟨(some 5), none, .id, [.slot 15], none⟩,
      ⟨(some 6), none, .id, [.slot 16], none⟩])
    (.seq
     (.seq
      (.region [
        ⟨(some 17), none, .id, [.slot 6], none⟩,
        ⟨(some 18), none, .bin .eql, [.slot 17, .val (.int .i64 0)], none⟩,
        ⟨(some 19), none, .id, [.slot 18], none⟩,
        ⟨(some 20), (some (19, false)), .id, [.slot 5], none⟩,
        ⟨(some 21), (some (19, false)), .id, [.slot 1], none⟩,
        ⟨(some 22), (some (19, false)), .bin .gtr, [.slot 20, .slot 21], none⟩,
        ⟨(some 23), none, .pick, [.slot 19, .val (.bool true), .slot 22], none⟩])
      (.cond (.slot 23)
       (.seq
        (.region [
          ⟨(some 24), none, .id, [.slot 0], none⟩,
          ⟨(some 25), none, .nilchk, [.slot 24], none⟩,
          ⟨(some 26), none, .faddr 1, [.slot 25], none⟩,
          ⟨none, none, .store 1, [.slot 26, .val (.bool true)], none⟩])
        (.seq
         (.region [
           ⟨(some 4), none, .id, [.val (.int .i64 0)], none⟩])
         (.ret)))
       (.skip)))
     (.seq
      (.region [
        ⟨(some 27), none, .id, [.slot 0], none⟩,
        ⟨(some 28), none, .id, [.slot 0], none⟩,
        ⟨(some 29), none, .nilchk, [.slot 28], none⟩,
        ⟨(some 30), none, .faddr 0, [.slot 29], none⟩,
        ⟨(some 31), none, .load 1 false, [.slot 30], none⟩,
        ⟨(some 32), none, .id, [.slot 6], none⟩,
        ⟨(some 33), none, .slsl 1 true false false, [.slot 31, .slot 32], none⟩,
        ⟨(some 34), none, .nilchk, [.slot 27], none⟩,
        ⟨(some 35), none, .faddr 0, [.slot 34], none⟩,
        ⟨none, none, .store 1, [.slot 35, .slot 33], none⟩])
      (.seq
       (.region [
         ⟨(some 36), none, .id, [.slot 5], none⟩,
         ⟨(some 4), none, .id, [.slot 36], none⟩])
       (.ret))))))
def F_num_Reader_Num : IFun := ⟨37, [.slot 4], b_num_Reader_Num, 0, 0⟩
theorem c_num_Reader_Num : cFun Try.prog [2097171] 0 f_num_Reader_Num = some F_num_Reader_Num := by kernel_rfl

def b_num_Reader_Signed : ICode :=
 .seq
  (.region [
    ⟨(some 2), none, .id, [.val (.int .i64 0)], none⟩])
  (.seq
   (.region [
     ⟨(some 4), none, .id, [.slot 0], none⟩,
     ⟨(some 5), none, .call f_num_Reader_Num, [.slot 4, .val (.int .i64 2305843009213693952)], none⟩,
     ⟨(some 3), none, .id, [.slot 5], none⟩])
   (.seq
    (.seq
     (.region [
       ⟨(some 6), none, .id, [.slot 3], none⟩,
       ⟨(some 7), none, .bin .and, [.slot 6, .val (.int .i64 1)], none⟩,
       ⟨(some 8), none, .bin .eql, [.slot 7, .val (.int .i64 1)], none⟩])
     (.cond (.slot 8)
      (.seq
       (.region [
         ⟨(some 9), none, .id, [.slot 3], none⟩,
         ⟨(some 10), none, .bin .quo, [.slot 9, .val (.int .i64 2)], none⟩,
         ⟨(some 11), none, .un .neg, [.slot 10], none⟩,
         ⟨(some 12), none, .bin .sub, [.slot 11, .val (.int .i64 1)], none⟩,
         ⟨(some 2), none, .id, [.slot 12], none⟩])
       (.ret))
      (.skip)))
    (.seq
     (.region [
       ⟨(some 13), none, .id, [.slot 3], none⟩,
       ⟨(some 14), none, .bin .quo, [.slot 13, .val (.int .i64 2)], none⟩,
       ⟨(some 2), none, .id, [.slot 14], none⟩])
     (.ret))))
def F_num_Reader_Signed : IFun := ⟨15, [.slot 2], b_num_Reader_Signed, 0, 0⟩
theorem c_num_Reader_Signed : cFun Try.prog [] 0 f_num_Reader_Signed = some F_num_Reader_Signed := by kernel_rfl

def b_num_Reader_Text : ICode :=
 .seq
  (.region [
    ⟨(some 4), none, .id, [.val (.str ⟨#[]⟩)], none⟩])
  (.seq
   (.region [
     ⟨(some 7), none, .id, [.slot 0], none⟩,
     ⟨(some 8), none, .id, [.slot 1], none⟩,
     ⟨(some 9), none, .call f_num_Reader_Num, [.slot 7, .slot 8], none⟩,
     ⟨(some 5), none, .id, [.slot 9], none⟩])
   (.seq
    (.seq
     (.region [
       ⟨(some 10), none, .id, [.slot 0], none⟩,
       ⟨(some 11), none, .call f_num_Reader_Fail, [.slot 10], none⟩])
     (.cond (.slot 11)
      (.seq
       (.region [
         ⟨(some 4), none, .id, [.val (.str ⟨#[]⟩)], none⟩])
       (.ret))
      (.skip)))
    (.seq
     (.seq
      (.region [
        ⟨(some 12), none, .id, [.slot 5], none⟩,
        ⟨(some 13), none, .id, [.slot 0], none⟩,
        ⟨(some 14), none, .nilchk, [.slot 13], none⟩,
        ⟨(some 15), none, .faddr 0, [.slot 14], none⟩,
        ⟨(some 16), none, .load 1 false, [.slot 15], none⟩,
        ⟨(some 17), none, .lensl, [.slot 16], none⟩,
        ⟨(some 18), none, .bin .gtr, [.slot 12, .slot 17], none⟩])
      (.cond (.slot 18)
       (.seq
        (.region [
          ⟨(some 19), none, .id, [.slot 0], none⟩,
          ⟨(some 20), none, .nilchk, [.slot 19], none⟩,
          ⟨(some 21), none, .faddr 1, [.slot 20], none⟩,
          ⟨none, none, .store 1, [.slot 21, .val (.bool true)], none⟩])
        (.seq
         (.region [
           ⟨(some 4), none, .id, [.val (.str ⟨#[]⟩)], none⟩])
         (.ret)))
       (.skip)))
     (.seq
      (.region [
        ⟨(some 22), none, .id, [.slot 0], none⟩,
        ⟨(some 23), none, .nilchk, [.slot 22], none⟩,
        ⟨(some 24), none, .faddr 0, [.slot 23], none⟩,
        ⟨(some 25), none, .load 1 false, [.slot 24], none⟩,
        ⟨(some 26), none, .id, [.slot 5], none⟩,
        ⟨(some 27), none, .slsl 1 false true false, [.slot 25, .slot 26], none⟩,
        ⟨(some 28), none, .b2s, [.slot 27], none⟩,
        ⟨(some 6), none, .id, [.slot 28], none⟩])
      (.seq
       (.region [
         ⟨(some 29), none, .id, [.slot 0], none⟩,
         ⟨(some 30), none, .id, [.slot 0], none⟩,
         ⟨(some 31), none, .nilchk, [.slot 30], none⟩,
         ⟨(some 32), none, .faddr 0, [.slot 31], none⟩,
         ⟨(some 33), none, .load 1 false, [.slot 32], none⟩,
         ⟨(some 34), none, .id, [.slot 5], none⟩,
         ⟨(some 35), none, .slsl 1 true false false, [.slot 33, .slot 34], none⟩,
         ⟨(some 36), none, .nilchk, [.slot 29], none⟩,
         ⟨(some 37), none, .faddr 0, [.slot 36], none⟩,
         ⟨none, none, .store 1, [.slot 37, .slot 35], none⟩])
       (.seq
        (.region [
          ⟨(some 38), none, .id, [.slot 6], none⟩,
          ⟨(some 4), none, .id, [.slot 38], none⟩])
        (.ret)))))))
def F_num_Reader_Text : IFun := ⟨39, [.slot 4], b_num_Reader_Text, 0, 0⟩
theorem c_num_Reader_Text : cFun Try.prog [2097171] 0 f_num_Reader_Text = some F_num_Reader_Text := by kernel_rfl

def b_num_Reader_Done : ICode :=
 .seq
  (.region [
    ⟨(some 2), none, .id, [.val (.bool false)], none⟩])
  (.seq
   (.region [
     ⟨(some 3), none, .id, [.slot 0], none⟩,
     ⟨(some 4), none, .call f_num_Reader_Fail, [.slot 3], none⟩,
     ⟨(some 5), none, .un .not, [.slot 4], none⟩,
     ⟨(some 6), none, .id, [.slot 5], none⟩,
     ⟨(some 7), (some (6, true)), .id, [.slot 0], none⟩,
     ⟨(some 8), (some (6, true)), .nilchk, [.slot 7], none⟩,
     ⟨(some 9), (some (6, true)), .faddr 0, [.slot 8], none⟩,
     ⟨(some 10), (some (6, true)), .load 1 false, [.slot 9], none⟩,
     ⟨(some 11), (some (6, true)), .lensl, [.slot 10], none⟩,
     ⟨(some 12), (some (6, true)), .bin .eql, [.slot 11, .val (.int .i64 0)], none⟩,
     ⟨(some 13), none, .pick, [.slot 6, .slot 12, .val (.bool false)], none⟩,
     ⟨(some 2), none, .id, [.slot 13], none⟩])
   (.ret))
def F_num_Reader_Done : IFun := ⟨14, [.slot 2], b_num_Reader_Done, 0, 1⟩
theorem c_num_Reader_Done : cFun Try.prog [2097171] 1 f_num_Reader_Done = some F_num_Reader_Done := by kernel_rfl

def b_num_Reader_Fail : ICode :=
 .seq
  (.region [
    ⟨(some 2), none, .id, [.val (.bool false)], none⟩])
  (.seq
   (.region [
     ⟨(some 3), none, .id, [.slot 0], none⟩,
     ⟨(some 4), none, .eq1 false .ptr, [.slot 3, .val .nilptr], none⟩,
     ⟨(some 5), none, .id, [.slot 4], none⟩,
     ⟨(some 6), (some (5, false)), .id, [.slot 0], none⟩,
     ⟨(some 7), (some (5, false)), .nilchk, [.slot 6], none⟩,
     ⟨(some 8), (some (5, false)), .faddr 1, [.slot 7], none⟩,
     ⟨(some 9), (some (5, false)), .load 1 false, [.slot 8], none⟩,
     ⟨(some 10), none, .pick, [.slot 5, .val (.bool true), .slot 9], none⟩,
     ⟨(some 2), none, .id, [.slot 10], none⟩])
   (.ret))
def F_num_Reader_Fail : IFun := ⟨11, [.slot 2], b_num_Reader_Fail, 0, 1⟩
theorem c_num_Reader_Fail : cFun Try.prog [] 1 f_num_Reader_Fail = some F_num_Reader_Fail := by kernel_rfl

def b_hedgerowref02_Reader_Num : ICode :=
 .seq
  (.region [
    ⟨(some 4), none, .id, [.val (.int .i64 0)], none⟩])
  (.seq
   (.region [
     ⟨(some 8), none, .id, [.slot 0], none⟩,
     ⟨(some 9), none, .nilchk, [.slot 8], none⟩,
     ⟨(some 10), none, .faddr 0, [.slot 9], none⟩,
     ⟨(some 11), none, .load 1 false, [.slot 10], none⟩,
     ⟨(some 12), none, .call f_hedgerowref02_Take, [.slot 11], none⟩,
     ⟨(some 7), none, .id, [.slot 12], none⟩,
     ⟨(some 13), none, .extract 0, [.slot 7], none⟩,
     ⟨(some 14), none, .extract 1, [.slot 7], none⟩,
     ⟨(some 5), none, .id, [.slot 13], none⟩,
     ⟨(some 6), none, .id, [.slot 14], none⟩])
   (.seq
    (.seq
     (.region [
       ⟨(some 15), none, .id, [.slot 0], none⟩,
       ⟨(some 16), none, .nilchk, [.slot 15], none⟩,
       ⟨(some 17), none, .faddr 1, [.slot 16], none⟩,
       ⟨(some 18), none, .load 1 false, [.slot 17], none⟩,
       ⟨(some 19), none, .id, [.slot 18], none⟩,
       ⟨(some 20), (some (19, false)), .id, [.slot 6], none⟩,
       ⟨(some 21), (some (19, false)), .bin .eql, [.slot 20, .val (.int .i64 0)], none⟩,
       ⟨(some 22), none, .pick, [.slot 19, .val (.bool true), .slot 21], none⟩,
       ⟨(some 23), none, .id, [.slot 22], none⟩,
       ⟨(some 24), (some (23, false)), .id, [.slot 5], none⟩,
       ⟨(some 25), (some (23, false)), .id, [.slot 1], none⟩,
       ⟨(some 26), (some (23, false)), .bin .gtr, [.slot 24, .slot 25], none⟩,
       ⟨(some 27), none, .pick, [.slot 23, .val (.bool true), .slot 26], none⟩])
     (.cond (.slot 27)
      (.seq
       (.region [
         ⟨(some 28), none, .id, [.slot 0], none⟩,
         ⟨(some 29), none, .nilchk, [.slot 28], none⟩,
         ⟨(some 30), none, .faddr 1, [.slot 29], none⟩,
         ⟨none, none, .store 1, [.slot 30, .val (.bool true)], none⟩])
       (.seq
        (.region [
          ⟨(some 4), none, .id, [.val (.int .i64 0)], none⟩])
        (.ret)))
      (.skip)))
    (.seq
     (.region [
       ⟨(some 31), none, .id, [.slot 0], none⟩,
       ⟨(some 32), none, .id, [.slot 0], none⟩,
       ⟨(some 33), none, .nilchk, [.slot 32], none⟩,
       ⟨(some 34), none, .faddr 0, [.slot 33], none⟩,
       ⟨(some 35), none, .load 1 false, [.slot 34], none⟩,
       ⟨(some 36), none, .id, [.slot 6], none⟩,
       ⟨(some 37), none, .slsl 1 true false false, [.slot 35, .slot 36], none⟩,
       ⟨(some 38), none, .nilchk, [.slot 31], none⟩,
       ⟨(some 39), none, .faddr 0, [.slot 38], none⟩,
       ⟨none, none, .store 1, [.slot 39, .slot 37], none⟩])
     (.seq
      (.region [
        ⟨(some 40), none, .id, [.slot 5], none⟩,
        ⟨(some 4), none, .id, [.slot 40], none⟩])
      (.ret)))))
def F_hedgerowref02_Reader_Num : IFun := ⟨41, [.slot 4], b_hedgerowref02_Reader_Num, 0, 0⟩
theorem c_hedgerowref02_Reader_Num : cFun Try.prog [] 0 f_hedgerowref02_Reader_Num = some F_hedgerowref02_Reader_Num := by kernel_rfl

def b_hedgerowref02_Reader_Signed : ICode :=
 .seq
  (.region [
    ⟨(some 2), none, .id, [.val (.int .i64 0)], none⟩])
  (.seq
   (.region [
     ⟨(some 4), none, .id, [.slot 0], none⟩,
     ⟨(some 5), none, .call f_hedgerowref02_Reader_Num, [.slot 4, .val (.int .i64 2305843009213693952)], none⟩,
     ⟨(some 3), none, .id, [.slot 5], none⟩])
   (.seq
    (.seq
     (.region [
       ⟨(some 6), none, .id, [.slot 3], none⟩,
       ⟨(some 7), none, .bin .rem, [.slot 6, .val (.int .i64 2)], none⟩,
       ⟨(some 8), none, .bin .eql, [.slot 7, .val (.int .i64 1)], none⟩])
     (.cond (.slot 8)
      (.seq
       (.region [
         ⟨(some 9), none, .id, [.slot 3], none⟩,
         ⟨(some 10), none, .bin .quo, [.slot 9, .val (.int .i64 2)], none⟩,
         ⟨(some 11), none, .un .neg, [.slot 10], none⟩,
         ⟨(some 12), none, .bin .sub, [.slot 11, .val (.int .i64 1)], none⟩,
         ⟨(some 2), none, .id, [.slot 12], none⟩])
       (.ret))
      (.skip)))
    (.seq
     (.region [
       ⟨(some 13), none, .id, [.slot 3], none⟩,
       ⟨(some 14), none, .bin .quo, [.slot 13, .val (.int .i64 2)], none⟩,
       ⟨(some 2), none, .id, [.slot 14], none⟩])
     (.ret))))
def F_hedgerowref02_Reader_Signed : IFun := ⟨15, [.slot 2], b_hedgerowref02_Reader_Signed, 0, 0⟩
theorem c_hedgerowref02_Reader_Signed : cFun Try.prog [] 0 f_hedgerowref02_Reader_Signed = some F_hedgerowref02_Reader_Signed := by kernel_rfl

def b_hedgerowref02_Reader_Text : ICode :=
 .seq
  (.region [
    ⟨(some 4), none, .id, [.val (.str ⟨#[]⟩)], none⟩])
  (.seq
   (.region [
     ⟨(some 7), none, .id, [.slot 0], none⟩,
     ⟨(some 8), none, .id, [.slot 1], none⟩,
     ⟨(some 9), none, .call f_hedgerowref02_Reader_Num, [.slot 7, .slot 8], none⟩,
     ⟨(some 5), none, .id, [.slot 9], none⟩])
   (.seq
    (.seq
     (.region [
       ⟨(some 10), none, .id, [.slot 0], none⟩,
       ⟨(some 11), none, .nilchk, [.slot 10], none⟩,
       ⟨(some 12), none, .faddr 1, [.slot 11], none⟩,
       ⟨(some 13), none, .load 1 false, [.slot 12], none⟩,
       ⟨(some 14), none, .id, [.slot 13], none⟩,
       ⟨(some 15), (some (14, false)), .id, [.slot 5], none⟩,
       ⟨(some 16), (some (14, false)), .id, [.slot 0], none⟩,
       ⟨(some 17), (some (14, false)), .nilchk, [.slot 16], none⟩,
       ⟨(some 18), (some (14, false)), .faddr 0, [.slot 17], none⟩,
       ⟨(some 19), (some (14, false)), .load 1 false, [.slot 18], none⟩,
       ⟨(some 20), (some (14, false)), .lensl, [.slot 19], none⟩,
       ⟨(some 21), (some (14, false)), .bin .gtr, [.slot 15, .slot 20], none⟩,
       ⟨(some 22), none, .pick, [.slot 14, .val (.bool true), .slot 21], none⟩])
     (.cond (.slot 22)
      (.seq
       (.region [
         ⟨(some 23), none, .id, [.slot 0], none⟩,
         ⟨(some 24), none, .nilchk, [.slot 23], none⟩,
         ⟨(some 25), none, .faddr 1, [.slot 24], none⟩,
         ⟨none, none, .store 1, [.slot 25, .val (.bool true)], none⟩])
       (.seq
        (.region [
          ⟨(some 4), none, .id, [.val (.str ⟨#[]⟩)], none⟩])
        (.ret)))
      (.skip)))
    (.seq
     (.region [
       ⟨(some 26), none, .id, [.slot 0], none⟩,
       ⟨(some 27), none, .nilchk, [.slot 26], none⟩,
       ⟨(some 28), none, .faddr 0, [.slot 27], none⟩,
       ⟨(some 29), none, .load 1 false, [.slot 28], none⟩,
       ⟨(some 30), none, .id, [.slot 5], none⟩,
       ⟨(some 31), none, .slsl 1 false true false, [.slot 29, .slot 30], none⟩,
       ⟨(some 32), none, .b2s, [.slot 31], none⟩,
       ⟨(some 6), none, .id, [.slot 32], none⟩])
     (.seq
      (.region [
        ⟨(some 33), none, .id, [.slot 0], none⟩,
        ⟨(some 34), none, .id, [.slot 0], none⟩,
        ⟨(some 35), none, .nilchk, [.slot 34], none⟩,
        ⟨(some 36), none, .faddr 0, [.slot 35], none⟩,
        ⟨(some 37), none, .load 1 false, [.slot 36], none⟩,
        ⟨(some 38), none, .id, [.slot 5], none⟩,
        ⟨(some 39), none, .slsl 1 true false false, [.slot 37, .slot 38], none⟩,
        ⟨(some 40), none, .nilchk, [.slot 33], none⟩,
        ⟨(some 41), none, .faddr 0, [.slot 40], none⟩,
        ⟨none, none, .store 1, [.slot 41, .slot 39], none⟩])
      (.seq
       (.region [
         ⟨(some 42), none, .id, [.slot 6], none⟩,
         ⟨(some 4), none, .id, [.slot 42], none⟩])
       (.ret))))))
def F_hedgerowref02_Reader_Text : IFun := ⟨43, [.slot 4], b_hedgerowref02_Reader_Text, 0, 0⟩
theorem c_hedgerowref02_Reader_Text : cFun Try.prog [] 0 f_hedgerowref02_Reader_Text = some F_hedgerowref02_Reader_Text := by kernel_rfl

def b_num_Reader_Left : ICode :=
 .seq
  (.region [
    ⟨(some 2), none, .id, [.val (.int .i64 0)], none⟩])
  (.seq
   (.seq
    (.region [
      ⟨(some 3), none, .id, [.slot 0], none⟩,
      ⟨(some 4), none, .call f_num_Reader_Fail, [.slot 3], none⟩])
    (.cond (.slot 4)
     (.seq
      (.region [
        ⟨(some 2), none, .id, [.val (.int .i64 0)], none⟩])
      (.ret))
     (.skip)))
   (.seq
    (.region [
      ⟨(some 5), none, .id, [.slot 0], none⟩,
      ⟨(some 6), none, .nilchk, [.slot 5], none⟩,
      ⟨(some 7), none, .faddr 0, [.slot 6], none⟩,
      ⟨(some 8), none, .load 1 false, [.slot 7], none⟩,
      ⟨(some 9), none, .lensl, [.slot 8], none⟩,
      ⟨(some 2), none, .id, [.slot 9], none⟩])
    (.ret)))
def F_num_Reader_Left : IFun := ⟨10, [.slot 2], b_num_Reader_Left, 0, 1⟩
theorem c_num_Reader_Left : cFun Try.prog [2097171] 1 f_num_Reader_Left = some F_num_Reader_Left := by kernel_rfl

def b_hedgerowref02_Reader_Left : ICode :=
 .seq
  (.region [
    ⟨(some 2), none, .id, [.val (.int .i64 0)], none⟩])
  (.seq
   (.seq
    (.region [
      ⟨(some 3), none, .id, [.slot 0], none⟩,
      ⟨(some 4), none, .nilchk, [.slot 3], none⟩,
      ⟨(some 5), none, .faddr 1, [.slot 4], none⟩,
      ⟨(some 6), none, .load 1 false, [.slot 5], none⟩])
    (.cond (.slot 6)
     (.seq
      (.region [
        ⟨(some 2), none, .id, [.val (.int .i64 0)], none⟩])
      (.ret))
     (.skip)))
   (.seq
    (.region [
      ⟨(some 7), none, .id, [.slot 0], none⟩,
      ⟨(some 8), none, .nilchk, [.slot 7], none⟩,
      ⟨(some 9), none, .faddr 0, [.slot 8], none⟩,
      ⟨(some 10), none, .load 1 false, [.slot 9], none⟩,
      ⟨(some 11), none, .lensl, [.slot 10], none⟩,
      ⟨(some 2), none, .id, [.slot 11], none⟩])
    (.ret)))
def F_hedgerowref02_Reader_Left : IFun := ⟨12, [.slot 2], b_hedgerowref02_Reader_Left, 0, 1⟩
theorem c_hedgerowref02_Reader_Left : cFun Try.prog [] 1 f_hedgerowref02_Reader_Left = some F_hedgerowref02_Reader_Left := by kernel_rfl

def L0_num_take : ICode :=
 .seq
  (.region [
    ⟨(some 14), none, .bin .lss, [.slot 13, .slot 12], none⟩])
  (.seq
   (.cond (.slot 14)
    (.skip)
    (.exit 0))
   (.seq
    (.block 1
     (.seq
      (.region [
        ⟨(some 15), none, .id, [.slot 13], none⟩,
        ⟨(some 16), none, .ixaddr 1, [.slot 11, .slot 13], none⟩,
        ⟨(some 17), none, .load 1 false, [.slot 16], none⟩,
        ⟨(some 5), none, .id, [.slot 15], none⟩,
        ⟨(some 6), none, .id, [.slot 17], none⟩])
      (.seq
       (.region [
         ⟨(some 18), none, .id, [.slot 4], none⟩,
         ⟨(some 19), none, .id, [.slot 6], none⟩,
         ⟨(some 20), none, .bin .and, [.slot 19, .val (.int .u8 127)], none⟩,
         ⟨(some 21), none, .conv .u64, [.slot 20], none⟩,
         ⟨(some 22), none, .id, [.slot 5], none⟩,
         ⟨(some 23), none, .bin .mul, [.val (.int .i64 7), .slot 22], none⟩,
         ⟨(some 24), none, .conv .u64, [.slot 23], none⟩,
         ⟨(some 25), none, .bin .shl, [.slot 21, .slot 24], none⟩,
         ⟨(some 26), none, .bin .or, [.slot 18, .slot 25], none⟩,
         ⟨(some 4), none, .id, [.slot 26], none⟩])
       (.seq
        (.region [
          ⟨(some 27), none, .id, [.slot 6], none⟩,
          ⟨(some 28), none, .bin .lss, [.slot 27, .val (.int .u8 128)], none⟩])
        (.cond (.slot 28)
         (.seq
          (.seq
           (.region [
             ⟨(some 29), none, .id, [.slot 6], none⟩,
             ⟨(some 30), none, .bin .eql, [.slot 29, .val (.int .u8 0)], none⟩,
             ⟨(some 31), none, .id, [.slot 30], none⟩,
             ⟨(some 32), (some (31, true)), .id, [.slot 5], none⟩,
             ⟨(some 33), (some (31, true)), .bin .gtr, [.slot 32, .val (.int .i64 0)], none⟩,
             ⟨(some 34), none, .pick, [.slot 31, .slot 33, .val (.bool false)], none⟩,
             ⟨(some 35), none, .id, [.slot 34], none⟩,
             ⟨(some 36), (some (35, false)), .id, [.slot 4], none⟩,
             ⟨(some 37), (some (35, false)), .bin .gtr, [.slot 36, .val (.int .u64 4611686018427387903)], none⟩,
             ⟨(some 38), none, .pick, [.slot 35, .val (.bool true), .slot 37], none⟩])
           (.cond (.slot 38)
            (.seq
             (.region [
               ⟨(some 2), none, .id, [.val (.int .i64 0)], none⟩,
               ⟨(some 3), none, .id, [.val (.int .i64 0)], none⟩])
             (.ret))
            (.skip)))
          (.seq
           (.region [
             ⟨(some 39), none, .id, [.slot 4], none⟩,
             ⟨(some 40), none, .conv .i64, [.slot 39], none⟩,
             ⟨(some 41), none, .id, [.slot 5], none⟩,
             ⟨(some 42), none, .bin .add, [.slot 41, .val (.int .i64 1)], none⟩,
             ⟨(some 2), none, .id, [.slot 40], none⟩,
             ⟨(some 3), none, .id, [.slot 42], none⟩])
           (.ret)))
         (.skip))))))
    (.region [
      ⟨(some 43), none, .bin .add, [.slot 13, .val (.int .i64 1)], none⟩,
      ⟨(some 13), none, .id, [.slot 43], none⟩])))
def b_num_take : ICode :=
 .seq
  (.region [
    ⟨(some 2), none, .id, [.val (.int .i64 0)], none⟩,
    ⟨(some 3), none, .id, [.val (.int .i64 0)], none⟩])
  (.seq
   (.region [
     ⟨(some 4), none, .id, [.val (.int .u64 0)], none⟩])
   (.seq
    (.seq
     (.region [
       ⟨(some 7), none, .id, [.slot 0], none⟩,
       ⟨(some 8), none, .id, [.slot 0], none⟩,
       ⟨(some 9), none, .lensl, [.slot 8], none⟩,
       ⟨(some 10), none, .minmax false, [.slot 9, .val (.int .i64 9)], none⟩,
       ⟨(some 11), none, .slsl 1 false true false, [.slot 7, .slot 10], none⟩,
       ⟨(some 12), none, .lensl, [.slot 11], none⟩,
       ⟨(some 13), none, .id, [.val (.int .i64 0)], none⟩])
     (.block 0
      (.loop L0_num_take)))
    (.seq
     (.region [
       ⟨(some 2), none, .id, [.val (.int .i64 0)], none⟩,
       ⟨(some 3), none, .id, [.val (.int .i64 0)], none⟩])
     (.ret))))
def F_num_take : IFun := ⟨44, [.slot 2, .slot 3], b_num_take, 0, 0⟩
theorem c_num_take : cFun Try.prog [] 0 f_num_take = some F_num_take := by kernel_rfl

def L0_hedgerowref02_Take : ICode :=
 .seq
  (.seq
   (.region [
     ⟨(some 7), none, .id, [.slot 6], none⟩,
     ⟨(some 8), none, .id, [.slot 0], none⟩,
     ⟨(some 9), none, .lensl, [.slot 8], none⟩,
     ⟨(some 10), none, .bin .lss, [.slot 7, .slot 9], none⟩,
     ⟨(some 11), none, .id, [.slot 10], none⟩,
     ⟨(some 12), (some (11, true)), .id, [.slot 6], none⟩,
     ⟨(some 13), (some (11, true)), .bin .lss, [.slot 12, .val (.int .i64 9)], none⟩,
     ⟨(some 14), none, .pick, [.slot 11, .slot 13, .val (.bool false)], none⟩])
   (.cond (.slot 14)
    (.skip)
    (.exit 0)))
  (.seq
   (.block 1
    (.seq
     (.seq
      (.region [
        ⟨(some 17), none, .id, [.slot 6], none⟩,
        ⟨(some 18), none, .bin .eql, [.slot 17, .val (.int .i64 8)], none⟩,
        ⟨(some 19), none, .id, [.slot 18], none⟩,
        ⟨(some 20), (some (19, true)), .id, [.slot 0], none⟩,
        ⟨(some 21), (some (19, true)), .id, [.slot 6], none⟩,
        ⟨(some 22), (some (19, true)), .ixaddr 1, [.slot 20, .slot 21], none⟩,
        ⟨(some 23), (some (19, true)), .load 1 false, [.slot 22], none⟩,
        ⟨(some 24), (some (19, true)), .bin .geq, [.slot 23, .val (.int .u8 64)], none⟩,
        ⟨(some 25), none, .pick, [.slot 19, .slot 24, .val (.bool false)], none⟩])
      (.cond (.slot 25)
       (.seq
        (.region [
          ⟨(some 2), none, .id, [.val (.int .i64 0)], none⟩,
          ⟨(some 3), none, .id, [.val (.int .i64 0)], none⟩])
        (.ret))
       (.skip)))
     (.seq
      (.region [
        ⟨(some 26), none, .id, [.slot 4], none⟩,
        ⟨(some 27), none, .id, [.slot 0], none⟩,
        ⟨(some 28), none, .id, [.slot 6], none⟩,
        ⟨(some 29), none, .ixaddr 1, [.slot 27, .slot 28], none⟩,
        ⟨(some 30), none, .load 1 false, [.slot 29], none⟩,
        ⟨(some 31), none, .bin .rem, [.slot 30, .val (.int .u8 128)], none⟩,
        ⟨(some 32), none, .conv .i64, [.slot 31], none⟩,
        ⟨(some 33), none, .id, [.slot 5], none⟩,
        ⟨(some 34), none, .bin .mul, [.slot 32, .slot 33], none⟩,
        ⟨(some 35), none, .bin .add, [.slot 26, .slot 34], none⟩,
        ⟨(some 4), none, .id, [.slot 35], none⟩])
      (.seq
       (.seq
        (.region [
          ⟨(some 36), none, .id, [.slot 0], none⟩,
          ⟨(some 37), none, .id, [.slot 6], none⟩,
          ⟨(some 38), none, .ixaddr 1, [.slot 36, .slot 37], none⟩,
          ⟨(some 39), none, .load 1 false, [.slot 38], none⟩,
          ⟨(some 40), none, .bin .lss, [.slot 39, .val (.int .u8 128)], none⟩])
        (.cond (.slot 40)
         (.seq
          (.seq
           (.region [
             ⟨(some 41), none, .id, [.slot 4], none⟩,
             ⟨(some 42), none, .call f_hedgerowref02_Put, [.val .nilsl, .slot 41], none⟩,
             ⟨(some 43), none, .b2s, [.slot 42], none⟩,
             ⟨(some 44), none, .id, [.slot 0], none⟩,
             ⟨(some 45), none, .id, [.slot 6], none⟩,
             ⟨(some 46), none, .bin .add, [.slot 45, .val (.int .i64 1)], none⟩,
             ⟨(some 47), none, .slsl 1 false true false, [.slot 44, .slot 46], none⟩,
             ⟨(some 48), none, .b2s, [.slot 47], none⟩,
             ⟨(some 49), none, .bin .eql, [.slot 43, .slot 48], none⟩])
           (.cond (.slot 49)
            (.seq
             (.region [
               ⟨(some 50), none, .id, [.slot 4], none⟩,
               ⟨(some 51), none, .id, [.slot 6], none⟩,
               ⟨(some 52), none, .bin .add, [.slot 51, .val (.int .i64 1)], none⟩,
               ⟨(some 2), none, .id, [.slot 50], none⟩,
               ⟨(some 3), none, .id, [.slot 52], none⟩])
             (.ret))
            (.skip)))
          (.seq
           (.region [
             ⟨(some 2), none, .id, [.val (.int .i64 0)], none⟩,
             ⟨(some 3), none, .id, [.val (.int .i64 0)], none⟩])
           (.ret)))
         (.skip)))
       (.region [
         ⟨(some 53), none, .id, [.slot 5], none⟩,
         ⟨(some 54), none, .bin .mul, [.slot 53, .val (.int .i64 128)], none⟩,
         ⟨(some 5), none, .id, [.slot 54], none⟩])))))
   (.region [
     ⟨(some 15), none, .id, [.slot 6], none⟩,
     ⟨(some 16), none, .bin .add, [.slot 15, .val (.int .i64 1)], none⟩,
     ⟨(some 6), none, .id, [.slot 16], none⟩]))
def b_hedgerowref02_Take : ICode :=
 .seq
  (.region [
    ⟨(some 2), none, .id, [.val (.int .i64 0)], none⟩,
    ⟨(some 3), none, .id, [.val (.int .i64 0)], none⟩])
  (.seq
   (.region [
     ⟨(some 4), none, .id, [.val (.int .i64 0)], none⟩,
     ⟨(some 5), none, .id, [.val (.int .i64 1)], none⟩])
   (.seq
    (.seq
     (.region [
       ⟨(some 6), none, .id, [.val (.int .i64 0)], none⟩])
     (.block 0
      (.loop L0_hedgerowref02_Take)))
    (.seq
     (.region [
       ⟨(some 2), none, .id, [.val (.int .i64 0)], none⟩,
       ⟨(some 3), none, .id, [.val (.int .i64 0)], none⟩])
     (.ret))))
def F_hedgerowref02_Take : IFun := ⟨55, [.slot 2, .slot 3], b_hedgerowref02_Take, 0, 0⟩
theorem c_hedgerowref02_Take : cFun Try.prog [] 0 f_hedgerowref02_Take = some F_hedgerowref02_Take := by kernel_rfl

def rows : List (Nat × List Nat × IFun) := [
  (2, [], F_gosem_cut_init),
  (3, [2097159, 2097170], F_hedgerowlaw02_NumPuts),
  (4, [2097159], F_hedgerowlaw02_NumSizes),
  (5, [2097159, 2097171, 2097170], F_hedgerowlaw02_NumRows),
  (6, [24, 1048584, 2097159, 2097175, 2097176, 2097171, 2097170], F_hedgerowlaw02_NumReads),
  (7, [2097170, 2097171], F_hedgerowlaw02_fixed),
  (8, [], F_num_Put),
  (9, [], F_hedgerowref02_Put),
  (10, [], F_num_Signed),
  (11, [], F_hedgerowref02_Signed),
  (12, [], F_num_Text),
  (13, [], F_hedgerowref02_Text),
  (14, [5], F_num_Read),
  (15, [2097171], F_num_Reader_Num),
  (16, [], F_num_Reader_Signed),
  (17, [2097171], F_num_Reader_Text),
  (18, [2097171], F_num_Reader_Done),
  (19, [], F_num_Reader_Fail),
  (20, [], F_hedgerowref02_Reader_Num),
  (21, [], F_hedgerowref02_Reader_Signed),
  (22, [], F_hedgerowref02_Reader_Text),
  (23, [2097171], F_num_Reader_Left),
  (24, [], F_hedgerowref02_Reader_Left),
  (25, [], F_num_take),
  (26, [], F_hedgerowref02_Take)]
def T : Nat → Option IFun := tableOf rows
theorem T_rows : RowsOk Try.prog rows :=
  .cons c_gosem_cut_init <|
  .cons c_hedgerowlaw02_NumPuts <|
  .cons c_hedgerowlaw02_NumSizes <|
  .cons c_hedgerowlaw02_NumRows <|
  .cons c_hedgerowlaw02_NumReads <|
  .cons c_hedgerowlaw02_fixed <|
  .cons c_num_Put <|
  .cons c_hedgerowref02_Put <|
  .cons c_num_Signed <|
  .cons c_hedgerowref02_Signed <|
  .cons c_num_Text <|
  .cons c_hedgerowref02_Text <|
  .cons c_num_Read <|
  .cons c_num_Reader_Num <|
  .cons c_num_Reader_Signed <|
  .cons c_num_Reader_Text <|
  .cons c_num_Reader_Done <|
  .cons c_num_Reader_Fail <|
  .cons c_hedgerowref02_Reader_Num <|
  .cons c_hedgerowref02_Reader_Signed <|
  .cons c_hedgerowref02_Reader_Text <|
  .cons c_num_Reader_Left <|
  .cons c_hedgerowref02_Reader_Left <|
  .cons c_num_take <|
  .cons c_hedgerowref02_Take <|
  .nil
theorem T_ok : TableOk Try.prog T := tableOf_ok (by kernel_rfl) T_rows.all
theorem T_gosem_cut_init : T f_gosem_cut_init = some F_gosem_cut_init := by kernel_rfl
theorem T_hedgerowlaw02_NumPuts : T f_hedgerowlaw02_NumPuts = some F_hedgerowlaw02_NumPuts := by kernel_rfl
theorem T_hedgerowlaw02_NumSizes : T f_hedgerowlaw02_NumSizes = some F_hedgerowlaw02_NumSizes := by kernel_rfl
theorem T_hedgerowlaw02_NumRows : T f_hedgerowlaw02_NumRows = some F_hedgerowlaw02_NumRows := by kernel_rfl
theorem T_hedgerowlaw02_NumReads : T f_hedgerowlaw02_NumReads = some F_hedgerowlaw02_NumReads := by kernel_rfl
theorem T_hedgerowlaw02_fixed : T f_hedgerowlaw02_fixed = some F_hedgerowlaw02_fixed := by kernel_rfl
theorem T_num_Put : T f_num_Put = some F_num_Put := by kernel_rfl
theorem T_hedgerowref02_Put : T f_hedgerowref02_Put = some F_hedgerowref02_Put := by kernel_rfl
theorem T_num_Signed : T f_num_Signed = some F_num_Signed := by kernel_rfl
theorem T_hedgerowref02_Signed : T f_hedgerowref02_Signed = some F_hedgerowref02_Signed := by kernel_rfl
theorem T_num_Text : T f_num_Text = some F_num_Text := by kernel_rfl
theorem T_hedgerowref02_Text : T f_hedgerowref02_Text = some F_hedgerowref02_Text := by kernel_rfl
theorem T_num_Read : T f_num_Read = some F_num_Read := by kernel_rfl
theorem T_num_Reader_Num : T f_num_Reader_Num = some F_num_Reader_Num := by kernel_rfl
theorem T_num_Reader_Signed : T f_num_Reader_Signed = some F_num_Reader_Signed := by kernel_rfl
theorem T_num_Reader_Text : T f_num_Reader_Text = some F_num_Reader_Text := by kernel_rfl
theorem T_num_Reader_Done : T f_num_Reader_Done = some F_num_Reader_Done := by kernel_rfl
theorem T_num_Reader_Fail : T f_num_Reader_Fail = some F_num_Reader_Fail := by kernel_rfl
theorem T_hedgerowref02_Reader_Num : T f_hedgerowref02_Reader_Num = some F_hedgerowref02_Reader_Num := by kernel_rfl
theorem T_hedgerowref02_Reader_Signed : T f_hedgerowref02_Reader_Signed = some F_hedgerowref02_Reader_Signed := by kernel_rfl
theorem T_hedgerowref02_Reader_Text : T f_hedgerowref02_Reader_Text = some F_hedgerowref02_Reader_Text := by kernel_rfl
theorem T_num_Reader_Left : T f_num_Reader_Left = some F_num_Reader_Left := by kernel_rfl
theorem T_hedgerowref02_Reader_Left : T f_hedgerowref02_Reader_Left = some F_hedgerowref02_Reader_Left := by kernel_rfl
theorem T_num_take : T f_num_take = some F_num_take := by kernel_rfl
theorem T_hedgerowref02_Take : T f_hedgerowref02_Take = some F_hedgerowref02_Take := by kernel_rfl
end Go.Proofs.Ytiacgomjmijfcaa
