/- The code of functions, as the evaluator has it: printed by gen.py out of the program. -/
import Derived.Test.YtdaalannljjkjaaGreatEv
set_option maxRecDepth 100000
namespace Go.PV
def c163 : AFun := ⟨false, 84, [.tmp 4],
  .seq (.region false [
    ⟨0, (some 3), .n (.box 8) [.t 1] 0 0, [], none⟩,
    ⟨1, (some 4), .p .mov [.c (.int .i64 0)], [], none⟩])
   (.seq (.block 0 (.seq (.region false [
      ⟨0, (some 7), .p .mov [.t 0], [], none⟩,
      ⟨1, (some 8), .p (.eqp false) [.t 7, .c (.nilp)], [], none⟩,
      ⟨2, (some 6), .p .mov [.t 8], [], none⟩])
     (.cond (.t 6) (.seq (.region false [
        ⟨0, (some 4), .p .mov [.c (.int .i64 1)], [], none⟩])
       (.ret))
      (.seq (.region false [
        ⟨0, (some 10), .p (.fld 2) [.t 3], [], none⟩,
        ⟨1, (some 11), .ld false 1 (.t 10) 0 0, [], none⟩,
        ⟨2, (some 12), .p (.bin .eql) [.t 11, .c (.int .u64 0)], [], none⟩,
        ⟨3, (some 13), .p .mov [.t 12], [], none⟩,
        ⟨4, (some 14), .p (.fld 3) [.t 3], [], (some (13, false))⟩,
        ⟨5, (some 15), .ld true 4 (.t 14) 0 0, [], (some (13, false))⟩,
        ⟨6, (some 16), .p (.bld [.int .u64 0, .int .u64 0, .int .u64 0, .int .u64 0] []) [], [], (some (13, false))⟩,
        ⟨7, (some 17), .p (.eqa false [false, false, false, false]) [.t 15, .t 16], [], (some (13, false))⟩,
        ⟨8, (some 18), .p .pick [.t 13, .c (.bool true), .t 17], [], none⟩,
        ⟨9, (some 19), .p .mov [.t 18], [], none⟩,
        ⟨10, (some 20), .p (.fld 7) [.t 3], [], (some (19, false))⟩,
        ⟨11, (some 21), .ld false 1 (.t 20) 0 0, [], (some (19, false))⟩,
        ⟨12, (some 22), .p .len [.t 21], [], (some (19, false))⟩,
        ⟨13, (some 23), .p (.bin .gtr) [.t 22, .c (.int .i64 64)], [], (some (19, false))⟩,
        ⟨14, (some 24), .p .pick [.t 19, .c (.bool true), .t 23], [], none⟩,
        ⟨15, (some 9), .p .mov [.t 24], [], none⟩])
       (.cond (.t 9) (.seq (.region false [
          ⟨0, (some 4), .p .mov [.c (.int .i64 2)], [], none⟩])
         (.ret))
        (.seq (.region true [
          ⟨0, (some 26), .p (.fld 1) [.t 3], [], none⟩,
          ⟨1, (some 27), .ld false 1 (.t 26) 0 0, [0], none⟩,
          ⟨2, (some 28), .p (.bin .lss) [.t 27, .c (.int .u64 1)], [1], none⟩,
          ⟨3, (some 29), .p .mov [.t 28], [2], none⟩,
          ⟨4, (some 30), .p (.fld 1) [.t 3], [3], (some (29, false))⟩,
          ⟨5, (some 31), .ld false 1 (.t 30) 0 0, [4, 3], (some (29, false))⟩,
          ⟨6, (some 32), .p .mov [.t 0], [3], (some (29, false))⟩,
          ⟨7, (some 33), .p .nilc [.t 32], [6, 3], (some (29, false))⟩,
          ⟨8, (some 34), .p (.fld 0) [.t 33], [7, 3], (some (29, false))⟩,
          ⟨9, (some 35), .ld false 1 (.t 34) 0 0, [8, 3], (some (29, false))⟩,
          ⟨10, (some 36), .p .len [.t 35], [9, 3], (some (29, false))⟩,
          ⟨11, (some 37), .p (.conv .u64) [.t 36], [10, 3], (some (29, false))⟩,
          ⟨12, (some 38), .p (.bin .gtr) [.t 31, .t 37], [5, 11, 3], (some (29, false))⟩,
          ⟨13, (some 39), .p .pick [.t 29, .c (.bool true), .t 38], [3, 12], none⟩,
          ⟨14, (some 40), .p .mov [.t 39], [13, 3], none⟩,
          ⟨15, (some 41), .p (.fld 0) [.t 3], [14], (some (40, false))⟩,
          ⟨16, (some 42), .ld false 1 (.t 41) 0 0, [15, 14], (some (40, false))⟩,
          ⟨17, (some 43), .p (.fld 1) [.t 3], [14], (some (40, false))⟩,
          ⟨18, (some 44), .ld false 1 (.t 43) 0 0, [17, 14], (some (40, false))⟩,
          ⟨19, (some 45), .p (.bin .geq) [.t 42, .t 44], [16, 18, 14], (some (40, false))⟩,
          ⟨20, (some 46), .p .pick [.t 40, .c (.bool true), .t 45], [14, 19], none⟩,
          ⟨21, (some 25), .p .mov [.t 46], [20, 14], none⟩])
         (.cond (.t 25) (.seq (.region false [
            ⟨0, (some 4), .p .mov [.c (.int .i64 8)], [], none⟩])
           (.ret))
          (.seq (.region true [
            ⟨0, (some 48), .p .mov [.t 0], [], none⟩,
            ⟨1, (some 49), .p .nilc [.t 48], [0], none⟩,
            ⟨2, (some 50), .p (.fld 1) [.t 49], [1], none⟩,
            ⟨3, (some 51), .ld false 1 (.t 50) 0 0, [2], none⟩,
            ⟨4, (some 52), .p (.fld 0) [.t 3], [], none⟩,
            ⟨5, (some 53), .ld false 1 (.t 52) 0 0, [4], none⟩,
            ⟨6, (some 54), .p (.ixs 1) [.t 51, .t 53], [3, 5], none⟩,
            ⟨7, (some 55), .ld false 1 (.t 54) 0 0, [6], none⟩,
            ⟨8, (some 47), .p .mov [.t 55], [7], none⟩])
           (.cond (.t 47) (.seq (.region false [
              ⟨0, (some 4), .p .mov [.c (.int .i64 9)], [], none⟩])
             (.ret))
            (.skip))))))))))
   (.seq (.region false [
    ⟨0, (some 56), .p (.fld 0) [.t 3], [], none⟩,
    ⟨1, (some 57), .ld false 1 (.t 56) 0 0, [], none⟩,
    ⟨2, (some 58), .p (.fld 2) [.t 3], [], none⟩,
    ⟨3, (some 59), .ld false 1 (.t 58) 0 0, [], none⟩,
    ⟨4, (some 60), .p (.fld 3) [.t 3], [], none⟩,
    ⟨5, (some 61), .ld true 4 (.t 60) 0 0, [], none⟩,
    ⟨6, (some 62), .p (.bld [.int .u64 0, .int .u64 0, .int .u64 0, .int .u64 0, .int .u64 0, .int .u64 0] [(0, 1), (1, 1), (2, 4)]) [.t 57, .t 59, .t 61], [], none⟩,
    ⟨7, (some 63), .c (.call 207) [.t 62], [], none⟩,
    ⟨8, (some 5), .n (.alloc (.agg [.int .u8 0, .int .u8 0, .int .u8 0, .int .u8 0, .int .u8 0, .int .u8 0, .int .u8 0, .int .u8 0, .int .u8 0, .int .u8 0, .int .u8 0, .int .u8 0, .int .u8 0, .int .u8 0, .int .u8 0, .int .u8 0, .int .u8 0, .int .u8 0, .int .u8 0, .int .u8 0, .int .u8 0, .int .u8 0, .int .u8 0, .int .u8 0, .int .u8 0, .int .u8 0, .int .u8 0, .int .u8 0, .int .u8 0, .int .u8 0, .int .u8 0, .int .u8 0])) [] 0 0, [], none⟩,
    ⟨9, none, .c (.store 32) [.t 5, .t 63], [], none⟩])
   (.seq (.seq (.region true [
    ⟨0, (some 64), .p .mov [.t 0], [], none⟩,
    ⟨1, (some 65), .p .nilc [.t 64], [0], none⟩,
    ⟨2, (some 66), .p (.fld 0) [.t 65], [1], none⟩,
    ⟨3, (some 67), .ld false 1 (.t 66) 0 0, [2], none⟩,
    ⟨4, (some 68), .p (.fld 1) [.t 3], [], none⟩,
    ⟨5, (some 69), .ld false 1 (.t 68) 0 0, [4], none⟩,
    ⟨6, (some 70), .p (.bin .sub) [.t 69, .c (.int .u64 1)], [5], none⟩,
    ⟨7, (some 71), .p (.ixs 32) [.t 67, .t 70], [3, 6], none⟩,
    ⟨8, (some 72), .ld true 32 (.t 71) 0 0, [7], none⟩,
    ⟨9, (some 73), .p (.fld 1) [.t 3], [], none⟩,
    ⟨10, (some 74), .ld false 1 (.t 73) 0 0, [9], none⟩,
    ⟨11, (some 75), .p (.conv .i64) [.t 74], [10], none⟩,
    ⟨12, (some 76), .p (.fld 0) [.t 3], [], none⟩,
    ⟨13, (some 77), .ld false 1 (.t 76) 0 0, [12], none⟩,
    ⟨14, (some 78), .p (.conv .i64) [.t 77], [13], none⟩,
    ⟨15, (some 79), .ld true 32 (.t 5) 0 0, [], none⟩,
    ⟨16, (some 80), .p (.fld 7) [.t 3], [], none⟩,
    ⟨17, (some 81), .ld false 1 (.t 80) 0 0, [16], none⟩,
    ⟨18, (some 82), .c (.call 208) [.t 72, .t 75, .t 78, .t 79, .t 81], [8, 11, 14, 15, 17], none⟩,
    ⟨19, (some 83), .p (.un .not) [.t 82], [18], none⟩])
   (.cond (.t 83) (.seq (.region false [
      ⟨0, (some 4), .p .mov [.c (.int .i64 16)], [], none⟩])
     (.ret))
    (.skip)))
   (.seq (.region false [
    ⟨0, (some 4), .p .mov [.c (.int .i64 0)], [], none⟩])
   (.ret)))))⟩
def c177 : AFun := ⟨false, 41, [.tmp 4, .tmp 5],
  .seq (.region false [
    ⟨0, (some 3), .n (.box 21) [.t 1] 0 0, [], none⟩,
    ⟨1, (some 4), .p .mov [.c (.int .u64 0)], [], none⟩,
    ⟨2, (some 5), .p .mov [.c (.int .i64 0)], [], none⟩])
   (.seq (.seq (.region false [
    ⟨0, (some 11), .ld true 21 (.t 3) 0 0, [], none⟩,
    ⟨1, (some 12), .c (.call 157) [.t 11], [], none⟩,
    ⟨2, (some 13), .p (.un .not) [.t 12], [], none⟩])
   (.cond (.t 13) (.seq (.region false [
      ⟨0, (some 4), .p .mov [.c (.int .u64 0)], [], none⟩,
      ⟨1, (some 5), .p .mov [.c (.int .i64 15)], [], none⟩])
     (.ret))
    (.skip)))
   (.seq (.region false [
    ⟨0, (some 14), .p (.fld 2) [.t 3], [], none⟩,
    ⟨1, (some 15), .ld false 1 (.t 14) 0 0, [], none⟩,
    ⟨2, (some 16), .p (.fld 0) [.t 3], [], none⟩,
    ⟨3, (some 17), .ld false 1 (.t 16) 0 0, [], none⟩,
    ⟨4, (some 18), .p (.bin .mul) [.t 15, .t 17], [], none⟩,
    ⟨5, (some 6), .p .mov [.t 18], [], none⟩])
   (.seq (.region false [
    ⟨0, (some 20), .p .mov [.t 0], [], none⟩,
    ⟨1, (some 21), .p (.fld 0) [.t 3], [], none⟩,
    ⟨2, (some 22), .ld false 1 (.t 21) 0 0, [], none⟩,
    ⟨3, (some 23), .p (.fld 1) [.t 3], [], none⟩,
    ⟨4, (some 24), .ld false 1 (.t 23) 0 0, [], none⟩,
    ⟨5, (some 25), .c (.call 216) [.t 20, .t 22, .t 24], [], none⟩,
    ⟨6, (some 26), .c (.call 156) [.t 25, .c (.int .u64 10000)], [], none⟩,
    ⟨7, (some 19), .p .mov [.t 26], [], none⟩,
    ⟨8, (some 27), .p (.ext 0) [.t 19], [], none⟩,
    ⟨9, (some 28), .p (.ext 1) [.t 19], [], none⟩,
    ⟨10, (some 7), .p .mov [.t 27], [], none⟩,
    ⟨11, (some 8), .p .mov [.t 28], [], none⟩])
   (.seq (.seq (.region false [
    ⟨0, (some 29), .p .mov [.t 7], [], none⟩,
    ⟨1, (some 30), .p .mov [.t 6], [], none⟩,
    ⟨2, (some 31), .p (.bin .geq) [.t 29, .t 30], [], none⟩])
   (.cond (.t 31) (.seq (.region false [
      ⟨0, (some 4), .p .mov [.c (.int .u64 200000)], [], none⟩,
      ⟨1, (some 5), .p .mov [.c (.int .i64 0)], [], none⟩])
     (.ret))
    (.skip)))
   (.seq (.region false [
    ⟨0, (some 33), .p .mov [.t 7], [], none⟩,
    ⟨1, (some 34), .p .mov [.t 8], [], none⟩,
    ⟨2, (some 35), .p .mov [.t 6], [], none⟩,
    ⟨3, (some 36), .c (.call 217) [.t 33, .t 34, .t 35], [], none⟩,
    ⟨4, (some 32), .p .mov [.t 36], [], none⟩,
    ⟨5, (some 37), .p (.ext 0) [.t 32], [], none⟩,
    ⟨6, (some 38), .p (.ext 1) [.t 32], [], none⟩,
    ⟨7, (some 9), .p .mov [.t 37], [], none⟩,
    ⟨8, (some 10), .p .mov [.t 38], [], none⟩])
   (.seq (.region false [
    ⟨0, (some 39), .p .mov [.t 9], [], none⟩,
    ⟨1, (some 40), .p .mn [.t 39, .c (.int .u64 200000)], [], none⟩,
    ⟨2, (some 4), .p .mov [.t 40], [], none⟩,
    ⟨3, (some 5), .p .mov [.c (.int .i64 0)], [], none⟩])
   (.ret)))))))⟩
def c178 : AFun := ⟨false, 25, [.cell 6 true 4, .tmp 7],
  .seq (.region false [
    ⟨0, (some 3), .n (.box 4) [.t 0] 0 0, [], none⟩,
    ⟨1, (some 6), .n (.alloc (.agg [.int .u64 0, .int .u64 0, .int .u64 0, .int .u64 0])) [] 0 0, [], none⟩,
    ⟨2, (some 7), .p .mov [.c (.int .i64 0)], [], none⟩])
   (.seq (.region false [
    ⟨0, (some 11), .p .mov [.t 1], [], none⟩,
    ⟨1, (some 12), .p .mov [.t 2], [], none⟩,
    ⟨2, (some 13), .c (.call 218) [.t 11, .t 12], [], none⟩,
    ⟨3, (some 10), .p .mov [.t 13], [], none⟩,
    ⟨4, (some 14), .p (.ext 0) [.t 10], [], none⟩,
    ⟨5, (some 15), .p (.ext 1) [.t 10], [], none⟩,
    ⟨6, (some 8), .p .mov [.t 14], [], none⟩,
    ⟨7, (some 9), .p .mov [.t 15], [], none⟩])
   (.seq (.seq (.region false [
    ⟨0, (some 16), .p .mov [.t 9], [], none⟩,
    ⟨1, (some 17), .p (.bin .neq) [.t 16, .c (.int .i64 0)], [], none⟩])
   (.cond (.t 17) (.seq (.region false [
      ⟨0, (some 18), .p (.bld [.int .u64 0, .int .u64 0, .int .u64 0, .int .u64 0] []) [], [], none⟩,
      ⟨1, (some 19), .p .mov [.t 9], [], none⟩,
      ⟨2, none, .c (.store 4) [.t 6, .t 18], [], none⟩,
      ⟨3, (some 7), .p .mov [.t 19], [], none⟩])
     (.ret))
    (.skip)))
   (.seq (.region false [
    ⟨0, (some 20), .ld true 4 (.t 3) 0 0, [], none⟩,
    ⟨1, (some 21), .p .mov [.t 8], [], none⟩,
    ⟨2, (some 22), .c (.call 219) [.t 20, .t 21], [], none⟩,
    ⟨3, (some 23), .p (.ext 0) [.t 22], [], none⟩,
    ⟨4, (some 24), .p (.ext 1) [.t 22], [], none⟩,
    ⟨5, none, .c (.store 4) [.t 6, .t 23], [], none⟩,
    ⟨6, (some 7), .p .mov [.t 24], [], none⟩])
   (.ret))))⟩
def c182 : AFun := ⟨false, 24, [.tmp 4],
  .seq (.region false [
    ⟨0, (some 2), .n (.box 4) [.t 0] 0 0, [], none⟩,
    ⟨1, (some 3), .n (.box 4) [.t 1] 0 0, [], none⟩,
    ⟨2, (some 4), .p .mov [.c (.int .i64 0)], [], none⟩])
   (.seq (.seq (.region false [
    ⟨0, (some 5), .p .mov [.c (.int .i64 3)], [], none⟩])
   (.block 0 (.loop [false, false, true, true, false, true] (.seq (.seq (.region false [
        ⟨0, (some 6), .p .mov [.t 5], [], none⟩,
        ⟨1, (some 7), .p (.bin .geq) [.t 6, .c (.int .i64 0)], [], none⟩])
       (.cond (.t 7) (.skip)
        (.exit 0)))
       (.seq (.block 1 (.seq (.seq (.region true [
          ⟨0, (some 10), .p .mov [.t 5], [], none⟩,
          ⟨1, (some 11), .p (.ixa 4 1) [.t 2, .t 10], [0], none⟩,
          ⟨2, (some 12), .ld false 1 (.t 11) 0 0, [1], none⟩,
          ⟨3, (some 13), .p .mov [.t 5], [], none⟩,
          ⟨4, (some 14), .p (.ixa 4 1) [.t 3, .t 13], [3], none⟩,
          ⟨5, (some 15), .ld false 1 (.t 14) 0 0, [4], none⟩,
          ⟨6, (some 16), .p (.bin .lss) [.t 12, .t 15], [2, 5], none⟩])
         (.cond (.t 16) (.seq (.region false [
            ⟨0, (some 4), .p .mov [.c (.int .i64 (-1))], [], none⟩])
           (.ret))
          (.skip)))
         (.seq (.region true [
          ⟨0, (some 17), .p .mov [.t 5], [], none⟩,
          ⟨1, (some 18), .p (.ixa 4 1) [.t 2, .t 17], [0], none⟩,
          ⟨2, (some 19), .ld false 1 (.t 18) 0 0, [1], none⟩,
          ⟨3, (some 20), .p .mov [.t 5], [], none⟩,
          ⟨4, (some 21), .p (.ixa 4 1) [.t 3, .t 20], [3], none⟩,
          ⟨5, (some 22), .ld false 1 (.t 21) 0 0, [4], none⟩,
          ⟨6, (some 23), .p (.bin .gtr) [.t 19, .t 22], [2, 5], none⟩])
         (.cond (.t 23) (.seq (.region false [
            ⟨0, (some 4), .p .mov [.c (.int .i64 1)], [], none⟩])
           (.ret))
          (.skip)))))
       (.region false [
        ⟨0, (some 8), .p .mov [.t 5], [], none⟩,
        ⟨1, (some 9), .p (.bin .sub) [.t 8, .c (.int .i64 1)], [], none⟩,
        ⟨2, (some 5), .p .mov [.t 9], [], none⟩]))))))
   (.seq (.region false [
    ⟨0, (some 4), .p .mov [.c (.int .i64 0)], [], none⟩])
   (.ret)))⟩
def c189 : AFun := ⟨false, 14, [.tmp 4, .tmp 5],
  .seq (.region false [
    ⟨0, (some 4), .p .mov [.c (.int .i64 0)], [], none⟩,
    ⟨1, (some 5), .p .mov [.c (.bool false)], [], none⟩])
   (.seq (.region false [
    ⟨0, (some 6), .p .mov [.t 0], [], none⟩,
    ⟨1, (some 7), .p .nilc [.t 6], [], none⟩,
    ⟨2, (some 8), .p (.fld 0) [.t 7], [], none⟩,
    ⟨3, (some 9), .ld false 1 (.t 8) 0 0, [], none⟩,
    ⟨4, (some 10), .p .mov [.t 1], [], none⟩,
    ⟨5, (some 11), .c (.call 225) [.t 9, .t 10, .c (.fn 226)], [], none⟩,
    ⟨6, (some 12), .p (.ext 0) [.t 11], [], none⟩,
    ⟨7, (some 13), .p (.ext 1) [.t 11], [], none⟩,
    ⟨8, (some 4), .p .mov [.t 12], [], none⟩,
    ⟨9, (some 5), .p .mov [.t 13], [], none⟩])
   (.ret))⟩
def c190 : AFun := ⟨false, 12, [.tmp 2],
  .seq (.region false [
    ⟨0, (some 1), .n (.box 6) [.t 0] 0 0, [], none⟩,
    ⟨1, (some 2), .p .mov [.c (.bool false)], [], none⟩])
   (.seq (.region false [
    ⟨0, (some 3), .p (.fld 1) [.t 1], [], none⟩,
    ⟨1, (some 4), .ld true 4 (.t 3) 0 0, [], none⟩,
    ⟨2, (some 5), .p (.bld [.int .u64 0, .int .u64 0, .int .u64 0, .int .u64 0] []) [], [], none⟩,
    ⟨3, (some 6), .p (.eqa false [false, false, false, false]) [.t 4, .t 5], [], none⟩,
    ⟨4, (some 7), .p .mov [.t 6], [], none⟩,
    ⟨5, (some 8), .p (.fld 5) [.t 1], [], (some (7, true))⟩,
    ⟨6, (some 9), .ld false 1 (.t 8) 0 0, [], (some (7, true))⟩,
    ⟨7, (some 10), .p (.bin .eql) [.t 9, .c (.int .u64 0)], [], (some (7, true))⟩,
    ⟨8, (some 11), .p .pick [.t 7, .t 10, .c (.bool false)], [], none⟩,
    ⟨9, (some 2), .p .mov [.t 11], [], none⟩])
   (.ret))⟩
def c192 : AFun := ⟨false, 95, [.tmp 6],
  .seq (.region false [
    ⟨0, (some 6), .p .mov [.c (.sl 6 .nil [])], [], none⟩])
   (.seq (.region false [
    ⟨0, (some 10), .p .mov [.t 0], [], none⟩,
    ⟨1, (some 11), .p .mov [.t 1], [], none⟩,
    ⟨2, (some 12), .c (.slx 6 true false false) [.t 10, .t 11], [], none⟩])
   (.seq (.region false [
    ⟨0, (some 13), .p .mov [.t 2], [], none⟩,
    ⟨1, (some 14), .p .len [.t 13], [], none⟩,
    ⟨2, (some 7), .p .mov [.t 14], [], none⟩])
   (.seq (.seq (.region false [
    ⟨0, (some 15), .p .mov [.t 7], [], none⟩,
    ⟨1, (some 16), .p (.bin .eql) [.t 15, .c (.int .i64 0)], [], none⟩])
   (.cond (.t 16) (.seq (.region false [
      ⟨0, (some 17), .p .mov [.t 0], [], none⟩,
      ⟨1, (some 6), .p .mov [.t 17], [], none⟩])
     (.ret))
    (.skip)))
   (.seq (.region false [
    ⟨0, (some 18), .p .mov [.t 0], [], none⟩,
    ⟨1, (some 19), .p .len [.t 18], [], none⟩,
    ⟨2, (some 8), .p .mov [.t 19], [], none⟩])
   (.seq (.seq (.region false [
    ⟨0, (some 20), .p .mov [.t 1], [], none⟩,
    ⟨1, (some 21), .p .mov [.t 8], [], none⟩,
    ⟨2, (some 22), .p (.bin .eql) [.t 20, .t 21], [], none⟩])
   (.cond (.t 22) (.seq (.region false [
      ⟨0, (some 23), .p .mov [.t 0], [], none⟩,
      ⟨1, (some 24), .p .mov [.t 2], [], none⟩,
      ⟨2, (some 25), .c (.app 6 48) [.t 23, .t 24], [], none⟩,
      ⟨3, (some 6), .p .mov [.t 25], [], none⟩])
     (.ret))
    (.skip)))
   (.seq (.seq (.region false [
    ⟨0, (some 26), .p .mov [.t 8], [], none⟩,
    ⟨1, (some 27), .p .mov [.t 7], [], none⟩,
    ⟨2, (some 28), .p (.bin .add) [.t 26, .t 27], [], none⟩,
    ⟨3, (some 29), .p .mov [.t 0], [], none⟩,
    ⟨4, (some 30), .p .cap [.t 29], [], none⟩,
    ⟨5, (some 31), .p (.bin .gtr) [.t 28, .t 30], [], none⟩])
   (.cond (.t 31) (.seq (.region false [
      ⟨0, (some 32), .p .mov [.t 0], [], none⟩,
      ⟨1, (some 33), .p .mov [.t 1], [], none⟩,
      ⟨2, (some 34), .c (.slx 6 false true false) [.t 32, .t 33], [], none⟩,
      ⟨3, (some 35), .p .mov [.t 8], [], none⟩,
      ⟨4, (some 36), .p .mov [.t 7], [], none⟩,
      ⟨5, (some 37), .p (.bin .add) [.t 35, .t 36], [], none⟩,
      ⟨6, (some 38), .p .mov [.t 1], [], none⟩,
      ⟨7, (some 39), .p (.bin .sub) [.t 37, .t 38], [], none⟩,
      ⟨8, (some 40), .c (.appz 6 48 (.agg [.int .u64 0, .int .u64 0, .int .u64 0, .int .u64 0, .int .u64 0, .int .u64 0])) [.t 34, .t 39], [], none⟩,
      ⟨9, (some 9), .p .mov [.t 40], [], none⟩])
     (.seq (.region false [
      ⟨0, (some 41), .p .mov [.t 9], [], none⟩,
      ⟨1, (some 42), .p .mov [.t 1], [], none⟩,
      ⟨2, (some 43), .c (.slx 6 true false false) [.t 41, .t 42], [], none⟩,
      ⟨3, (some 44), .p .mov [.t 2], [], none⟩,
      ⟨4, (some 45), .c (.copy 6) [.t 43, .t 44], [], none⟩])
     (.seq (.region true [
      ⟨0, (some 46), .bad, [], none⟩,
      ⟨1, (some 47), .bad, [], none⟩,
      ⟨2, (some 48), .bad, [], none⟩,
      ⟨3, (some 49), .bad, [1, 2], none⟩,
      ⟨4, (some 50), .bad, [0, 3], none⟩,
      ⟨5, (some 51), .bad, [], none⟩,
      ⟨6, (some 52), .bad, [], none⟩,
      ⟨7, (some 53), .bad, [5, 6], none⟩,
      ⟨8, (some 54), .bad, [4, 7], none⟩])
     (.seq (.region false [
      ⟨0, (some 55), .p .mov [.t 9], [], none⟩,
      ⟨1, (some 6), .p .mov [.t 55], [], none⟩])
     (.ret)))))
    (.skip)))
   (.seq (.region false [
    ⟨0, (some 56), .p .mov [.t 0], [], none⟩,
    ⟨1, (some 57), .p .mov [.t 8], [], none⟩,
    ⟨2, (some 58), .p .mov [.t 7], [], none⟩,
    ⟨3, (some 59), .p (.bin .add) [.t 57, .t 58], [], none⟩,
    ⟨4, (some 60), .c (.slx 6 false true false) [.t 56, .t 59], [], none⟩,
    ⟨5, (some 0), .p .mov [.t 60], [], none⟩])
   (.seq (.seq (.region false [
    ⟨0, (some 61), .p .mov [.t 2], [], none⟩,
    ⟨1, (some 62), .p .mov [.t 0], [], none⟩,
    ⟨2, (some 63), .p .mov [.t 1], [], none⟩,
    ⟨3, (some 64), .p .mov [.t 7], [], none⟩,
    ⟨4, (some 65), .p (.bin .add) [.t 63, .t 64], [], none⟩,
    ⟨5, (some 66), .c (.slx 6 true false false) [.t 62, .t 65], [], none⟩,
    ⟨6, (some 67), .bad, [], none⟩,
    ⟨7, (some 68), .p (.un .not) [.t 67], [], none⟩])
   (.cond (.t 68) (.seq (.region true [
      ⟨0, (some 69), .bad, [], none⟩,
      ⟨1, (some 70), .bad, [], none⟩,
      ⟨2, (some 71), .bad, [], none⟩,
      ⟨3, (some 72), .bad, [1, 2], none⟩,
      ⟨4, (some 73), .bad, [0, 3], none⟩,
      ⟨5, (some 74), .bad, [], none⟩,
      ⟨6, (some 75), .bad, [], none⟩,
      ⟨7, (some 76), .bad, [5, 6], none⟩,
      ⟨8, (some 77), .bad, [4, 7], none⟩])
     (.seq (.region false [
      ⟨0, (some 78), .p .mov [.t 0], [], none⟩,
      ⟨1, (some 79), .p .mov [.t 1], [], none⟩,
      ⟨2, (some 80), .c (.slx 6 true false false) [.t 78, .t 79], [], none⟩,
      ⟨3, (some 81), .p .mov [.t 2], [], none⟩,
      ⟨4, (some 82), .c (.copy 6) [.t 80, .t 81], [], none⟩])
     (.seq (.region false [
      ⟨0, (some 83), .p .mov [.t 0], [], none⟩,
      ⟨1, (some 6), .p .mov [.t 83], [], none⟩])
     (.ret))))
    (.skip)))
   (.seq (.region false [
    ⟨0, (some 84), .p .mov [.t 0], [], none⟩,
    ⟨1, (some 85), .p .mov [.t 8], [], none⟩,
    ⟨2, (some 86), .c (.slx 6 true false false) [.t 84, .t 85], [], none⟩,
    ⟨3, (some 87), .p .mov [.t 2], [], none⟩,
    ⟨4, (some 88), .c (.copy 6) [.t 86, .t 87], [], none⟩])
   (.seq (.region false [
    ⟨0, (some 89), .p .mov [.t 0], [], none⟩,
    ⟨1, (some 90), .p .mov [.t 1], [], none⟩,
    ⟨2, (some 91), .c (.slx 6 true false false) [.t 89, .t 90], [], none⟩,
    ⟨3, (some 92), .p .mov [.t 7], [], none⟩,
    ⟨4, (some 93), .c (.call 228) [.t 91, .t 92], [], none⟩])
   (.seq (.region false [
    ⟨0, (some 94), .p .mov [.t 0], [], none⟩,
    ⟨1, (some 6), .p .mov [.t 94], [], none⟩])
   (.ret))))))))))))⟩
def c205 : AFun := ⟨false, 37, [.tmp 2],
  .seq (.region false [
    ⟨0, (some 1), .n (.box 21) [.t 0] 0 0, [], none⟩,
    ⟨1, (some 2), .p .mov [.c (.int .i64 0)], [], none⟩])
   (.seq (.seq (.region false [
    ⟨0, (some 3), .p .mov [.c (.int .i64 1)], [], none⟩])
   (.block 0 (.loop [false, true, false, true] (.seq (.seq (.region false [
        ⟨0, (some 8), .p .mov [.t 3], [], none⟩,
        ⟨1, (some 9), .p (.bin .leq) [.t 8, .c (.int .i64 12)], [], none⟩])
       (.cond (.t 9) (.skip)
        (.exit 0)))
       (.seq (.block 1 (.seq (.region false [
          ⟨0, (some 13), .ld true 21 (.t 1) 0 0, [], none⟩,
          ⟨1, (some 14), .p .mov [.t 3], [], none⟩,
          ⟨2, (some 15), .c (.call 239) [.t 13, .t 14], [], none⟩,
          ⟨3, (some 12), .p .mov [.t 15], [], none⟩,
          ⟨4, (some 16), .p (.ext 0) [.t 12], [], none⟩,
          ⟨5, (some 17), .p (.ext 1) [.t 12], [], none⟩,
          ⟨6, (some 4), .n (.alloc (.agg [.int .u64 0, .int .u64 0, .int .u64 0, .int .u64 0])) [] 0 0, [], none⟩,
          ⟨7, none, .c (.store 4) [.t 4, .t 16], [], none⟩,
          ⟨8, (some 5), .p .mov [.t 17], [], none⟩])
         (.seq (.region false [
          ⟨0, (some 19), .ld true 21 (.t 1) 0 0, [], none⟩,
          ⟨1, (some 20), .p .mov [.t 3], [], none⟩,
          ⟨2, (some 21), .c (.call 240) [.t 19, .t 20], [], none⟩,
          ⟨3, (some 18), .p .mov [.t 21], [], none⟩,
          ⟨4, (some 22), .p (.ext 0) [.t 18], [], none⟩,
          ⟨5, (some 23), .p (.ext 1) [.t 18], [], none⟩,
          ⟨6, (some 6), .p .mov [.t 22], [], none⟩,
          ⟨7, (some 7), .p .mov [.t 23], [], none⟩])
         (.seq (.region true [
          ⟨0, (some 24), .ld true 4 (.t 4) 0 1, [], none⟩,
          ⟨1, (some 25), .p .mov [.t 6], [], none⟩,
          ⟨2, (some 26), .c (.call 58) [.t 25], [1], none⟩,
          ⟨3, (some 27), .c (.call 182) [.t 24, .t 26], [0, 2], none⟩,
          ⟨4, (some 28), .p (.bin .lss) [.t 27, .c (.int .i64 0)], [3], none⟩,
          ⟨5, (some 29), .p .mov [.t 28], [4, 3], none⟩,
          ⟨6, (some 30), .ld true 4 (.t 4) 2 3, [5], (some (29, false))⟩,
          ⟨7, (some 31), .p .mov [.t 7], [5], (some (29, false))⟩,
          ⟨8, (some 32), .c (.call 58) [.t 31], [7, 5], (some (29, false))⟩,
          ⟨9, (some 33), .c (.call 182) [.t 30, .t 32], [6, 8, 5], (some (29, false))⟩,
          ⟨10, (some 34), .p (.bin .gtr) [.t 33, .c (.int .i64 0)], [9, 5], (some (29, false))⟩,
          ⟨11, (some 35), .p .pick [.t 29, .c (.bool true), .t 34], [5, 10], none⟩])
         (.cond (.t 35) (.seq (.region false [
            ⟨0, (some 36), .p .mov [.t 3], [], none⟩,
            ⟨1, (some 2), .p .mov [.t 36], [], none⟩])
           (.ret))
          (.skip))))))
       (.region false [
        ⟨0, (some 10), .p .mov [.t 3], [], none⟩,
        ⟨1, (some 11), .p (.bin .add) [.t 10, .c (.int .i64 1)], [], none⟩,
        ⟨2, (some 3), .p .mov [.t 11], [], none⟩]))))))
   (.seq (.region false [
    ⟨0, (some 2), .p .mov [.c (.int .i64 0)], [], none⟩])
   (.ret)))⟩
def c216 : AFun := ⟨false, 11, [.tmp 6],
  .seq (.region false [
    ⟨0, (some 6), .p .mov [.c (.int .u64 0)], [], none⟩])
   (.seq (.region false [
    ⟨0, (some 7), .p .mov [.t 0], [], none⟩,
    ⟨1, (some 8), .p .mov [.t 1], [], none⟩,
    ⟨2, (some 9), .p .mov [.t 2], [], none⟩,
    ⟨3, (some 10), .c (.call 102) [.t 7, .t 8, .t 9], [], none⟩,
    ⟨4, (some 6), .p .mov [.t 10], [], none⟩])
   (.ret))⟩
def c217 : AFun := ⟨false, 135, [.tmp 6, .tmp 7],
  .seq (.region false [
    ⟨0, (some 6), .p .mov [.c (.int .u64 0)], [], none⟩,
    ⟨1, (some 7), .p .mov [.c (.int .u64 0)], [], none⟩])
   (.seq (.seq (.region false [
    ⟨0, (some 19), .p .mov [.t 2], [], none⟩,
    ⟨1, (some 20), .p (.bin .eql) [.t 19, .c (.int .u64 0)], [], none⟩])
   (.cond (.t 20) (.region false [
      ⟨0, (some 21), .bad, [], none⟩,
      ⟨1, none, .bad, [], none⟩])
    (.skip)))
   (.seq (.seq (.region false [
    ⟨0, (some 22), .p .mov [.t 2], [], none⟩,
    ⟨1, (some 23), .p .mov [.t 0], [], none⟩,
    ⟨2, (some 24), .p (.bin .leq) [.t 22, .t 23], [], none⟩])
   (.cond (.t 24) (.region false [
      ⟨0, (some 25), .bad, [], none⟩,
      ⟨1, none, .bad, [], none⟩])
    (.skip)))
   (.seq (.seq (.region false [
    ⟨0, (some 26), .p .mov [.t 0], [], none⟩,
    ⟨1, (some 27), .p (.bin .eql) [.t 26, .c (.int .u64 0)], [], none⟩])
   (.cond (.t 27) (.seq (.region true [
      ⟨0, (some 28), .p .mov [.t 1], [], none⟩,
      ⟨1, (some 29), .p .mov [.t 2], [], none⟩,
      ⟨2, (some 30), .p (.bin .quo) [.t 28, .t 29], [0, 1], none⟩,
      ⟨3, (some 31), .p .mov [.t 1], [], none⟩,
      ⟨4, (some 32), .p .mov [.t 2], [], none⟩,
      ⟨5, (some 33), .p (.bin .rem) [.t 31, .t 32], [3, 4], none⟩,
      ⟨6, (some 6), .p .mov [.t 30], [2, 0, 1], none⟩,
      ⟨7, (some 7), .p .mov [.t 33], [5, 6, 0, 1, 2, 3, 4], none⟩])
     (.ret))
    (.skip)))
   (.seq (.region false [
    ⟨0, (some 34), .p .mov [.t 2], [], none⟩,
    ⟨1, (some 35), .c (.call 248) [.t 34], [], none⟩,
    ⟨2, (some 36), .p (.conv .u64) [.t 35], [], none⟩,
    ⟨3, (some 8), .p .mov [.t 36], [], none⟩])
   (.seq (.region false [
    ⟨0, (some 37), .p .mov [.t 2], [], none⟩,
    ⟨1, (some 38), .p .mov [.t 8], [], none⟩,
    ⟨2, (some 39), .p (.bin .shl) [.t 37, .t 38], [], none⟩,
    ⟨3, (some 2), .p .mov [.t 39], [], none⟩])
   (.seq (.region false [
    ⟨0, (some 40), .p .mov [.t 2], [], none⟩,
    ⟨1, (some 41), .p (.bin .shr) [.t 40, .c (.int .u64 32)], [], none⟩,
    ⟨2, (some 9), .p .mov [.t 41], [], none⟩])
   (.seq (.region false [
    ⟨0, (some 42), .p .mov [.t 2], [], none⟩,
    ⟨1, (some 43), .p (.bin .and) [.t 42, .c (.int .u64 4294967295)], [], none⟩,
    ⟨2, (some 10), .p .mov [.t 43], [], none⟩])
   (.seq (.region false [
    ⟨0, (some 44), .p .mov [.t 0], [], none⟩,
    ⟨1, (some 45), .p .mov [.t 8], [], none⟩,
    ⟨2, (some 46), .p (.bin .shl) [.t 44, .t 45], [], none⟩,
    ⟨3, (some 47), .p .mov [.t 1], [], none⟩,
    ⟨4, (some 48), .p .mov [.t 8], [], none⟩,
    ⟨5, (some 49), .p (.bin .sub) [.c (.int .u64 64), .t 48], [], none⟩,
    ⟨6, (some 50), .p (.bin .shr) [.t 47, .t 49], [], none⟩,
    ⟨7, (some 51), .p (.bin .or) [.t 46, .t 50], [], none⟩,
    ⟨8, (some 11), .p .mov [.t 51], [], none⟩])
   (.seq (.region false [
    ⟨0, (some 52), .p .mov [.t 1], [], none⟩,
    ⟨1, (some 53), .p .mov [.t 8], [], none⟩,
    ⟨2, (some 54), .p (.bin .shl) [.t 52, .t 53], [], none⟩,
    ⟨3, (some 12), .p .mov [.t 54], [], none⟩])
   (.seq (.region false [
    ⟨0, (some 55), .p .mov [.t 12], [], none⟩,
    ⟨1, (some 56), .p (.bin .shr) [.t 55, .c (.int .u64 32)], [], none⟩,
    ⟨2, (some 13), .p .mov [.t 56], [], none⟩])
   (.seq (.region false [
    ⟨0, (some 57), .p .mov [.t 12], [], none⟩,
    ⟨1, (some 58), .p (.bin .and) [.t 57, .c (.int .u64 4294967295)], [], none⟩,
    ⟨2, (some 14), .p .mov [.t 58], [], none⟩])
   (.seq (.region false [
    ⟨0, (some 59), .p .mov [.t 11], [], none⟩,
    ⟨1, (some 60), .p .mov [.t 9], [], none⟩,
    ⟨2, (some 61), .p (.bin .quo) [.t 59, .t 60], [], none⟩,
    ⟨3, (some 15), .p .mov [.t 61], [], none⟩])
   (.seq (.region false [
    ⟨0, (some 62), .p .mov [.t 11], [], none⟩,
    ⟨1, (some 63), .p .mov [.t 15], [], none⟩,
    ⟨2, (some 64), .p .mov [.t 9], [], none⟩,
    ⟨3, (some 65), .p (.bin .mul) [.t 63, .t 64], [], none⟩,
    ⟨4, (some 66), .p (.bin .sub) [.t 62, .t 65], [], none⟩,
    ⟨5, (some 16), .p .mov [.t 66], [], none⟩])
   (.seq (.block 0 (.loop [false, false, true, false, false, false, false, false, true, true, true, true, false, true, true, true, true] (.seq (.seq (.region false [
        ⟨0, (some 67), .p .mov [.t 15], [], none⟩,
        ⟨1, (some 68), .p (.bin .geq) [.t 67, .c (.int .u64 4294967296)], [], none⟩,
        ⟨2, (some 69), .p .mov [.t 68], [], none⟩,
        ⟨3, (some 70), .p .mov [.t 15], [], (some (69, false))⟩,
        ⟨4, (some 71), .p .mov [.t 10], [], (some (69, false))⟩,
        ⟨5, (some 72), .p (.bin .mul) [.t 70, .t 71], [], (some (69, false))⟩,
        ⟨6, (some 73), .p .mov [.t 16], [], (some (69, false))⟩,
        ⟨7, (some 74), .p (.bin .mul) [.c (.int .u64 4294967296), .t 73], [], (some (69, false))⟩,
        ⟨8, (some 75), .p .mov [.t 13], [], (some (69, false))⟩,
        ⟨9, (some 76), .p (.bin .add) [.t 74, .t 75], [], (some (69, false))⟩,
        ⟨10, (some 77), .p (.bin .gtr) [.t 72, .t 76], [], (some (69, false))⟩,
        ⟨11, (some 78), .p .pick [.t 69, .c (.bool true), .t 77], [], none⟩])
       (.cond (.t 78) (.skip)
        (.exit 0)))
       (.block 1 (.seq (.region false [
          ⟨0, (some 79), .p .mov [.t 15], [], none⟩,
          ⟨1, (some 80), .p (.bin .sub) [.t 79, .c (.int .u64 1)], [], none⟩,
          ⟨2, (some 15), .p .mov [.t 80], [], none⟩])
         (.seq (.region false [
          ⟨0, (some 81), .p .mov [.t 16], [], none⟩,
          ⟨1, (some 82), .p .mov [.t 9], [], none⟩,
          ⟨2, (some 83), .p (.bin .add) [.t 81, .t 82], [], none⟩,
          ⟨3, (some 16), .p .mov [.t 83], [], none⟩])
         (.seq (.region false [
          ⟨0, (some 84), .p .mov [.t 16], [], none⟩,
          ⟨1, (some 85), .p (.bin .geq) [.t 84, .c (.int .u64 4294967296)], [], none⟩])
         (.cond (.t 85) (.exit 0)
          (.skip)))))))))
   (.seq (.region false [
    ⟨0, (some 86), .p .mov [.t 11], [], none⟩,
    ⟨1, (some 87), .p (.bin .mul) [.t 86, .c (.int .u64 4294967296)], [], none⟩,
    ⟨2, (some 88), .p .mov [.t 13], [], none⟩,
    ⟨3, (some 89), .p (.bin .add) [.t 87, .t 88], [], none⟩,
    ⟨4, (some 90), .p .mov [.t 15], [], none⟩,
    ⟨5, (some 91), .p .mov [.t 2], [], none⟩,
    ⟨6, (some 92), .p (.bin .mul) [.t 90, .t 91], [], none⟩,
    ⟨7, (some 93), .p (.bin .sub) [.t 89, .t 92], [], none⟩,
    ⟨8, (some 17), .p .mov [.t 93], [], none⟩])
   (.seq (.region false [
    ⟨0, (some 94), .p .mov [.t 17], [], none⟩,
    ⟨1, (some 95), .p .mov [.t 9], [], none⟩,
    ⟨2, (some 96), .p (.bin .quo) [.t 94, .t 95], [], none⟩,
    ⟨3, (some 18), .p .mov [.t 96], [], none⟩])
   (.seq (.region false [
    ⟨0, (some 97), .p .mov [.t 17], [], none⟩,
    ⟨1, (some 98), .p .mov [.t 18], [], none⟩,
    ⟨2, (some 99), .p .mov [.t 9], [], none⟩,
    ⟨3, (some 100), .p (.bin .mul) [.t 98, .t 99], [], none⟩,
    ⟨4, (some 101), .p (.bin .sub) [.t 97, .t 100], [], none⟩,
    ⟨5, (some 16), .p .mov [.t 101], [], none⟩])
   (.seq (.block 2 (.loop [false, false, true, false, false, false, false, false, true, true, true, false, false, false, true, true, true, true, true] (.seq (.seq (.region false [
        ⟨0, (some 102), .p .mov [.t 18], [], none⟩,
        ⟨1, (some 103), .p (.bin .geq) [.t 102, .c (.int .u64 4294967296)], [], none⟩,
        ⟨2, (some 104), .p .mov [.t 103], [], none⟩,
        ⟨3, (some 105), .p .mov [.t 18], [], (some (104, false))⟩,
        ⟨4, (some 106), .p .mov [.t 10], [], (some (104, false))⟩,
        ⟨5, (some 107), .p (.bin .mul) [.t 105, .t 106], [], (some (104, false))⟩,
        ⟨6, (some 108), .p .mov [.t 16], [], (some (104, false))⟩,
        ⟨7, (some 109), .p (.bin .mul) [.c (.int .u64 4294967296), .t 108], [], (some (104, false))⟩,
        ⟨8, (some 110), .p .mov [.t 14], [], (some (104, false))⟩,
        ⟨9, (some 111), .p (.bin .add) [.t 109, .t 110], [], (some (104, false))⟩,
        ⟨10, (some 112), .p (.bin .gtr) [.t 107, .t 111], [], (some (104, false))⟩,
        ⟨11, (some 113), .p .pick [.t 104, .c (.bool true), .t 112], [], none⟩])
       (.cond (.t 113) (.skip)
        (.exit 2)))
       (.block 3 (.seq (.region false [
          ⟨0, (some 114), .p .mov [.t 18], [], none⟩,
          ⟨1, (some 115), .p (.bin .sub) [.t 114, .c (.int .u64 1)], [], none⟩,
          ⟨2, (some 18), .p .mov [.t 115], [], none⟩])
         (.seq (.region false [
          ⟨0, (some 116), .p .mov [.t 16], [], none⟩,
          ⟨1, (some 117), .p .mov [.t 9], [], none⟩,
          ⟨2, (some 118), .p (.bin .add) [.t 116, .t 117], [], none⟩,
          ⟨3, (some 16), .p .mov [.t 118], [], none⟩])
         (.seq (.region false [
          ⟨0, (some 119), .p .mov [.t 16], [], none⟩,
          ⟨1, (some 120), .p (.bin .geq) [.t 119, .c (.int .u64 4294967296)], [], none⟩])
         (.cond (.t 120) (.exit 2)
          (.skip)))))))))
   (.seq (.region false [
    ⟨0, (some 121), .p .mov [.t 15], [], none⟩,
    ⟨1, (some 122), .p (.bin .mul) [.t 121, .c (.int .u64 4294967296)], [], none⟩,
    ⟨2, (some 123), .p .mov [.t 18], [], none⟩,
    ⟨3, (some 124), .p (.bin .add) [.t 122, .t 123], [], none⟩,
    ⟨4, (some 125), .p .mov [.t 17], [], none⟩,
    ⟨5, (some 126), .p (.bin .mul) [.t 125, .c (.int .u64 4294967296)], [], none⟩,
    ⟨6, (some 127), .p .mov [.t 14], [], none⟩,
    ⟨7, (some 128), .p (.bin .add) [.t 126, .t 127], [], none⟩,
    ⟨8, (some 129), .p .mov [.t 18], [], none⟩,
    ⟨9, (some 130), .p .mov [.t 2], [], none⟩,
    ⟨10, (some 131), .p (.bin .mul) [.t 129, .t 130], [], none⟩,
    ⟨11, (some 132), .p (.bin .sub) [.t 128, .t 131], [], none⟩,
    ⟨12, (some 133), .p .mov [.t 8], [], none⟩,
    ⟨13, (some 134), .p (.bin .shr) [.t 132, .t 133], [], none⟩,
    ⟨14, (some 6), .p .mov [.t 124], [], none⟩,
    ⟨15, (some 7), .p .mov [.t 134], [], none⟩])
   (.ret))))))))))))))))))))⟩
def c218 : AFun := ⟨false, 32, [.tmp 4, .tmp 5],
  .seq (.region false [
    ⟨0, (some 4), .p .mov [.c (.int .u64 0)], [], none⟩,
    ⟨1, (some 5), .p .mov [.c (.int .i64 0)], [], none⟩])
   (.seq (.seq (.region false [
    ⟨0, (some 8), .p .mov [.t 0], [], none⟩,
    ⟨1, (some 9), .p (.bin .gtr) [.t 8, .c (.int .u64 200000)], [], none⟩,
    ⟨2, (some 10), .p .mov [.t 9], [], none⟩,
    ⟨3, (some 11), .p .mov [.t 1], [], (some (10, false))⟩,
    ⟨4, (some 12), .p (.bin .lss) [.t 11, .c (.int .i64 1)], [], (some (10, false))⟩,
    ⟨5, (some 13), .p .pick [.t 10, .c (.bool true), .t 12], [], none⟩,
    ⟨6, (some 14), .p .mov [.t 13], [], none⟩,
    ⟨7, (some 15), .p .mov [.t 1], [], (some (14, false))⟩,
    ⟨8, (some 16), .p (.bin .gtr) [.t 15, .c (.int .i64 20)], [], (some (14, false))⟩,
    ⟨9, (some 17), .p .pick [.t 14, .c (.bool true), .t 16], [], none⟩])
   (.cond (.t 17) (.seq (.region false [
      ⟨0, (some 4), .p .mov [.c (.int .u64 0)], [], none⟩,
      ⟨1, (some 5), .p .mov [.c (.int .i64 2)], [], none⟩])
     (.ret))
    (.skip)))
   (.seq (.region false [
    ⟨0, (some 6), .p .mov [.c (.int .u64 10000)], [], none⟩])
   (.seq (.seq (.region false [
    ⟨0, (some 18), .p .mov [.t 1], [], none⟩,
    ⟨1, (some 7), .p .mov [.t 18], [], none⟩])
   (.block 0 (.loop [true, false, false, false, false, false, true, true] (.seq (.seq (.region false [
        ⟨0, (some 19), .p .mov [.t 7], [], none⟩,
        ⟨1, (some 20), .p (.bin .geq) [.t 19, .c (.int .i64 1)], [], none⟩])
       (.cond (.t 20) (.skip)
        (.exit 0)))
       (.seq (.block 1 (.region false [
          ⟨0, (some 23), .p .mov [.t 6], [], none⟩,
          ⟨1, (some 24), .p .mov [.t 0], [], none⟩,
          ⟨2, (some 25), .p (.bin .mul) [.t 23, .t 24], [], none⟩,
          ⟨3, (some 26), .p .mov [.t 7], [], none⟩,
          ⟨4, (some 27), .p (.conv .u64) [.t 26], [], none⟩,
          ⟨5, (some 28), .p (.bin .mul) [.t 27, .c (.int .u64 10000)], [], none⟩,
          ⟨6, (some 29), .p (.bin .quo) [.t 25, .t 28], [], none⟩,
          ⟨7, (some 30), .p (.bin .add) [.c (.int .u64 10000), .t 29], [], none⟩,
          ⟨8, (some 6), .p .mov [.t 30], [], none⟩]))
       (.region false [
        ⟨0, (some 21), .p .mov [.t 7], [], none⟩,
        ⟨1, (some 22), .p (.bin .sub) [.t 21, .c (.int .i64 1)], [], none⟩,
        ⟨2, (some 7), .p .mov [.t 22], [], none⟩]))))))
   (.seq (.region false [
    ⟨0, (some 31), .p .mov [.t 6], [], none⟩,
    ⟨1, (some 4), .p .mov [.t 31], [], none⟩,
    ⟨2, (some 5), .p .mov [.c (.int .i64 0)], [], none⟩])
   (.ret)))))⟩
def c219 : AFun := ⟨false, 13, [.cell 4 true 4, .tmp 5],
  .seq (.region false [
    ⟨0, (some 2), .n (.box 4) [.t 0] 0 0, [], none⟩,
    ⟨1, (some 4), .n (.alloc (.agg [.int .u64 0, .int .u64 0, .int .u64 0, .int .u64 0])) [] 0 0, [], none⟩,
    ⟨2, (some 5), .p .mov [.c (.int .i64 0)], [], none⟩])
   (.seq (.region true [
    ⟨0, (some 6), .ld true 4 (.t 2) 0 2, [], none⟩,
    ⟨1, (some 7), .p .mov [.t 1], [], none⟩,
    ⟨2, (some 8), .c (.call 58) [.t 7], [1], none⟩,
    ⟨3, (some 9), .c (.call 58) [.c (.int .u64 10000)], [2], none⟩,
    ⟨4, (some 10), .c (.call 231) [.t 6, .t 8, .t 9], [0, 2, 3], none⟩,
    ⟨5, (some 11), .p (.ext 0) [.t 10], [4], none⟩,
    ⟨6, (some 12), .p (.ext 1) [.t 10], [4], none⟩,
    ⟨7, none, .c (.store 4) [.t 4, .t 11], [5, 4, 0, 1, 2, 3, 6], none⟩,
    ⟨8, (some 5), .p .mov [.t 12], [6, 7, 0, 1, 2, 3, 4, 5], none⟩])
   (.ret))⟩
def c225 : AFun := ⟨false, 49, [.tmp 6, .tmp 7],
  .seq (.region false [
    ⟨0, (some 6), .p .mov [.c (.int .i64 0)], [], none⟩,
    ⟨1, (some 7), .p .mov [.c (.bool false)], [], none⟩])
   (.seq (.region false [
    ⟨0, (some 12), .p .mov [.t 0], [], none⟩,
    ⟨1, (some 13), .p .len [.t 12], [], none⟩,
    ⟨2, (some 8), .p .mov [.t 13], [], none⟩])
   (.seq (.region false [
    ⟨0, (some 14), .p .mov [.t 8], [], none⟩,
    ⟨1, (some 9), .p .mov [.c (.int .i64 0)], [], none⟩,
    ⟨2, (some 10), .p .mov [.t 14], [], none⟩])
   (.seq (.block 0 (.loop [true, true, true, false, false, false, false, false, true, true, true] (.seq (.seq (.region false [
        ⟨0, (some 15), .p .mov [.t 9], [], none⟩,
        ⟨1, (some 16), .p .mov [.t 10], [], none⟩,
        ⟨2, (some 17), .p (.bin .lss) [.t 15, .t 16], [], none⟩])
       (.cond (.t 17) (.skip)
        (.exit 0)))
       (.block 1 (.seq (.region false [
          ⟨0, (some 18), .p .mov [.t 9], [], none⟩,
          ⟨1, (some 19), .p .mov [.t 10], [], none⟩,
          ⟨2, (some 20), .p (.bin .add) [.t 18, .t 19], [], none⟩,
          ⟨3, (some 21), .p (.conv .u64) [.t 20], [], none⟩,
          ⟨4, (some 22), .p (.bin .shr) [.t 21, .c (.int .u64 1)], [], none⟩,
          ⟨5, (some 23), .p (.conv .i64) [.t 22], [], none⟩,
          ⟨6, (some 11), .p .mov [.t 23], [], none⟩])
         (.seq (.region false [
          ⟨0, (some 24), .p .mov [.t 2], [], none⟩,
          ⟨1, (some 25), .p .mov [.t 0], [], none⟩,
          ⟨2, (some 26), .p .mov [.t 11], [], none⟩,
          ⟨3, (some 27), .p (.ixs 6) [.t 25, .t 26], [], none⟩,
          ⟨4, (some 28), .ld true 6 (.t 27) 0 0, [], none⟩,
          ⟨5, (some 29), .p .mov [.t 1], [], none⟩,
          ⟨6, (some 30), .c .callv [.t 24, .t 28, .t 29], [], none⟩,
          ⟨7, (some 31), .p (.bin .lss) [.t 30, .c (.int .i64 0)], [], none⟩])
         (.cond (.t 31) (.region false [
            ⟨0, (some 32), .p .mov [.t 11], [], none⟩,
            ⟨1, (some 33), .p (.bin .add) [.t 32, .c (.int .i64 1)], [], none⟩,
            ⟨2, (some 9), .p .mov [.t 33], [], none⟩])
          (.region false [
            ⟨0, (some 34), .p .mov [.t 11], [], none⟩,
            ⟨1, (some 10), .p .mov [.t 34], [], none⟩]))))))))
   (.seq (.region false [
    ⟨0, (some 35), .p .mov [.t 9], [], none⟩,
    ⟨1, (some 36), .p .mov [.t 9], [], none⟩,
    ⟨2, (some 37), .p .mov [.t 8], [], none⟩,
    ⟨3, (some 38), .p (.bin .lss) [.t 36, .t 37], [], none⟩,
    ⟨4, (some 39), .p .mov [.t 38], [], none⟩,
    ⟨5, (some 40), .p .mov [.t 2], [], (some (39, true))⟩,
    ⟨6, (some 41), .p .mov [.t 0], [], (some (39, true))⟩,
    ⟨7, (some 42), .p .mov [.t 9], [], (some (39, true))⟩,
    ⟨8, (some 43), .p (.ixs 6) [.t 41, .t 42], [], (some (39, true))⟩,
    ⟨9, (some 44), .ld true 6 (.t 43) 0 0, [], (some (39, true))⟩,
    ⟨10, (some 45), .p .mov [.t 1], [], (some (39, true))⟩,
    ⟨11, (some 46), .c .callv [.t 40, .t 44, .t 45], [], (some (39, true))⟩,
    ⟨12, (some 47), .p (.bin .eql) [.t 46, .c (.int .i64 0)], [], (some (39, true))⟩,
    ⟨13, (some 48), .p .pick [.t 39, .t 47, .c (.bool false)], [], none⟩,
    ⟨14, (some 6), .p .mov [.t 35], [], none⟩,
    ⟨15, (some 7), .p .mov [.t 48], [], none⟩])
   (.ret)))))⟩
def c231 : AFun := ⟨false, 29, [.cell 6 true 4, .tmp 7],
  .seq (.region false [
    ⟨0, (some 3), .n (.box 4) [.t 0] 0 0, [], none⟩,
    ⟨1, (some 4), .n (.box 4) [.t 1] 0 0, [], none⟩,
    ⟨2, (some 5), .n (.box 4) [.t 2] 0 0, [], none⟩,
    ⟨3, (some 6), .n (.alloc (.agg [.int .u64 0, .int .u64 0, .int .u64 0, .int .u64 0])) [] 0 0, [], none⟩,
    ⟨4, (some 7), .p .mov [.c (.int .i64 0)], [], none⟩])
   (.seq (.region false [
    ⟨0, (some 14), .ld true 4 (.t 3) 0 0, [], none⟩,
    ⟨1, (some 15), .ld true 4 (.t 4) 0 0, [], none⟩,
    ⟨2, (some 16), .c (.call 252) [.t 14, .t 15], [], none⟩,
    ⟨3, (some 13), .p .mov [.t 16], [], none⟩,
    ⟨4, (some 17), .p (.ext 0) [.t 13], [], none⟩,
    ⟨5, (some 18), .p (.ext 1) [.t 13], [], none⟩,
    ⟨6, (some 8), .n (.alloc (.agg [.int .u64 0, .int .u64 0, .int .u64 0, .int .u64 0])) [] 0 0, [], none⟩,
    ⟨7, (some 9), .n (.alloc (.agg [.int .u64 0, .int .u64 0, .int .u64 0, .int .u64 0])) [] 0 0, [], none⟩,
    ⟨8, none, .c (.store 4) [.t 8, .t 17], [], none⟩,
    ⟨9, none, .c (.store 4) [.t 9, .t 18], [], none⟩])
   (.seq (.region false [
    ⟨0, (some 20), .ld true 4 (.t 8) 0 0, [], none⟩,
    ⟨1, (some 21), .ld true 4 (.t 9) 0 0, [], none⟩,
    ⟨2, (some 22), .ld true 4 (.t 5) 0 0, [], none⟩,
    ⟨3, (some 23), .c (.call 250) [.t 20, .t 21, .t 22], [], none⟩,
    ⟨4, (some 19), .p .mov [.t 23], [], none⟩,
    ⟨5, (some 24), .p (.ext 0) [.t 19], [], none⟩,
    ⟨6, (some 25), .p (.ext 1) [.t 19], [], none⟩,
    ⟨7, (some 26), .p (.ext 2) [.t 19], [], none⟩,
    ⟨8, (some 10), .n (.alloc (.agg [.int .u64 0, .int .u64 0, .int .u64 0, .int .u64 0])) [] 0 0, [], none⟩,
    ⟨9, (some 11), .n (.alloc (.agg [.int .u64 0, .int .u64 0, .int .u64 0, .int .u64 0])) [] 0 0, [], none⟩,
    ⟨10, none, .c (.store 4) [.t 10, .t 24], [], none⟩,
    ⟨11, none, .c (.store 4) [.t 11, .t 25], [], none⟩,
    ⟨12, (some 12), .p .mov [.t 26], [], none⟩])
   (.seq (.region false [
    ⟨0, (some 27), .ld true 4 (.t 10) 0 0, [], none⟩,
    ⟨1, (some 28), .p .mov [.t 12], [], none⟩,
    ⟨2, none, .c (.store 4) [.t 6, .t 27], [], none⟩,
    ⟨3, (some 7), .p .mov [.t 28], [], none⟩])
   (.ret))))⟩
def c239 : AFun := ⟨false, 24, [.cell 4 true 4, .tmp 5],
  .seq (.region false [
    ⟨0, (some 2), .n (.box 21) [.t 0] 0 0, [], none⟩,
    ⟨1, (some 4), .n (.alloc (.agg [.int .u64 0, .int .u64 0, .int .u64 0, .int .u64 0])) [] 0 0, [], none⟩,
    ⟨2, (some 5), .p .mov [.c (.int .i64 0)], [], none⟩])
   (.seq (.seq (.region false [
    ⟨0, (some 8), .p .mov [.t 1], [], none⟩,
    ⟨1, (some 9), .c (.call 159) [.t 2, .t 8], [], none⟩,
    ⟨2, (some 6), .p .mov [.t 9], [], none⟩])
   (.seq (.region false [
    ⟨0, (some 10), .p .mov [.t 6], [], none⟩,
    ⟨1, (some 11), .p (.eqp true) [.t 10, .c (.nilp)], [], none⟩])
   (.cond (.t 11) (.seq (.region false [
      ⟨0, (some 12), .p .mov [.t 6], [], none⟩,
      ⟨1, (some 13), .p .nilc [.t 12], [], none⟩,
      ⟨2, (some 14), .ld true 4 (.t 13) 0 0, [], none⟩,
      ⟨3, none, .c (.store 4) [.t 4, .t 14], [], none⟩,
      ⟨4, (some 5), .p .mov [.c (.int .i64 0)], [], none⟩])
     (.ret))
    (.skip))))
   (.seq (.seq (.region false [
    ⟨0, (some 15), .p .mov [.t 1], [], none⟩,
    ⟨1, (some 16), .c (.call 160) [.t 2, .t 15], [], none⟩,
    ⟨2, (some 7), .p .mov [.t 16], [], none⟩])
   (.seq (.region false [
    ⟨0, (some 17), .p .mov [.t 7], [], none⟩,
    ⟨1, (some 18), .p (.eqp true) [.t 17, .c (.nilp)], [], none⟩])
   (.cond (.t 18) (.seq (.region false [
      ⟨0, (some 19), .p .mov [.t 7], [], none⟩,
      ⟨1, (some 20), .p .nilc [.t 19], [], none⟩,
      ⟨2, (some 21), .ld false 1 (.t 20) 0 0, [], none⟩,
      ⟨3, (some 22), .c (.call 58) [.t 21], [], none⟩,
      ⟨4, none, .c (.store 4) [.t 4, .t 22], [], none⟩,
      ⟨5, (some 5), .p .mov [.c (.int .i64 0)], [], none⟩])
     (.ret))
    (.skip))))
   (.seq (.region false [
    ⟨0, (some 23), .p (.bld [.int .u64 0, .int .u64 0, .int .u64 0, .int .u64 0] []) [], [], none⟩,
    ⟨1, none, .c (.store 4) [.t 4, .t 23], [], none⟩,
    ⟨2, (some 5), .p .mov [.c (.int .i64 17)], [], none⟩])
   (.ret))))⟩
def c240 : AFun := ⟨false, 25, [.tmp 4, .tmp 5],
  .seq (.region false [
    ⟨0, (some 2), .n (.box 21) [.t 0] 0 0, [], none⟩,
    ⟨1, (some 4), .p .mov [.c (.int .u64 0)], [], none⟩,
    ⟨2, (some 5), .p .mov [.c (.int .u64 0)], [], none⟩])
   (.seq (.seq (.region false [
    ⟨0, (some 6), .p .mov [.t 1], [], none⟩])
   (.block 0 (.seq (.seq (.region false [
      ⟨0, (some 8), .p (.bin .eql) [.t 6, .c (.int .i64 1)], [], none⟩,
      ⟨1, (some 7), .p .mov [.t 8], [], none⟩])
     (.cond (.t 7) (.skip)
      (.seq (.region false [
        ⟨0, (some 9), .p (.bin .eql) [.t 6, .c (.int .i64 5)], [], none⟩,
        ⟨1, (some 7), .p .mov [.t 9], [], none⟩])
       (.cond (.t 7) (.skip)
        (.region false [
          ⟨0, (some 10), .p (.bin .eql) [.t 6, .c (.int .i64 9)], [], none⟩,
          ⟨1, (some 7), .p .mov [.t 10], [], none⟩])))))
     (.cond (.t 7) (.seq (.region false [
        ⟨0, (some 4), .p .mov [.c (.int .u64 1)], [], none⟩,
        ⟨1, (some 5), .p .mov [.c (.int .u64 1099511627776)], [], none⟩])
       (.ret))
      (.seq (.seq (.region false [
        ⟨0, (some 12), .p (.bin .eql) [.t 6, .c (.int .i64 2)], [], none⟩,
        ⟨1, (some 11), .p .mov [.t 12], [], none⟩])
       (.cond (.t 11) (.skip)
        (.region false [
          ⟨0, (some 13), .p (.bin .eql) [.t 6, .c (.int .i64 11)], [], none⟩,
          ⟨1, (some 11), .p .mov [.t 13], [], none⟩])))
       (.cond (.t 11) (.seq (.region false [
          ⟨0, (some 4), .p .mov [.c (.int .u64 0)], [], none⟩,
          ⟨1, (some 5), .p .mov [.c (.int .u64 1048576)], [], none⟩])
         (.ret))
        (.seq (.seq (.region false [
          ⟨0, (some 15), .p (.bin .eql) [.t 6, .c (.int .i64 3)], [], none⟩,
          ⟨1, (some 14), .p .mov [.t 15], [], none⟩])
         (.cond (.t 14) (.skip)
          (.region false [
            ⟨0, (some 16), .p (.bin .eql) [.t 6, .c (.int .i64 10)], [], none⟩,
            ⟨1, (some 14), .p .mov [.t 16], [], none⟩])))
         (.cond (.t 14) (.seq (.region false [
            ⟨0, (some 4), .p .mov [.c (.int .u64 1)], [], none⟩,
            ⟨1, (some 5), .p .mov [.c (.int .u64 1048576)], [], none⟩])
           (.ret))
          (.seq (.region false [
            ⟨0, (some 18), .p (.bin .eql) [.t 6, .c (.int .i64 4)], [], none⟩,
            ⟨1, (some 17), .p .mov [.t 18], [], none⟩])
           (.cond (.t 17) (.seq (.region false [
              ⟨0, (some 4), .p .mov [.c (.int .u64 1)], [], none⟩,
              ⟨1, (some 5), .p .mov [.c (.int .u64 18446744073709551615)], [], none⟩])
             (.ret))
            (.seq (.region false [
              ⟨0, (some 20), .p (.bin .eql) [.t 6, .c (.int .i64 7)], [], none⟩,
              ⟨1, (some 19), .p .mov [.t 20], [], none⟩])
             (.cond (.t 19) (.seq (.region false [
                ⟨0, (some 4), .p .mov [.c (.int .u64 0)], [], none⟩,
                ⟨1, (some 5), .p .mov [.c (.int .u64 10000)], [], none⟩])
               (.ret))
              (.seq (.region false [
                ⟨0, (some 22), .p (.bin .eql) [.t 6, .c (.int .i64 12)], [], none⟩,
                ⟨1, (some 21), .p .mov [.t 22], [], none⟩])
               (.cond (.t 21) (.seq (.region false [
                  ⟨0, (some 23), .p (.fld 19) [.t 2], [], none⟩,
                  ⟨1, (some 24), .ld false 1 (.t 23) 0 0, [], none⟩,
                  ⟨2, (some 4), .p .mov [.t 24], [], none⟩,
                  ⟨3, (some 5), .p .mov [.c (.int .u64 16777216)], [], none⟩])
                 (.ret))
                (.skip)))))))))))))))
   (.seq (.region false [
    ⟨0, (some 4), .p .mov [.c (.int .u64 0)], [], none⟩,
    ⟨1, (some 5), .p .mov [.c (.int .u64 18446744073709551615)], [], none⟩])
   (.ret)))⟩
def c250 : AFun := ⟨false, 62, [.cell 6 true 4, .cell 7 true 4, .tmp 8],
  .seq (.region false [
    ⟨0, (some 3), .n (.box 4) [.t 0] 0 0, [], none⟩,
    ⟨1, (some 4), .n (.box 4) [.t 1] 0 0, [], none⟩,
    ⟨2, (some 5), .n (.box 4) [.t 2] 0 0, [], none⟩,
    ⟨3, (some 6), .n (.alloc (.agg [.int .u64 0, .int .u64 0, .int .u64 0, .int .u64 0])) [] 0 0, [], none⟩,
    ⟨4, (some 7), .n (.alloc (.agg [.int .u64 0, .int .u64 0, .int .u64 0, .int .u64 0])) [] 0 0, [], none⟩,
    ⟨5, (some 8), .p .mov [.c (.int .i64 0)], [], none⟩])
   (.seq (.seq (.region false [
    ⟨0, (some 11), .ld true 4 (.t 5) 0 0, [], none⟩,
    ⟨1, (some 12), .p (.bld [.int .u64 0, .int .u64 0, .int .u64 0, .int .u64 0] []) [], [], none⟩,
    ⟨2, (some 13), .p (.eqa false [false, false, false, false]) [.t 11, .t 12], [], none⟩])
   (.cond (.t 13) (.seq (.region false [
      ⟨0, (some 14), .p (.bld [.int .u64 0, .int .u64 0, .int .u64 0, .int .u64 0] []) [], [], none⟩,
      ⟨1, (some 15), .p (.bld [.int .u64 0, .int .u64 0, .int .u64 0, .int .u64 0] []) [], [], none⟩,
      ⟨2, none, .c (.store 4) [.t 6, .t 14], [], none⟩,
      ⟨3, none, .c (.store 4) [.t 7, .t 15], [], none⟩,
      ⟨4, (some 8), .p .mov [.c (.int .i64 5)], [], none⟩])
     (.ret))
    (.skip)))
   (.seq (.seq (.region false [
    ⟨0, (some 16), .ld true 4 (.t 4) 0 0, [], none⟩,
    ⟨1, (some 17), .ld true 4 (.t 5) 0 0, [], none⟩,
    ⟨2, (some 18), .c (.call 182) [.t 16, .t 17], [], none⟩,
    ⟨3, (some 19), .p (.bin .geq) [.t 18, .c (.int .i64 0)], [], none⟩])
   (.cond (.t 19) (.seq (.region false [
      ⟨0, (some 20), .p (.bld [.int .u64 0, .int .u64 0, .int .u64 0, .int .u64 0] []) [], [], none⟩,
      ⟨1, (some 21), .p (.bld [.int .u64 0, .int .u64 0, .int .u64 0, .int .u64 0] []) [], [], none⟩,
      ⟨2, none, .c (.store 4) [.t 6, .t 20], [], none⟩,
      ⟨3, none, .c (.store 4) [.t 7, .t 21], [], none⟩,
      ⟨4, (some 8), .p .mov [.c (.int .i64 4)], [], none⟩])
     (.ret))
    (.skip)))
   (.seq (.region false [
    ⟨0, (some 22), .ld true 4 (.t 4) 0 0, [], none⟩,
    ⟨1, none, .c (.store 4) [.t 7, .t 22], [], none⟩])
   (.seq (.seq (.region false [
    ⟨0, (some 9), .p .mov [.c (.int .i64 255)], [], none⟩])
   (.block 0 (.loop [false, false, false, true, false, true, true, true, false, true] (.seq (.seq (.region false [
        ⟨0, (some 23), .p .mov [.t 9], [], none⟩,
        ⟨1, (some 24), .p (.bin .geq) [.t 23, .c (.int .i64 0)], [], none⟩])
       (.cond (.t 24) (.skip)
        (.exit 0)))
       (.seq (.block 1 (.seq (.region false [
          ⟨0, (some 10), .p .mov [.c (.int .u64 0)], [], none⟩])
         (.seq (.region true [
          ⟨0, (some 28), .ld true 4 (.t 7) 0 0, [], none⟩,
          ⟨1, (some 29), .p .mov [.t 9], [], none⟩,
          ⟨2, (some 30), .p (.bin .quo) [.t 29, .c (.int .i64 64)], [1], none⟩,
          ⟨3, (some 31), .p (.ixa 4 1) [.t 3, .t 30], [2], none⟩,
          ⟨4, (some 32), .ld false 1 (.t 31) 0 0, [3], none⟩,
          ⟨5, (some 33), .p .mov [.t 9], [], none⟩,
          ⟨6, (some 34), .p (.bin .rem) [.t 33, .c (.int .i64 64)], [5], none⟩,
          ⟨7, (some 35), .p (.bin .shr) [.t 32, .t 34], [4, 6], none⟩,
          ⟨8, (some 36), .p (.bin .and) [.t 35, .c (.int .u64 1)], [7], none⟩,
          ⟨9, (some 37), .c (.call 265) [.t 28, .t 36], [0, 8], none⟩,
          ⟨10, (some 27), .p .mov [.t 37], [9], none⟩,
          ⟨11, (some 38), .p (.ext 0) [.t 27], [10], none⟩,
          ⟨12, (some 39), .p (.ext 1) [.t 27], [10], none⟩,
          ⟨13, none, .c (.store 4) [.t 7, .t 38], [11, 9, 0, 1, 2, 3, 4, 5, 6, 7, 8, 10], none⟩,
          ⟨14, (some 10), .p .mov [.t 39], [12, 13, 0, 1, 2, 3, 4, 5, 6, 7, 8, 9, 10, 11], none⟩])
         (.seq (.region false [
          ⟨0, (some 40), .p .mov [.t 10], [], none⟩,
          ⟨1, (some 41), .p (.bin .eql) [.t 40, .c (.int .u64 1)], [], none⟩,
          ⟨2, (some 42), .p .mov [.t 41], [], none⟩,
          ⟨3, (some 43), .ld true 4 (.t 7) 0 0, [], (some (42, false))⟩,
          ⟨4, (some 44), .ld true 4 (.t 5) 0 0, [], (some (42, false))⟩,
          ⟨5, (some 45), .c (.call 182) [.t 43, .t 44], [], (some (42, false))⟩,
          ⟨6, (some 46), .p (.bin .geq) [.t 45, .c (.int .i64 0)], [], (some (42, false))⟩,
          ⟨7, (some 47), .p .pick [.t 42, .c (.bool true), .t 46], [], none⟩])
         (.cond (.t 47) (.seq (.region false [
            ⟨0, (some 48), .ld true 4 (.t 7) 0 0, [], none⟩,
            ⟨1, (some 49), .ld true 4 (.t 5) 0 0, [], none⟩,
            ⟨2, (some 50), .c (.call 266) [.t 48, .t 49], [], none⟩,
            ⟨3, none, .c (.store 4) [.t 7, .t 50], [], none⟩])
           (.region true [
            ⟨0, (some 51), .p .mov [.t 9], [], none⟩,
            ⟨1, (some 52), .p (.bin .quo) [.t 51, .c (.int .i64 64)], [0], none⟩,
            ⟨2, (some 53), .p (.ixa 4 1) [.t 6, .t 52], [1], none⟩,
            ⟨3, (some 54), .ld false 1 (.t 53) 0 0, [2], none⟩,
            ⟨4, (some 55), .p .mov [.t 9], [], none⟩,
            ⟨5, (some 56), .p (.bin .rem) [.t 55, .c (.int .i64 64)], [4], none⟩,
            ⟨6, (some 57), .p (.bin .shl) [.c (.int .u64 1), .t 56], [5], none⟩,
            ⟨7, (some 58), .p (.bin .or) [.t 54, .t 57], [3, 6], none⟩,
            ⟨8, (some 59), .p (.ixa 4 1) [.t 6, .t 52], [1, 0, 2, 3, 4, 5, 6, 7], none⟩,
            ⟨9, none, .c (.store 1) [.t 59, .t 58], [8, 7, 0, 1, 2, 3, 4, 5, 6], none⟩]))
          (.skip))))))
       (.region false [
        ⟨0, (some 25), .p .mov [.t 9], [], none⟩,
        ⟨1, (some 26), .p (.bin .sub) [.t 25, .c (.int .i64 1)], [], none⟩,
        ⟨2, (some 9), .p .mov [.t 26], [], none⟩]))))))
   (.seq (.region true [
    ⟨0, (some 60), .ld true 4 (.t 6) 0 0, [], none⟩,
    ⟨1, (some 61), .ld true 4 (.t 7) 0 1, [], none⟩,
    ⟨2, none, .c (.store 4) [.t 6, .t 60], [0], none⟩,
    ⟨3, none, .c (.store 4) [.t 7, .t 61], [1, 2, 0], none⟩,
    ⟨4, (some 8), .p .mov [.c (.int .i64 0)], [3, 0, 1, 2], none⟩])
   (.ret))))))⟩
def c252 : AFun := ⟨false, 69, [.cell 4 true 4, .cell 5 true 4],
  .seq (.region false [
    ⟨0, (some 2), .n (.box 4) [.t 0] 0 0, [], none⟩,
    ⟨1, (some 3), .n (.box 4) [.t 1] 0 0, [], none⟩,
    ⟨2, (some 4), .n (.alloc (.agg [.int .u64 0, .int .u64 0, .int .u64 0, .int .u64 0])) [] 0 0, [], none⟩,
    ⟨3, (some 5), .n (.alloc (.agg [.int .u64 0, .int .u64 0, .int .u64 0, .int .u64 0])) [] 0 0, [], none⟩])
   (.seq (.region false [
    ⟨0, (some 6), .n (.alloc (.agg [.int .u64 0, .int .u64 0, .int .u64 0, .int .u64 0, .int .u64 0, .int .u64 0, .int .u64 0, .int .u64 0])) [] 0 0, [], none⟩])
   (.seq (.seq (.region false [
    ⟨0, (some 13), .p .mov [.c (.int .i64 0)], [], none⟩])
   (.block 0 (.loop [false, false, true, true, true, true, true, false, false, false, false, false, false, true] (.seq (.region false [
        ⟨0, (some 14), .p (.bin .lss) [.t 13, .c (.int .i64 4)], [], none⟩])
       (.seq (.cond (.t 14) (.skip)
        (.exit 0))
       (.seq (.block 1 (.seq (.region false [
          ⟨0, (some 15), .p .mov [.t 13], [], none⟩,
          ⟨1, (some 7), .p .mov [.t 15], [], none⟩])
         (.seq (.region false [
          ⟨0, (some 8), .p .mov [.c (.int .u64 0)], [], none⟩])
         (.seq (.seq (.region false [
          ⟨0, (some 16), .p .mov [.c (.int .i64 0)], [], none⟩])
         (.block 2 (.loop [false, false, true, true, true, true, true, true, true, false, false, false, false, true, false, false, true] (.seq (.region false [
              ⟨0, (some 17), .p (.bin .lss) [.t 16, .c (.int .i64 4)], [], none⟩])
             (.seq (.cond (.t 17) (.skip)
              (.exit 2))
             (.seq (.block 3 (.seq (.region false [
                ⟨0, (some 18), .p .mov [.t 16], [], none⟩,
                ⟨1, (some 9), .p .mov [.t 18], [], none⟩])
               (.seq (.region true [
                ⟨0, (some 20), .p .mov [.t 7], [], none⟩,
                ⟨1, (some 21), .p (.ixa 4 1) [.t 2, .t 20], [0], none⟩,
                ⟨2, (some 22), .ld false 1 (.t 21) 0 0, [1], none⟩,
                ⟨3, (some 23), .p .mov [.t 9], [], none⟩,
                ⟨4, (some 24), .p (.ixa 4 1) [.t 3, .t 23], [3], none⟩,
                ⟨5, (some 25), .ld false 1 (.t 24) 0 0, [4], none⟩,
                ⟨6, (some 26), .c (.call 156) [.t 22, .t 25], [2, 5], none⟩,
                ⟨7, (some 19), .p .mov [.t 26], [6], none⟩,
                ⟨8, (some 27), .p (.ext 0) [.t 19], [7], none⟩,
                ⟨9, (some 28), .p (.ext 1) [.t 19], [7], none⟩,
                ⟨10, (some 10), .p .mov [.t 27], [8, 6, 0, 1, 2, 3, 4, 5, 7], none⟩,
                ⟨11, (some 11), .p .mov [.t 28], [9, 10, 0, 1, 2, 3, 4, 5, 6, 7, 8], none⟩])
               (.seq (.region false [
                ⟨0, (some 12), .p .mov [.c (.int .u64 0)], [], none⟩])
               (.seq (.region false [
                ⟨0, (some 30), .p .mov [.t 11], [], none⟩,
                ⟨1, (some 31), .p .mov [.t 8], [], none⟩,
                ⟨2, (some 32), .p .add64 [.t 30, .t 31, .c (.int .u64 0)], [], none⟩,
                ⟨3, (some 29), .p .mov [.t 32], [], none⟩,
                ⟨4, (some 33), .p (.ext 0) [.t 29], [], none⟩,
                ⟨5, (some 34), .p (.ext 1) [.t 29], [], none⟩,
                ⟨6, (some 11), .p .mov [.t 33], [], none⟩,
                ⟨7, (some 12), .p .mov [.t 34], [], none⟩])
               (.seq (.region false [
                ⟨0, (some 35), .p .mov [.t 10], [], none⟩,
                ⟨1, (some 36), .p .mov [.t 12], [], none⟩,
                ⟨2, (some 37), .p (.bin .add) [.t 35, .t 36], [], none⟩,
                ⟨3, (some 10), .p .mov [.t 37], [], none⟩])
               (.seq (.region false [
                ⟨0, (some 39), .p .mov [.t 7], [], none⟩,
                ⟨1, (some 40), .p .mov [.t 9], [], none⟩,
                ⟨2, (some 41), .p (.bin .add) [.t 39, .t 40], [], none⟩,
                ⟨3, (some 42), .p .mov [.t 7], [], none⟩,
                ⟨4, (some 43), .p .mov [.t 9], [], none⟩,
                ⟨5, (some 44), .p (.bin .add) [.t 42, .t 43], [], none⟩,
                ⟨6, (some 45), .p (.ixa 8 1) [.t 6, .t 44], [], none⟩,
                ⟨7, (some 46), .ld false 1 (.t 45) 0 0, [], none⟩,
                ⟨8, (some 47), .p .mov [.t 11], [], none⟩,
                ⟨9, (some 48), .p .add64 [.t 46, .t 47, .c (.int .u64 0)], [], none⟩,
                ⟨10, (some 38), .p .mov [.t 48], [], none⟩,
                ⟨11, (some 49), .p (.ext 0) [.t 38], [], none⟩,
                ⟨12, (some 50), .p (.ext 1) [.t 38], [], none⟩,
                ⟨13, (some 51), .p (.ixa 8 1) [.t 6, .t 41], [], none⟩,
                ⟨14, none, .c (.store 1) [.t 51, .t 49], [], none⟩,
                ⟨15, (some 12), .p .mov [.t 50], [], none⟩])
               (.region false [
                ⟨0, (some 52), .p .mov [.t 10], [], none⟩,
                ⟨1, (some 53), .p .mov [.t 12], [], none⟩,
                ⟨2, (some 54), .p (.bin .add) [.t 52, .t 53], [], none⟩,
                ⟨3, (some 8), .p .mov [.t 54], [], none⟩]))))))))
             (.region false [
              ⟨0, (some 55), .p (.bin .add) [.t 16, .c (.int .i64 1)], [], none⟩,
              ⟨1, (some 16), .p .mov [.t 55], [], none⟩])))))))
         (.region false [
          ⟨0, (some 56), .p .mov [.t 7], [], none⟩,
          ⟨1, (some 57), .p (.bin .add) [.t 56, .c (.int .i64 4)], [], none⟩,
          ⟨2, (some 58), .p .mov [.t 8], [], none⟩,
          ⟨3, (some 59), .p (.ixa 8 1) [.t 6, .t 57], [], none⟩,
          ⟨4, none, .c (.store 1) [.t 59, .t 58], [], none⟩])))))
       (.region false [
        ⟨0, (some 60), .p (.bin .add) [.t 13, .c (.int .i64 1)], [], none⟩,
        ⟨1, (some 13), .p .mov [.t 60], [], none⟩])))))))
   (.seq (.region true [
    ⟨0, (some 61), .p (.slar 4 1 false false false) [.t 4], [], none⟩,
    ⟨1, (some 62), .p (.slar 8 1 false false true) [.t 6, .c (.int .i64 4)], [], none⟩,
    ⟨2, (some 63), .c (.copy 1) [.t 61, .t 62], [0, 1], none⟩])
   (.seq (.region true [
    ⟨0, (some 64), .p (.slar 4 1 false false false) [.t 5], [], none⟩,
    ⟨1, (some 65), .p (.slar 8 1 false true false) [.t 6, .c (.int .i64 4)], [], none⟩,
    ⟨2, (some 66), .c (.copy 1) [.t 64, .t 65], [0, 1], none⟩])
   (.seq (.region false [
    ⟨0, (some 67), .ld true 4 (.t 4) 0 0, [], none⟩,
    ⟨1, (some 68), .ld true 4 (.t 5) 0 0, [], none⟩,
    ⟨2, none, .c (.store 4) [.t 4, .t 67], [], none⟩,
    ⟨3, none, .c (.store 4) [.t 5, .t 68], [], none⟩])
   (.ret))))))⟩
def c265 : AFun := ⟨false, 35, [.cell 4 true 4, .tmp 5],
  .seq (.region false [
    ⟨0, (some 2), .n (.box 4) [.t 0] 0 0, [], none⟩,
    ⟨1, (some 4), .n (.alloc (.agg [.int .u64 0, .int .u64 0, .int .u64 0, .int .u64 0])) [] 0 0, [], none⟩,
    ⟨2, (some 5), .p .mov [.c (.int .u64 0)], [], none⟩])
   (.seq (.region false [
    ⟨0, (some 8), .p (.ixa 4 1) [.t 2, .c (.int .i64 3)], [], none⟩,
    ⟨1, (some 9), .ld false 1 (.t 8) 0 0, [], none⟩,
    ⟨2, (some 10), .p (.bin .shr) [.t 9, .c (.int .u64 63)], [], none⟩,
    ⟨3, (some 6), .p .mov [.t 10], [], none⟩])
   (.seq (.seq (.region false [
    ⟨0, (some 7), .p .mov [.c (.int .i64 3)], [], none⟩])
   (.block 0 (.loop [false, true, true, false, true, false, true, true] (.seq (.seq (.region false [
        ⟨0, (some 11), .p .mov [.t 7], [], none⟩,
        ⟨1, (some 12), .p (.bin .gtr) [.t 11, .c (.int .i64 0)], [], none⟩])
       (.cond (.t 12) (.skip)
        (.exit 0)))
       (.seq (.block 1 (.region true [
          ⟨0, (some 15), .p .mov [.t 7], [], none⟩,
          ⟨1, (some 16), .p .mov [.t 7], [], none⟩,
          ⟨2, (some 17), .p (.ixa 4 1) [.t 2, .t 16], [1], none⟩,
          ⟨3, (some 18), .ld false 1 (.t 17) 0 0, [2], none⟩,
          ⟨4, (some 19), .p (.bin .shl) [.t 18, .c (.int .u64 1)], [3], none⟩,
          ⟨5, (some 20), .p .mov [.t 7], [], none⟩,
          ⟨6, (some 21), .p (.bin .sub) [.t 20, .c (.int .i64 1)], [5], none⟩,
          ⟨7, (some 22), .p (.ixa 4 1) [.t 2, .t 21], [6], none⟩,
          ⟨8, (some 23), .ld false 1 (.t 22) 0 0, [7], none⟩,
          ⟨9, (some 24), .p (.bin .shr) [.t 23, .c (.int .u64 63)], [8], none⟩,
          ⟨10, (some 25), .p (.bin .or) [.t 19, .t 24], [4, 9], none⟩,
          ⟨11, (some 26), .p (.ixa 4 1) [.t 2, .t 15], [0, 1, 2, 3, 4, 5, 6, 7, 8, 9, 10], none⟩,
          ⟨12, none, .c (.store 1) [.t 26, .t 25], [11, 10, 0, 1, 2, 3, 4, 5, 6, 7, 8, 9], none⟩]))
       (.region false [
        ⟨0, (some 13), .p .mov [.t 7], [], none⟩,
        ⟨1, (some 14), .p (.bin .sub) [.t 13, .c (.int .i64 1)], [], none⟩,
        ⟨2, (some 7), .p .mov [.t 14], [], none⟩]))))))
   (.seq (.region false [
    ⟨0, (some 27), .p (.ixa 4 1) [.t 2, .c (.int .i64 0)], [], none⟩,
    ⟨1, (some 28), .ld false 1 (.t 27) 0 0, [], none⟩,
    ⟨2, (some 29), .p (.bin .shl) [.t 28, .c (.int .u64 1)], [], none⟩,
    ⟨3, (some 30), .p .mov [.t 1], [], none⟩,
    ⟨4, (some 31), .p (.bin .or) [.t 29, .t 30], [], none⟩,
    ⟨5, (some 32), .p (.ixa 4 1) [.t 2, .c (.int .i64 0)], [], none⟩,
    ⟨6, none, .c (.store 1) [.t 32, .t 31], [], none⟩])
   (.seq (.region false [
    ⟨0, (some 33), .ld true 4 (.t 2) 0 0, [], none⟩,
    ⟨1, (some 34), .p .mov [.t 6], [], none⟩,
    ⟨2, none, .c (.store 4) [.t 4, .t 33], [], none⟩,
    ⟨3, (some 5), .p .mov [.t 34], [], none⟩])
   (.ret)))))⟩
def c266 : AFun := ⟨false, 25, [.cell 4 true 4],
  .seq (.region false [
    ⟨0, (some 2), .n (.box 4) [.t 0] 0 0, [], none⟩,
    ⟨1, (some 3), .n (.box 4) [.t 1] 0 0, [], none⟩,
    ⟨2, (some 4), .n (.alloc (.agg [.int .u64 0, .int .u64 0, .int .u64 0, .int .u64 0])) [] 0 0, [], none⟩])
   (.seq (.region false [
    ⟨0, (some 5), .p .mov [.c (.int .u64 0)], [], none⟩])
   (.seq (.seq (.region false [
    ⟨0, (some 7), .p .mov [.c (.int .i64 0)], [], none⟩])
   (.block 0 (.loop [false, false, true, true, true, true, false, true] (.seq (.region false [
        ⟨0, (some 8), .p (.bin .lss) [.t 7, .c (.int .i64 4)], [], none⟩])
       (.seq (.cond (.t 8) (.skip)
        (.exit 0))
       (.seq (.block 1 (.seq (.region false [
          ⟨0, (some 9), .p .mov [.t 7], [], none⟩,
          ⟨1, (some 6), .p .mov [.t 9], [], none⟩])
         (.region true [
          ⟨0, (some 11), .p .mov [.t 6], [], none⟩,
          ⟨1, (some 12), .p .mov [.t 6], [], none⟩,
          ⟨2, (some 13), .p (.ixa 4 1) [.t 2, .t 12], [1], none⟩,
          ⟨3, (some 14), .ld false 1 (.t 13) 0 0, [2], none⟩,
          ⟨4, (some 15), .p .mov [.t 6], [], none⟩,
          ⟨5, (some 16), .p (.ixa 4 1) [.t 3, .t 15], [4], none⟩,
          ⟨6, (some 17), .ld false 1 (.t 16) 0 0, [5], none⟩,
          ⟨7, (some 18), .p .mov [.t 5], [], none⟩,
          ⟨8, (some 19), .p .sub64 [.t 14, .t 17, .t 18], [3, 6, 7], none⟩,
          ⟨9, (some 10), .p .mov [.t 19], [8], none⟩,
          ⟨10, (some 20), .p (.ext 0) [.t 10], [9], none⟩,
          ⟨11, (some 21), .p (.ext 1) [.t 10], [9], none⟩,
          ⟨12, (some 22), .p (.ixa 4 1) [.t 2, .t 11], [0, 1, 2, 3, 4, 5, 6, 7, 8, 9, 10], none⟩,
          ⟨13, none, .c (.store 1) [.t 22, .t 20], [12, 10, 8, 0, 1, 2, 3, 4, 5, 6, 7, 9], none⟩,
          ⟨14, (some 5), .p .mov [.t 21], [11, 13, 0, 1, 2, 3, 4, 5, 6, 7, 8, 9, 10, 12], none⟩])))
       (.region false [
        ⟨0, (some 23), .p (.bin .add) [.t 7, .c (.int .i64 1)], [], none⟩,
        ⟨1, (some 7), .p .mov [.t 23], [], none⟩])))))))
   (.seq (.region false [
    ⟨0, (some 24), .ld true 4 (.t 2) 0 0, [], none⟩,
    ⟨1, none, .c (.store 4) [.t 4, .t 24], [], none⟩])
   (.ret))))⟩
end Go.PV
