/- The code of functions, as the evaluator has it: printed by gen.py out of the program. -/
import Derived.Test.YtdaalannljjkjaaGreatEv
set_option maxRecDepth 100000
namespace Go.PV
def c265_l0 : ACode :=
  .seq (.seq (.region false [
    ⟨0, (some 11), .p .mov [.t 7], [], none⟩,
    ⟨1, (some 12), .p (.bin .gtr) [.t 11, .c (.int .i64 0)], [], none⟩])
   (.cond (.t 12) (.skip)
    (.exit 0)))
   (.seq (.block 1 (.region true [
      ⟨0, (some 15), .p .mov [.t 7], [], none⟩,
      ⟨1, (some 16), .p .mov [.t 7], [], none⟩,
      ⟨2, (some 17), .p (.ixa 4 1) [.t 2, .t 16], [1], none⟩,
      ⟨3, (some 18), .ld false 1 (.t 17) 0 0, [2], none⟩,
      ⟨4, (some 19), .p (.bin .shl) [.t 18, .c (.int .u64 1)], [3], none⟩,
      ⟨5, (some 20), .p .mov [.t 7], [], none⟩,
      ⟨6, (some 21), .p (.bin .sub) [.t 20, .c (.int .i64 1)], [5], none⟩,
      ⟨7, (some 22), .p (.ixa 4 1) [.t 2, .t 21], [6], none⟩,
      ⟨8, (some 23), .ld false 1 (.t 22) 0 0, [7], none⟩,
      ⟨9, (some 24), .p (.bin .shr) [.t 23, .c (.int .u64 63)], [8], none⟩,
      ⟨10, (some 25), .p (.bin .or) [.t 19, .t 24], [4, 9], none⟩,
      ⟨11, (some 26), .p (.ixa 4 1) [.t 2, .t 15], [0, 1, 2, 3, 4, 5, 6, 7, 8, 9, 10], none⟩,
      ⟨12, none, .c (.store 1) [.t 26, .t 25], [11, 10, 0, 1, 2, 3, 4, 5, 6, 7, 8, 9], none⟩]))
   (.region false [
    ⟨0, (some 13), .p .mov [.t 7], [], none⟩,
    ⟨1, (some 14), .p (.bin .sub) [.t 13, .c (.int .i64 1)], [], none⟩,
    ⟨2, (some 7), .p .mov [.t 14], [], none⟩]))
def c265 : AFun := ⟨false, 35, [.cell 4 true 4, .tmp 5],
  .seq (.region false [
    ⟨0, (some 2), .n (.box 4) [.t 0] 0 0, [], none⟩,
    ⟨1, (some 4), .n (.alloc (.agg [.int .u64 0, .int .u64 0, .int .u64 0, .int .u64 0])) [] 0 0, [], none⟩,
    ⟨2, (some 5), .p .mov [.c (.int .u64 0)], [], none⟩])
   (.seq (.region false [
    ⟨0, (some 8), .p (.ixa 4 1) [.t 2, .c (.int .i64 3)], [], none⟩,
    ⟨1, (some 9), .ld false 1 (.t 8) 0 0, [], none⟩,
    ⟨2, (some 10), .p (.bin .shr) [.t 9, .c (.int .u64 63)], [], none⟩,
    ⟨3, (some 6), .p .mov [.t 10], [], none⟩])
   (.seq (.seq (.region false [
    ⟨0, (some 7), .p .mov [.c (.int .i64 3)], [], none⟩])
   (.block 0 (.loop [false, true, true, false, true, false, true, true] c265_l0)))
   (.seq (.region false [
    ⟨0, (some 27), .p (.ixa 4 1) [.t 2, .c (.int .i64 0)], [], none⟩,
    ⟨1, (some 28), .ld false 1 (.t 27) 0 0, [], none⟩,
    ⟨2, (some 29), .p (.bin .shl) [.t 28, .c (.int .u64 1)], [], none⟩,
    ⟨3, (some 30), .p .mov [.t 1], [], none⟩,
    ⟨4, (some 31), .p (.bin .or) [.t 29, .t 30], [], none⟩,
    ⟨5, (some 32), .p (.ixa 4 1) [.t 2, .c (.int .i64 0)], [], none⟩,
    ⟨6, none, .c (.store 1) [.t 32, .t 31], [], none⟩])
   (.seq (.region false [
    ⟨0, (some 33), .ld true 4 (.t 2) 0 0, [], none⟩,
    ⟨1, (some 34), .p .mov [.t 6], [], none⟩,
    ⟨2, none, .c (.store 4) [.t 4, .t 33], [], none⟩,
    ⟨3, (some 5), .p .mov [.t 34], [], none⟩])
   (.ret)))))⟩
def c266_l0 : ACode :=
  .seq (.region false [
    ⟨0, (some 8), .p (.bin .lss) [.t 7, .c (.int .i64 4)], [], none⟩])
   (.seq (.cond (.t 8) (.skip)
    (.exit 0))
   (.seq (.block 1 (.seq (.region false [
      ⟨0, (some 9), .p .mov [.t 7], [], none⟩,
      ⟨1, (some 6), .p .mov [.t 9], [], none⟩])
     (.region true [
      ⟨0, (some 11), .p .mov [.t 6], [], none⟩,
      ⟨1, (some 12), .p .mov [.t 6], [], none⟩,
      ⟨2, (some 13), .p (.ixa 4 1) [.t 2, .t 12], [1], none⟩,
      ⟨3, (some 14), .ld false 1 (.t 13) 0 0, [2], none⟩,
      ⟨4, (some 15), .p .mov [.t 6], [], none⟩,
      ⟨5, (some 16), .p (.ixa 4 1) [.t 3, .t 15], [4], none⟩,
      ⟨6, (some 17), .ld false 1 (.t 16) 0 0, [5], none⟩,
      ⟨7, (some 18), .p .mov [.t 5], [], none⟩,
      ⟨8, (some 19), .p .sub64 [.t 14, .t 17, .t 18], [3, 6, 7], none⟩,
      ⟨9, (some 10), .p .mov [.t 19], [8], none⟩,
      ⟨10, (some 20), .p (.ext 0) [.t 10], [9], none⟩,
      ⟨11, (some 21), .p (.ext 1) [.t 10], [9], none⟩,
      ⟨12, (some 22), .p (.ixa 4 1) [.t 2, .t 11], [0, 1, 2, 3, 4, 5, 6, 7, 8, 9, 10], none⟩,
      ⟨13, none, .c (.store 1) [.t 22, .t 20], [12, 10, 8, 0, 1, 2, 3, 4, 5, 6, 7, 9], none⟩,
      ⟨14, (some 5), .p .mov [.t 21], [11, 13, 0, 1, 2, 3, 4, 5, 6, 7, 8, 9, 10, 12], none⟩])))
   (.region false [
    ⟨0, (some 23), .p (.bin .add) [.t 7, .c (.int .i64 1)], [], none⟩,
    ⟨1, (some 7), .p .mov [.t 23], [], none⟩])))
def c266 : AFun := ⟨false, 25, [.cell 4 true 4],
  .seq (.region false [
    ⟨0, (some 2), .n (.box 4) [.t 0] 0 0, [], none⟩,
    ⟨1, (some 3), .n (.box 4) [.t 1] 0 0, [], none⟩,
    ⟨2, (some 4), .n (.alloc (.agg [.int .u64 0, .int .u64 0, .int .u64 0, .int .u64 0])) [] 0 0, [], none⟩])
   (.seq (.region false [
    ⟨0, (some 5), .p .mov [.c (.int .u64 0)], [], none⟩])
   (.seq (.seq (.region false [
    ⟨0, (some 7), .p .mov [.c (.int .i64 0)], [], none⟩])
   (.block 0 (.loop [false, false, true, true, true, true, false, true] c266_l0)))
   (.seq (.region false [
    ⟨0, (some 24), .ld true 4 (.t 2) 0 0, [], none⟩,
    ⟨1, none, .c (.store 4) [.t 4, .t 24], [], none⟩])
   (.ret))))⟩
end Go.PV
