/- The code of functions, as the evaluator has it: printed by gen.py out of the program. -/
import Derived.Test.YtdaalannljjkjaaGreatEv
set_option maxRecDepth 100000
namespace Go.PV
def c3_l0 : ACode :=
  .seq (.region false [
    ⟨0, (some 38), .p (.bin .lss) [.t 37, .c (.int .i64 2)], [], none⟩])
   (.seq (.cond (.t 38) (.skip)
    (.exit 0))
   (.seq (.block 1 (.seq (.region false [
      ⟨0, (some 39), .p (.ixv 2 false 1) [.t 36, .t 37], [], none⟩,
      ⟨1, (some 11), .p .mov [.t 39], [], none⟩])
     (.seq (.region false [
      ⟨0, (some 41), .p .mov [.t 11], [], none⟩,
      ⟨1, (some 42), .c (.call 10) [.t 41], [], none⟩,
      ⟨2, (some 40), .p .mov [.t 42], [], none⟩,
      ⟨3, (some 43), .p (.ext 0) [.t 40], [], none⟩,
      ⟨4, (some 44), .p (.ext 1) [.t 40], [], none⟩,
      ⟨5, (some 12), .p .mov [.t 43], [], none⟩,
      ⟨6, (some 13), .p .mov [.t 44], [], none⟩])
     (.seq (.seq (.region false [
      ⟨0, (some 45), .p .mov [.t 13], [], none⟩,
      ⟨1, (some 46), .p (.bin .neq) [.t 45, .c (.int .i64 0)], [], none⟩])
     (.cond (.t 46) (.seq (.seq (.region false [
        ⟨0, (some 47), .p .mov [.t 13], [], none⟩,
        ⟨1, (some 48), .p (.bin .neq) [.t 47, .c (.int .i64 3)], [], none⟩,
        ⟨2, (some 49), .p .mov [.t 48], [], none⟩,
        ⟨3, (some 50), .p .mov [.t 12], [], (some (49, false))⟩,
        ⟨4, (some 51), .p .len [.t 50], [], (some (49, false))⟩,
        ⟨5, (some 52), .p (.bin .gtr) [.t 51, .c (.int .i64 0)], [], (some (49, false))⟩,
        ⟨6, (some 53), .p .pick [.t 49, .c (.bool true), .t 52], [], none⟩,
        ⟨7, (some 54), .p .mov [.t 53], [], none⟩,
        ⟨8, (some 55), .p .mov [.t 11], [], (some (54, false))⟩,
        ⟨9, (some 56), .c (.call 11) [.t 55], [], (some (54, false))⟩,
        ⟨10, (some 57), .p .pick [.t 54, .c (.bool true), .t 56], [], none⟩])
       (.cond (.t 57) (.seq (.region false [
          ⟨0, (some 8), .p .mov [.c (.bool false)], [], none⟩])
         (.ret))
        (.skip)))
       (.exit 1))
      (.skip)))
     (.seq (.region false [
      ⟨0, (some 58), .p .mov [.t 12], [], none⟩,
      ⟨1, (some 59), .c (.call 8) [.t 58], [], none⟩,
      ⟨2, (some 60), .p .mov [.t 11], [], none⟩,
      ⟨3, (some 61), .c (.call 12) [.t 59, .t 60], [], none⟩,
      ⟨4, (some 62), .p (.un .not) [.t 61], [], none⟩])
     (.cond (.t 62) (.seq (.region false [
        ⟨0, (some 8), .p .mov [.c (.bool false)], [], none⟩])
       (.ret))
      (.skip)))))))
   (.region false [
    ⟨0, (some 63), .p (.bin .add) [.t 37, .c (.int .i64 1)], [], none⟩,
    ⟨1, (some 37), .p .mov [.t 63], [], none⟩])))
def c3 : AFun := ⟨false, 65, [.tmp 8],
  .seq (.region false [
    ⟨0, (some 8), .p .mov [.c (.bool false)], [], none⟩])
   (.seq (.seq (.region false [
    ⟨0, (some 14), .p .mov [.t 0], [], none⟩,
    ⟨1, (some 15), .p .len [.t 14], [], none⟩,
    ⟨2, (some 16), .p (.bin .gtr) [.t 15, .c (.int .i64 600)], [], none⟩,
    ⟨3, (some 17), .p .mov [.t 16], [], none⟩,
    ⟨4, (some 18), .p .mov [.t 1], [], (some (17, false))⟩,
    ⟨5, (some 19), .c (.call 6) [.t 18], [], (some (17, false))⟩,
    ⟨6, (some 20), .p .pick [.t 17, .c (.bool true), .t 19], [], none⟩])
   (.cond (.t 20) (.seq (.region false [
      ⟨0, (some 21), .c (.call 7) [], [], none⟩,
      ⟨1, (some 8), .p .mov [.t 21], [], none⟩])
     (.ret))
    (.skip)))
   (.seq (.region false [
    ⟨0, (some 22), .p .mov [.t 1], [], none⟩,
    ⟨1, (some 23), .c (.call 8) [.t 22], [], none⟩,
    ⟨2, (some 9), .p .mov [.t 23], [], none⟩])
   (.seq (.seq (.region false [
    ⟨0, (some 24), .p .mov [.t 9], [], none⟩,
    ⟨1, (some 25), .p .len [.t 24], [], none⟩,
    ⟨2, (some 26), .p (.bin .gtr) [.t 25, .c (.int .i64 0)], [], none⟩])
   (.cond (.t 26) (.region false [
      ⟨0, (some 27), .p .mov [.t 9], [], none⟩,
      ⟨1, (some 28), .p .mov [.t 2], [], none⟩,
      ⟨2, (some 29), .p .mov [.t 9], [], none⟩,
      ⟨3, (some 30), .p .len [.t 29], [], none⟩,
      ⟨4, (some 31), .c (.call 9) [.t 28, .t 30], [], none⟩,
      ⟨5, (some 32), .p .mov [.t 3], [], none⟩,
      ⟨6, (some 33), .p (.ixs 1) [.t 27, .t 31], [], none⟩,
      ⟨7, none, .c (.store 1) [.t 33, .t 32], [], none⟩])
    (.skip)))
   (.seq (.seq (.hint (.freeze 9) (.region false [
    ⟨0, (some 34), .p .mov [.t 0], [], none⟩,
    ⟨1, (some 35), .p .mov [.t 9], [], none⟩,
    ⟨2, (some 36), .p (.bld [.sl 1 .nil [], .sl 1 .nil []] [(0, 1), (1, 1)]) [.t 34, .t 35], [], none⟩,
    ⟨3, (some 37), .p .mov [.c (.int .i64 0)], [], none⟩]))
   (.block 0 (.loop [false, false, false, false, false, false, false, false, false, false, false, false, false, false, false, false, false, false, false, false, false, false, false, false, false, false, false, false, false, false, false, false, false, false, false, false, true, true] c3_l0)))
   (.seq (.region false [
    ⟨0, (some 64), .c (.call 7) [], [], none⟩,
    ⟨1, (some 8), .p .mov [.t 64], [], none⟩])
   (.ret))))))⟩
def c4 : AFun := ⟨false, 32, [.tmp 2],
  .seq (.region false [
    ⟨0, (some 2), .p .mov [.c (.bool false)], [], none⟩])
   (.seq (.seq (.region false [
    ⟨0, (some 6), .p .mov [.t 0], [], none⟩,
    ⟨1, (some 7), .c (.call 6) [.t 6], [], none⟩])
   (.cond (.t 7) (.seq (.region false [
      ⟨0, (some 8), .c (.call 7) [], [], none⟩,
      ⟨1, (some 2), .p .mov [.t 8], [], none⟩])
     (.ret))
    (.skip)))
   (.seq (.region false [
    ⟨0, (some 9), .p .mov [.t 0], [], none⟩,
    ⟨1, (some 10), .c (.call 13) [.t 9], [], none⟩,
    ⟨2, (some 3), .p .mov [.t 10], [], none⟩])
   (.seq (.hint (.freeze 3) (.region false [
    ⟨0, (some 12), .p .mov [.t 3], [], none⟩,
    ⟨1, (some 13), .c (.call 10) [.t 12], [], none⟩,
    ⟨2, (some 11), .p .mov [.t 13], [], none⟩,
    ⟨3, (some 14), .p (.ext 0) [.t 11], [], none⟩,
    ⟨4, (some 15), .p (.ext 1) [.t 11], [], none⟩,
    ⟨5, (some 4), .p .mov [.t 14], [], none⟩,
    ⟨6, (some 5), .p .mov [.t 15], [], none⟩]))
   (.seq (.region false [
    ⟨0, (some 16), .p .mov [.t 3], [], none⟩,
    ⟨1, (some 17), .p .mov [.t 0], [], none⟩,
    ⟨2, (some 18), .c (.call 8) [.t 17], [], none⟩,
    ⟨3, (some 19), .c (.call 12) [.t 16, .t 18], [], none⟩,
    ⟨4, (some 20), .p .mov [.t 19], [], none⟩,
    ⟨5, (some 21), .p .mov [.t 4], [], (some (20, true))⟩,
    ⟨6, (some 22), .p .mov [.t 0], [], (some (20, true))⟩,
    ⟨7, (some 23), .c (.call 14) [.t 21, .t 22], [], (some (20, true))⟩,
    ⟨8, (some 24), .p .pick [.t 20, .t 23, .c (.bool false)], [], none⟩,
    ⟨9, (some 25), .p .mov [.t 24], [], none⟩,
    ⟨10, (some 26), .p .mov [.t 5], [], (some (25, true))⟩,
    ⟨11, (some 27), .p (.bin .eql) [.t 26, .c (.int .i64 0)], [], (some (25, true))⟩,
    ⟨12, (some 28), .p .pick [.t 25, .t 27, .c (.bool false)], [], none⟩,
    ⟨13, (some 29), .p .mov [.t 28], [], none⟩,
    ⟨14, (some 30), .c (.call 7) [], [], (some (29, true))⟩,
    ⟨15, (some 31), .p .pick [.t 29, .t 30, .c (.bool false)], [], none⟩,
    ⟨16, (some 2), .p .mov [.t 31], [], none⟩])
   (.ret)))))⟩
def c6_l0 : ACode :=
  .seq (.seq (.region false [
    ⟨0, (some 5), .p .mov [.t 4], [], none⟩,
    ⟨1, (some 6), .p .mov [.t 0], [], none⟩,
    ⟨2, (some 7), .p .len [.t 6], [], none⟩,
    ⟨3, (some 8), .p (.bin .lss) [.t 5, .t 7], [], none⟩])
   (.cond (.t 8) (.skip)
    (.exit 0)))
   (.seq (.block 1 (.region false [
      ⟨0, (some 11), .p .mov [.t 3], [], none⟩,
      ⟨1, (some 12), .p .mov [.t 0], [], none⟩,
      ⟨2, (some 13), .p .mov [.t 4], [], none⟩,
      ⟨3, (some 14), .p (.ixs 1) [.t 12, .t 13], [], none⟩,
      ⟨4, (some 15), .ld false 1 (.t 14) 0 0, [], none⟩,
      ⟨5, (some 16), .p .len [.t 15], [], none⟩,
      ⟨6, (some 17), .p (.bin .add) [.t 11, .t 16], [], none⟩,
      ⟨7, (some 18), .p (.bin .add) [.t 17, .c (.int .i64 1)], [], none⟩,
      ⟨8, (some 3), .p .mov [.t 18], [], none⟩]))
   (.region false [
    ⟨0, (some 9), .p .mov [.t 4], [], none⟩,
    ⟨1, (some 10), .p (.bin .add) [.t 9, .c (.int .i64 1)], [], none⟩,
    ⟨2, (some 4), .p .mov [.t 10], [], none⟩]))
def c6 : AFun := ⟨false, 21, [.tmp 2],
  .seq (.region false [
    ⟨0, (some 2), .p .mov [.c (.bool false)], [], none⟩])
   (.seq (.region false [
    ⟨0, (some 3), .p .mov [.c (.int .i64 0)], [], none⟩])
   (.seq (.seq (.region false [
    ⟨0, (some 4), .p .mov [.c (.int .i64 0)], [], none⟩])
   (.block 0 (.loop [true, false, false, true, true] c6_l0)))
   (.seq (.region false [
    ⟨0, (some 19), .p .mov [.t 3], [], none⟩,
    ⟨1, (some 20), .p (.bin .gtr) [.t 19, .c (.int .i64 3000)], [], none⟩,
    ⟨2, (some 2), .p .mov [.t 20], [], none⟩])
   (.ret))))⟩
def c7 : AFun := ⟨false, 32, [.tmp 0],
  .seq (.region false [
    ⟨0, (some 0), .p .mov [.c (.bool false)], [], none⟩])
   (.seq (.region false [
    ⟨0, (some 6), .n (.bsl 1 (.int .u8 0) 1 [0]) [.c (.int .u8 1)] 0 0, [], none⟩,
    ⟨1, (some 7), .c (.call 10) [.t 6], [], none⟩,
    ⟨2, (some 5), .p .mov [.t 7], [], none⟩,
    ⟨3, (some 8), .p (.ext 0) [.t 5], [], none⟩,
    ⟨4, (some 9), .p (.ext 1) [.t 5], [], none⟩,
    ⟨5, (some 1), .p .mov [.t 8], [], none⟩,
    ⟨6, (some 2), .p .mov [.t 9], [], none⟩])
   (.seq (.region false [
    ⟨0, (some 11), .c (.call 23) [.c (.sl 1 .nil [])], [], none⟩,
    ⟨1, (some 10), .p .mov [.t 11], [], none⟩,
    ⟨2, (some 12), .p (.ext 0) [.t 10], [], none⟩,
    ⟨3, (some 13), .p (.ext 1) [.t 10], [], none⟩,
    ⟨4, (some 4), .n (.alloc (.agg [.int .u64 0, .int .u64 0, .int .u64 0, .int .u64 0, .int .u64 0, .int .u64 0, .int .u64 0, .int .u64 0, .int .u64 0, .int .u64 0, .int .u64 0, .int .u64 0, .int .u64 0, .int .u64 0, .int .u64 0, .int .u64 0, .int .u64 0, .int .u64 0, .int .u64 0, .int .u64 0, .int .u64 0, .int .u64 0, .int .u64 0, .int .u64 0, .int .u64 0, .int .u64 0, .int .u64 0, .int .u64 0, .int .u64 0, .int .u64 0, .int .u64 0, .int .u64 0, .int .u64 0, .int .u64 0, .int .u64 0, .int .u64 0, .int .u64 0, .bool false, .int .u64 0, .int .u64 0, .int .u64 0, .int .u64 0, .sl 18 .nil [], .sl 6 .nil [], .int .u64 0, .int .u64 0, .int .u64 0, .int .u64 0, .int .u64 0, .int .u64 0, .int .u64 0, .int .u64 0, .int .u64 0, .int .u64 0, .int .u64 0, .int .u64 0, .int .u64 0, .int .u64 0, .int .u64 0, .int .u64 0, .sl 6 .nil [], .sl 1 .nil [], .int .u64 0, .int .u64 0, .int .u64 0, .int .u64 0, .sl 5 .nil []])) [] 0 0, [], none⟩,
    ⟨5, (some 3), .p .mov [.t 12], [], none⟩,
    ⟨6, none, .c (.store 67) [.t 4, .t 13], [], none⟩])
   (.seq (.region false [
    ⟨0, (some 14), .p .mov [.t 2], [], none⟩,
    ⟨1, (some 15), .p (.bin .eql) [.t 14, .c (.int .i64 3)], [], none⟩,
    ⟨2, (some 16), .p .mov [.t 15], [], none⟩,
    ⟨3, (some 17), .p .mov [.t 3], [], (some (16, true))⟩,
    ⟨4, (some 18), .p .len [.t 17], [], (some (16, true))⟩,
    ⟨5, (some 19), .p (.bin .eql) [.t 18, .c (.int .i64 0)], [], (some (16, true))⟩,
    ⟨6, (some 20), .p .pick [.t 16, .t 19, .c (.bool false)], [], none⟩,
    ⟨7, (some 21), .p .mov [.t 20], [], none⟩,
    ⟨8, (some 22), .p (.fld 0) [.t 4], [], (some (21, true))⟩,
    ⟨9, (some 23), .ld false 1 (.t 22) 0 0, [], (some (21, true))⟩,
    ⟨10, (some 24), .p (.bin .eql) [.t 23, .c (.int .u64 0)], [], (some (21, true))⟩,
    ⟨11, (some 25), .p .pick [.t 21, .t 24, .c (.bool false)], [], none⟩,
    ⟨12, (some 26), .p .mov [.t 25], [], none⟩,
    ⟨13, (some 27), .p (.fld 22) [.t 4], [], (some (26, true))⟩,
    ⟨14, (some 28), .p (.fld 0) [.t 27], [], (some (26, true))⟩,
    ⟨15, (some 29), .ld false 1 (.t 28) 0 0, [], (some (26, true))⟩,
    ⟨16, (some 30), .p (.bin .eql) [.t 29, .c (.int .u64 1)], [], (some (26, true))⟩,
    ⟨17, (some 31), .p .pick [.t 26, .t 30, .c (.bool false)], [], none⟩,
    ⟨18, (some 0), .p .mov [.t 31], [], none⟩])
   (.ret))))⟩
def c8_l0 : ACode :=
  .seq (.seq (.region false [
    ⟨0, (some 5), .p .mov [.t 4], [], none⟩,
    ⟨1, (some 6), .p .mov [.t 0], [], none⟩,
    ⟨2, (some 7), .p .len [.t 6], [], none⟩,
    ⟨3, (some 8), .p (.bin .lss) [.t 5, .t 7], [], none⟩])
   (.cond (.t 8) (.skip)
    (.exit 0)))
   (.seq (.block 1 (.region false [
      ⟨0, (some 11), .p .mov [.t 3], [], none⟩,
      ⟨1, (some 12), .p .mov [.t 0], [], none⟩,
      ⟨2, (some 13), .p .mov [.t 4], [], none⟩,
      ⟨3, (some 14), .p (.ixs 1) [.t 12, .t 13], [], none⟩,
      ⟨4, (some 15), .ld false 1 (.t 14) 0 0, [], none⟩,
      ⟨5, (some 16), .c (.call 24) [.t 11, .t 15], [], none⟩,
      ⟨6, (some 3), .p .mov [.t 16], [], none⟩]))
   (.region false [
    ⟨0, (some 9), .p .mov [.t 4], [], none⟩,
    ⟨1, (some 10), .p (.bin .add) [.t 9, .c (.int .i64 1)], [], none⟩,
    ⟨2, (some 4), .p .mov [.t 10], [], none⟩]))
def c8 : AFun := ⟨false, 18, [.tmp 2],
  .seq (.region false [
    ⟨0, (some 2), .p .mov [.c (.sl 1 .nil [])], [], none⟩])
   (.seq (.region false [
    ⟨0, (some 3), .p .mov [.c (.sl 1 .nil [])], [], none⟩])
   (.seq (.seq (.hint (.own 3 1) (.region false [
    ⟨0, (some 4), .p .mov [.c (.int .i64 0)], [], none⟩]))
   (.block 0 (.loop [true, false, false, true, true] c8_l0)))
   (.seq (.region false [
    ⟨0, (some 17), .p .mov [.t 3], [], none⟩,
    ⟨1, (some 2), .p .mov [.t 17], [], none⟩])
   (.ret))))⟩
def c9 : AFun := ⟨false, 11, [.tmp 4],
  .seq (.region false [
    ⟨0, (some 4), .p .mov [.c (.int .i64 0)], [], none⟩])
   (.seq (.region false [
    ⟨0, (some 5), .p .mov [.t 0], [], none⟩,
    ⟨1, (some 6), .p (.conv .u64) [.t 5], [], none⟩,
    ⟨2, (some 7), .p .mov [.t 1], [], none⟩,
    ⟨3, (some 8), .p (.conv .u64) [.t 7], [], none⟩,
    ⟨4, (some 9), .p (.bin .rem) [.t 6, .t 8], [], none⟩,
    ⟨5, (some 10), .p (.conv .i64) [.t 9], [], none⟩,
    ⟨6, (some 4), .p .mov [.t 10], [], none⟩])
   (.ret))⟩
def c10_l0 : ACode :=
  .seq (.seq (.region false [
    ⟨0, (some 8), .p .mov [.t 5], [], none⟩,
    ⟨1, (some 9), .c (.call 26) [.t 8], [], none⟩,
    ⟨2, (some 10), .p (.un .not) [.t 9], [], none⟩,
    ⟨3, (some 11), .p .mov [.t 10], [], none⟩,
    ⟨4, (some 12), .p .mov [.t 5], [], (some (11, true))⟩,
    ⟨5, (some 13), .c (.call 27) [.t 12], [], (some (11, true))⟩,
    ⟨6, (some 14), .p (.un .not) [.t 13], [], (some (11, true))⟩,
    ⟨7, (some 15), .p .pick [.t 11, .t 14, .c (.bool false)], [], none⟩])
   (.cond (.t 15) (.skip)
    (.exit 0)))
   (.block 1 (.region false [
      ⟨0, (some 16), .p .mov [.t 4], [], none⟩,
      ⟨1, (some 17), .p .mov [.t 5], [], none⟩,
      ⟨2, (some 18), .c (.call 28) [.t 17], [], none⟩,
      ⟨3, (some 19), .n (.bsl 1 (.sl 1 .nil []) 1 [0]) [.t 18] 0 0, [], none⟩,
      ⟨4, (some 20), .c (.app 1 24) [.t 16, .t 19], [], none⟩,
      ⟨5, (some 4), .p .mov [.t 20], [], none⟩]))
def c10 : AFun := ⟨false, 24, [.tmp 2, .tmp 3],
  .seq (.region false [
    ⟨0, (some 2), .p .mov [.c (.sl 1 .nil [])], [], none⟩,
    ⟨1, (some 3), .p .mov [.c (.int .i64 0)], [], none⟩])
   (.seq (.region false [
    ⟨0, (some 4), .p .mov [.c (.sl 1 .nil [])], [], none⟩])
   (.seq (.hint (.own 4 1) (.region false [
    ⟨0, (some 6), .p .mov [.t 0], [], none⟩,
    ⟨1, (some 7), .c (.call 25) [.t 6], [], none⟩,
    ⟨2, (some 5), .p .mov [.t 7], [], none⟩]))
   (.seq (.block 0 (.loop [false, false, false, false, true, true] c10_l0))
   (.seq (.seq (.region false [
    ⟨0, (some 21), .p .mov [.t 5], [], none⟩,
    ⟨1, (some 22), .c (.call 27) [.t 21], [], none⟩])
   (.cond (.t 22) (.seq (.region false [
      ⟨0, (some 2), .p .mov [.c (.sl 1 .nil [])], [], none⟩,
      ⟨1, (some 3), .p .mov [.c (.int .i64 3)], [], none⟩])
     (.ret))
    (.skip)))
   (.seq (.region false [
    ⟨0, (some 23), .p .mov [.t 4], [], none⟩,
    ⟨1, (some 2), .p .mov [.t 23], [], none⟩,
    ⟨2, (some 3), .p .mov [.c (.int .i64 0)], [], none⟩])
   (.hint (.freeze 2) (.ret)))))))⟩
def c11_l0 : ACode :=
  .seq (.seq (.region false [
    ⟨0, (some 7), .p .mov [.t 3], [], none⟩,
    ⟨1, (some 8), .p .mov [.t 0], [], none⟩,
    ⟨2, (some 9), .p .len [.t 8], [], none⟩,
    ⟨3, (some 10), .p (.bin .lss) [.t 7, .t 9], [], none⟩])
   (.cond (.t 10) (.skip)
    (.exit 0)))
   (.block 1 (.seq (.region false [
      ⟨0, (some 12), .p .mov [.t 0], [], none⟩,
      ⟨1, (some 13), .p .mov [.t 3], [], none⟩,
      ⟨2, (some 14), .c (.call 29) [.t 12, .t 13], [], none⟩,
      ⟨3, (some 11), .p .mov [.t 14], [], none⟩,
      ⟨4, (some 15), .p (.ext 0) [.t 11], [], none⟩,
      ⟨5, (some 16), .p (.ext 1) [.t 11], [], none⟩,
      ⟨6, (some 17), .p (.ext 2) [.t 11], [], none⟩,
      ⟨7, (some 4), .p .mov [.t 15], [], none⟩,
      ⟨8, (some 5), .p .mov [.t 16], [], none⟩,
      ⟨9, (some 6), .p .mov [.t 17], [], none⟩])
     (.seq (.seq (.region false [
      ⟨0, (some 18), .p .mov [.t 6], [], none⟩,
      ⟨1, (some 19), .p (.bin .neq) [.t 18, .c (.int .i64 0)], [], none⟩])
     (.cond (.t 19) (.seq (.region false [
        ⟨0, (some 2), .p .mov [.c (.bool false)], [], none⟩])
       (.ret))
      (.skip)))
     (.region false [
      ⟨0, (some 20), .p .mov [.t 5], [], none⟩,
      ⟨1, (some 3), .p .mov [.t 20], [], none⟩]))))
def c11 : AFun := ⟨false, 21, [.tmp 2],
  .seq (.region false [
    ⟨0, (some 2), .p .mov [.c (.bool false)], [], none⟩])
   (.seq (.seq (.region false [
    ⟨0, (some 3), .p .mov [.c (.int .i64 0)], [], none⟩])
   (.block 0 (.loop [true, false, false, true] c11_l0)))
   (.seq (.region false [
    ⟨0, (some 2), .p .mov [.c (.bool true)], [], none⟩])
   (.ret)))⟩
def c12 : AFun := ⟨false, 10, [.tmp 4],
  .seq (.region false [
    ⟨0, (some 4), .p .mov [.c (.bool false)], [], none⟩])
   (.seq (.region false [
    ⟨0, (some 5), .p .mov [.t 0], [], none⟩,
    ⟨1, (some 6), .b2s (.t 5), [], none⟩,
    ⟨2, (some 7), .p .mov [.t 1], [], none⟩,
    ⟨3, (some 8), .b2s (.t 7), [], none⟩,
    ⟨4, (some 9), .p (.bin .eql) [.t 6, .t 8], [], none⟩,
    ⟨5, (some 4), .p .mov [.t 9], [], none⟩])
   (.ret))⟩
def c13_l0 : ACode :=
  .seq (.region false [
    ⟨0, (some 9), .p (.bin .lss) [.t 8, .t 7], [], none⟩])
   (.seq (.cond (.t 9) (.skip)
    (.exit 0))
   (.seq (.block 1 (.seq (.region false [
      ⟨0, (some 10), .p (.ixs 1) [.t 6, .t 8], [], none⟩,
      ⟨1, (some 11), .ld false 1 (.t 10) 0 0, [], none⟩,
      ⟨2, (some 5), .p .mov [.t 11], [], none⟩])
     (.region false [
      ⟨0, (some 12), .p .mov [.t 3], [], none⟩,
      ⟨1, (some 13), .p .mov [.t 5], [], none⟩,
      ⟨2, (some 14), .c (.call 30) [.c (.sl 1 .nil []), .t 13], [], none⟩,
      ⟨3, (some 15), .c (.app 1 1) [.t 12, .t 14], [], none⟩,
      ⟨4, (some 3), .p .mov [.t 15], [], none⟩])))
   (.region false [
    ⟨0, (some 16), .p (.bin .add) [.t 8, .c (.int .i64 1)], [], none⟩,
    ⟨1, (some 8), .p .mov [.t 16], [], none⟩])))
def c13 : AFun := ⟨false, 18, [.tmp 2],
  .seq (.region false [
    ⟨0, (some 2), .p .mov [.c (.sl 1 .nil [])], [], none⟩])
   (.seq (.region false [
    ⟨0, (some 3), .p .mov [.c (.sl 1 .nil [])], [], none⟩])
   (.seq (.seq (.hint (.own 3 1) (.region false [
    ⟨0, (some 6), .p .mov [.t 0], [], none⟩,
    ⟨1, (some 7), .p .len [.t 6], [], none⟩,
    ⟨2, (some 8), .p .mov [.c (.int .i64 0)], [], none⟩]))
   (.block 0 (.loop [false, false, false, true, false, false, true, true, true] c13_l0)))
   (.seq (.region false [
    ⟨0, (some 17), .p .mov [.t 3], [], none⟩,
    ⟨1, (some 2), .p .mov [.t 17], [], none⟩])
   (.ret))))⟩
def c14_l0 : ACode :=
  .seq (.seq (.region false [
    ⟨0, (some 11), .p .mov [.t 5], [], none⟩,
    ⟨1, (some 12), .p .mov [.t 0], [], none⟩,
    ⟨2, (some 13), .p .len [.t 12], [], none⟩,
    ⟨3, (some 14), .p (.bin .lss) [.t 11, .t 13], [], none⟩])
   (.cond (.t 14) (.skip)
    (.exit 0)))
   (.seq (.block 1 (.seq (.region true [
      ⟨0, (some 17), .p .mov [.t 0], [], none⟩,
      ⟨1, (some 18), .p .mov [.t 5], [], none⟩,
      ⟨2, (some 19), .p (.ixs 1) [.t 17, .t 18], [0, 1], none⟩,
      ⟨3, (some 20), .ld false 1 (.t 19) 0 0, [2], none⟩,
      ⟨4, (some 21), .p .mov [.t 1], [], none⟩,
      ⟨5, (some 22), .p .mov [.t 5], [], none⟩,
      ⟨6, (some 23), .p (.ixs 1) [.t 21, .t 22], [4, 5], none⟩,
      ⟨7, (some 24), .ld false 1 (.t 23) 0 0, [6], none⟩,
      ⟨8, (some 25), .c (.call 12) [.t 20, .t 24], [3, 7], none⟩,
      ⟨9, (some 26), .p (.un .not) [.t 25], [8], none⟩])
     (.cond (.t 26) (.seq (.region false [
        ⟨0, (some 4), .p .mov [.c (.bool false)], [], none⟩])
       (.ret))
      (.skip))))
   (.region false [
    ⟨0, (some 15), .p .mov [.t 5], [], none⟩,
    ⟨1, (some 16), .p (.bin .add) [.t 15, .c (.int .i64 1)], [], none⟩,
    ⟨2, (some 5), .p .mov [.t 16], [], none⟩]))
def c14 : AFun := ⟨false, 27, [.tmp 4],
  .seq (.region false [
    ⟨0, (some 4), .p .mov [.c (.bool false)], [], none⟩])
   (.seq (.seq (.region false [
    ⟨0, (some 6), .p .mov [.t 0], [], none⟩,
    ⟨1, (some 7), .p .len [.t 6], [], none⟩,
    ⟨2, (some 8), .p .mov [.t 1], [], none⟩,
    ⟨3, (some 9), .p .len [.t 8], [], none⟩,
    ⟨4, (some 10), .p (.bin .neq) [.t 7, .t 9], [], none⟩])
   (.cond (.t 10) (.seq (.region false [
      ⟨0, (some 4), .p .mov [.c (.bool false)], [], none⟩])
     (.ret))
    (.skip)))
   (.seq (.seq (.region false [
    ⟨0, (some 5), .p .mov [.c (.int .i64 0)], [], none⟩])
   (.block 0 (.loop [true, true, false, false, false, true] c14_l0)))
   (.seq (.region false [
    ⟨0, (some 4), .p .mov [.c (.bool true)], [], none⟩])
   (.ret))))⟩
def c20_l0 : ACode :=
  .seq (.region false [
    ⟨0, (some 64), .p (.bin .lss) [.t 63, .t 62], [], none⟩])
   (.seq (.cond (.t 64) (.skip)
    (.exit 0))
   (.seq (.block 1 (.seq (.region false [
      ⟨0, (some 65), .p .mov [.t 63], [], none⟩,
      ⟨1, (some 4), .p .mov [.t 65], [], none⟩])
     (.region true [
      ⟨0, (some 66), .p (.fld 61) [.t 3], [], none⟩,
      ⟨1, (some 67), .ld false 1 (.t 66) 0 1, [0], none⟩,
      ⟨2, (some 68), .p .mov [.t 0], [], none⟩,
      ⟨3, (some 69), .p .nilc [.t 68], [2], none⟩,
      ⟨4, (some 70), .p (.fld 45) [.t 69], [3], none⟩,
      ⟨5, (some 71), .ld false 1 (.t 70) 0 0, [4], none⟩,
      ⟨6, (some 72), .p .mov [.t 4], [], none⟩,
      ⟨7, (some 73), .p (.conv .u64) [.t 72], [6], none⟩,
      ⟨8, (some 74), .c (.call 48) [.t 71, .t 73], [5, 7], none⟩,
      ⟨9, (some 75), .n (.bsl 1 (.bool false) 1 [0]) [.t 74] 1 1, [8], none⟩,
      ⟨10, (some 76), .c (.app 1 1) [.t 67, .t 75], [1, 9, 8], none⟩,
      ⟨11, (some 77), .p (.fld 61) [.t 3], [0, 1, 2, 3, 4, 5, 6, 7, 8, 9, 10], none⟩,
      ⟨12, none, .c (.store 1) [.t 77, .t 76], [11, 10, 0, 1, 2, 3, 4, 5, 6, 7, 8, 9], none⟩])))
   (.region false [
    ⟨0, (some 78), .p (.bin .add) [.t 63, .c (.int .i64 1)], [], none⟩,
    ⟨1, (some 63), .p .mov [.t 78], [], none⟩])))
def c20 : AFun := ⟨false, 80, [.cell 2 true 67],
  .seq (.region false [
    ⟨0, (some 2), .n (.alloc (.agg [.int .u64 0, .int .u64 0, .int .u64 0, .int .u64 0, .int .u64 0, .int .u64 0, .int .u64 0, .int .u64 0, .int .u64 0, .int .u64 0, .int .u64 0, .int .u64 0, .int .u64 0, .int .u64 0, .int .u64 0, .int .u64 0, .int .u64 0, .int .u64 0, .int .u64 0, .int .u64 0, .int .u64 0, .int .u64 0, .int .u64 0, .int .u64 0, .int .u64 0, .int .u64 0, .int .u64 0, .int .u64 0, .int .u64 0, .int .u64 0, .int .u64 0, .int .u64 0, .int .u64 0, .int .u64 0, .int .u64 0, .int .u64 0, .int .u64 0, .bool false, .int .u64 0, .int .u64 0, .int .u64 0, .int .u64 0, .sl 18 .nil [], .sl 6 .nil [], .int .u64 0, .int .u64 0, .int .u64 0, .int .u64 0, .int .u64 0, .int .u64 0, .int .u64 0, .int .u64 0, .int .u64 0, .int .u64 0, .int .u64 0, .int .u64 0, .int .u64 0, .int .u64 0, .int .u64 0, .int .u64 0, .sl 6 .nil [], .sl 1 .nil [], .int .u64 0, .int .u64 0, .int .u64 0, .int .u64 0, .sl 5 .nil []])) [] 0 0, [], none⟩])
   (.seq (.seq (.region false [
    ⟨0, (some 5), .p .mov [.t 0], [], none⟩,
    ⟨1, (some 6), .p (.eqp false) [.t 5, .c (.nilp)], [], none⟩])
   (.cond (.t 6) (.seq (.region false [
      ⟨0, (some 7), .p (.bld [.int .u64 0, .int .u64 0, .int .u64 0, .int .u64 0, .int .u64 0, .int .u64 0, .int .u64 0, .int .u64 0, .int .u64 0, .int .u64 0, .int .u64 0, .int .u64 0, .int .u64 0, .int .u64 0, .int .u64 0, .int .u64 0, .int .u64 0, .int .u64 0, .int .u64 0, .int .u64 0, .int .u64 0, .int .u64 0, .int .u64 0, .int .u64 0, .int .u64 0, .int .u64 0, .int .u64 0, .int .u64 0, .int .u64 0, .int .u64 0, .int .u64 0, .int .u64 0, .int .u64 0, .int .u64 0, .int .u64 0, .int .u64 0, .int .u64 0, .bool false, .int .u64 0, .int .u64 0, .int .u64 0, .int .u64 0, .sl 18 .nil [], .sl 6 .nil [], .int .u64 0, .int .u64 0, .int .u64 0, .int .u64 0, .int .u64 0, .int .u64 0, .int .u64 0, .int .u64 0, .int .u64 0, .int .u64 0, .int .u64 0, .int .u64 0, .int .u64 0, .int .u64 0, .int .u64 0, .int .u64 0, .sl 6 .nil [], .sl 1 .nil [], .int .u64 0, .int .u64 0, .int .u64 0, .int .u64 0, .sl 5 .nil []] []) [], [], none⟩,
      ⟨1, none, .c (.store 67) [.t 2, .t 7], [], none⟩])
     (.ret))
    (.skip)))
   (.seq (.region true [
    ⟨0, (some 8), .p .mov [.t 0], [], none⟩,
    ⟨1, (some 9), .p .nilc [.t 8], [0], none⟩,
    ⟨2, (some 10), .p (.fld 0) [.t 9], [1], none⟩,
    ⟨3, (some 11), .ld false 1 (.t 10) 0 5, [2], none⟩,
    ⟨4, (some 12), .p .mov [.t 0], [], none⟩,
    ⟨5, (some 13), .p .nilc [.t 12], [4], none⟩,
    ⟨6, (some 14), .p (.fld 1) [.t 13], [5], none⟩,
    ⟨7, (some 15), .ld true 21 (.t 14) 0 5, [6], none⟩,
    ⟨8, (some 16), .p .mov [.t 0], [], none⟩,
    ⟨9, (some 17), .p .nilc [.t 16], [8], none⟩,
    ⟨10, (some 18), .p (.fld 22) [.t 17], [9], none⟩,
    ⟨11, (some 19), .ld true 7 (.t 18) 0 5, [10], none⟩,
    ⟨12, (some 20), .p .mov [.t 0], [], none⟩,
    ⟨13, (some 21), .p .nilc [.t 20], [12], none⟩,
    ⟨14, (some 22), .p (.fld 29) [.t 21], [13], none⟩,
    ⟨15, (some 23), .ld false 1 (.t 22) 0 5, [14], none⟩,
    ⟨16, (some 24), .p .mov [.t 0], [], none⟩,
    ⟨17, (some 25), .p .nilc [.t 24], [16], none⟩,
    ⟨18, (some 26), .p (.fld 30) [.t 25], [17], none⟩,
    ⟨19, (some 27), .ld true 13 (.t 26) 0 5, [18], none⟩,
    ⟨20, (some 28), .p .mov [.t 0], [], none⟩,
    ⟨21, (some 29), .p .nilc [.t 28], [20], none⟩,
    ⟨22, (some 30), .p (.fld 43) [.t 29], [21], none⟩,
    ⟨23, (some 31), .ld false 1 (.t 30) 0 0, [22], none⟩,
    ⟨25, (some 33), .p .mov [.t 0], [], none⟩,
    ⟨26, (some 34), .p .nilc [.t 33], [24], none⟩,
    ⟨27, (some 35), .p (.fld 43) [.t 34], [25], none⟩,
    ⟨28, (some 36), .ld false 1 (.t 35) 0 1, [26], none⟩,
    ⟨30, (some 38), .p .mov [.t 0], [], none⟩,
    ⟨31, (some 39), .p .nilc [.t 38], [28], none⟩,
    ⟨32, (some 40), .p (.fld 44) [.t 39], [29], none⟩,
    ⟨33, (some 41), .ld false 1 (.t 40) 0 2, [30], none⟩,
    ⟨35, (some 43), .p .mov [.t 0], [], none⟩,
    ⟨36, (some 44), .p .nilc [.t 43], [32], none⟩,
    ⟨37, (some 45), .p (.fld 45) [.t 44], [33], none⟩,
    ⟨38, (some 46), .ld false 1 (.t 45) 0 3, [34], none⟩,
    ⟨40, (some 48), .p .mov [.t 0], [], none⟩,
    ⟨41, (some 49), .p .nilc [.t 48], [36], none⟩,
    ⟨42, (some 50), .p (.fld 45) [.t 49], [37], none⟩,
    ⟨43, (some 51), .ld false 1 (.t 50) 0 4, [38], none⟩,
    ⟨46, (some 3), .n (.alloc (.agg [.int .u64 0, .int .u64 0, .int .u64 0, .int .u64 0, .int .u64 0, .int .u64 0, .int .u64 0, .int .u64 0, .int .u64 0, .int .u64 0, .int .u64 0, .int .u64 0, .int .u64 0, .int .u64 0, .int .u64 0, .int .u64 0, .int .u64 0, .int .u64 0, .int .u64 0, .int .u64 0, .int .u64 0, .int .u64 0, .int .u64 0, .int .u64 0, .int .u64 0, .int .u64 0, .int .u64 0, .int .u64 0, .int .u64 0, .int .u64 0, .int .u64 0, .int .u64 0, .int .u64 0, .int .u64 0, .int .u64 0, .int .u64 0, .int .u64 0, .bool false, .int .u64 0, .int .u64 0, .int .u64 0, .int .u64 0, .sl 18 .nil [], .sl 6 .nil [], .int .u64 0, .int .u64 0, .int .u64 0, .int .u64 0, .int .u64 0, .int .u64 0, .int .u64 0, .int .u64 0, .int .u64 0, .int .u64 0, .int .u64 0, .int .u64 0, .int .u64 0, .int .u64 0, .int .u64 0, .int .u64 0, .sl 6 .nil [], .sl 1 .nil [], .int .u64 0, .int .u64 0, .int .u64 0, .int .u64 0, .sl 5 .nil []])) [] 0 5, [], none⟩,
    ⟨24, (some 32), .c (.call 42) [.t 31], [23], none⟩,
    ⟨29, (some 37), .c (.call 43) [.t 36], [27, 41], none⟩,
    ⟨34, (some 42), .c (.call 44) [.t 41], [31, 42], none⟩,
    ⟨39, (some 47), .c (.call 45) [.t 46], [35, 43], none⟩,
    ⟨44, (some 52), .c (.call 46) [.t 51], [39, 44], none⟩,
    ⟨45, (some 53), .p (.bld [.int .u64 0, .int .u64 0, .int .u64 0, .int .u64 0, .int .u64 0, .int .u64 0, .int .u64 0, .int .u64 0, .int .u64 0, .int .u64 0, .int .u64 0, .int .u64 0, .int .u64 0, .int .u64 0, .int .u64 0, .int .u64 0, .int .u64 0, .int .u64 0, .int .u64 0, .int .u64 0, .int .u64 0, .int .u64 0, .int .u64 0, .int .u64 0, .int .u64 0, .int .u64 0, .int .u64 0, .int .u64 0, .int .u64 0, .int .u64 0, .int .u64 0, .int .u64 0, .int .u64 0, .int .u64 0, .int .u64 0, .int .u64 0, .int .u64 0, .bool false, .int .u64 0, .int .u64 0, .int .u64 0, .int .u64 0, .sl 18 .nil [], .sl 6 .nil [], .int .u64 0, .int .u64 0, .int .u64 0, .int .u64 0, .int .u64 0, .int .u64 0, .int .u64 0, .int .u64 0, .int .u64 0, .int .u64 0, .int .u64 0, .int .u64 0, .int .u64 0, .int .u64 0, .int .u64 0, .int .u64 0, .sl 6 .nil [], .sl 1 .nil [], .int .u64 0, .int .u64 0, .int .u64 0, .int .u64 0, .sl 5 .nil []] [(0, 1), (1, 21), (22, 7), (29, 1), (30, 13), (43, 1), (44, 16), (60, 1), (62, 4), (66, 1)]) [.t 11, .t 15, .t 19, .t 23, .t 27, .t 32, .t 37, .t 42, .t 47, .t 52], [3, 7, 11, 15, 19, 41, 42, 43, 44, 45], none⟩,
    ⟨47, none, .c (.store 67) [.t 3, .t 53], [40, 46, 45, 0, 1, 2, 3, 4, 5, 6, 7, 8, 9, 10, 11, 12, 13, 14, 15, 16, 17, 18, 19, 20, 21, 22, 23, 41, 24, 25, 26, 27, 42, 28, 29, 30, 31, 43, 32, 33, 34, 35, 44, 36, 37, 38, 39], none⟩])
   (.seq (.region false [
    ⟨0, (some 54), .p (.fld 30) [.t 3], [], none⟩,
    ⟨1, (some 55), .p (.fld 12) [.t 54], [], none⟩,
    ⟨2, (some 56), .ld false 1 (.t 55) 0 0, [], none⟩,
    ⟨3, (some 57), .c (.call 47) [.t 56], [], none⟩,
    ⟨4, (some 58), .p (.fld 30) [.t 3], [], none⟩,
    ⟨5, (some 59), .p (.fld 12) [.t 58], [], none⟩,
    ⟨6, none, .c (.store 1) [.t 59, .t 57], [], none⟩])
   (.seq (.seq (.region false [
    ⟨0, (some 60), .p (.fld 60) [.t 3], [], none⟩,
    ⟨1, (some 61), .ld false 1 (.t 60) 0 0, [], none⟩,
    ⟨2, (some 62), .p .len [.t 61], [], none⟩,
    ⟨3, (some 63), .p .mov [.c (.int .i64 0)], [], none⟩])
   (.block 0 (.loop [true, false, true, true, false, false, false, false, false, false, false, false, false, false, false, false, false, false, false, false, false, false, false, false, false, false, false, false, false, false, false, false, false, false, false, false, false, false, false, false, false, false, false, false, false, false, false, false, false, false, false, false, false, false, false, false, false, false, false, false, false, false, true, true] c20_l0)))
   (.seq (.region false [
    ⟨0, (some 79), .ld true 67 (.t 3) 0 0, [], none⟩,
    ⟨1, none, .c (.store 67) [.t 2, .t 79], [], none⟩])
   (.ret))))))⟩
def c23 : AFun := ⟨false, 16, [.tmp 2, .cell 3 true 67],
  .seq (.region false [
    ⟨0, (some 2), .p .mov [.c (.sl 45 .nil [])], [], none⟩,
    ⟨1, (some 3), .n (.alloc (.agg [.int .u64 0, .int .u64 0, .int .u64 0, .int .u64 0, .int .u64 0, .int .u64 0, .int .u64 0, .int .u64 0, .int .u64 0, .int .u64 0, .int .u64 0, .int .u64 0, .int .u64 0, .int .u64 0, .int .u64 0, .int .u64 0, .int .u64 0, .int .u64 0, .int .u64 0, .int .u64 0, .int .u64 0, .int .u64 0, .int .u64 0, .int .u64 0, .int .u64 0, .int .u64 0, .int .u64 0, .int .u64 0, .int .u64 0, .int .u64 0, .int .u64 0, .int .u64 0, .int .u64 0, .int .u64 0, .int .u64 0, .int .u64 0, .int .u64 0, .bool false, .int .u64 0, .int .u64 0, .int .u64 0, .int .u64 0, .sl 18 .nil [], .sl 6 .nil [], .int .u64 0, .int .u64 0, .int .u64 0, .int .u64 0, .int .u64 0, .int .u64 0, .int .u64 0, .int .u64 0, .int .u64 0, .int .u64 0, .int .u64 0, .int .u64 0, .int .u64 0, .int .u64 0, .int .u64 0, .int .u64 0, .sl 6 .nil [], .sl 1 .nil [], .int .u64 0, .int .u64 0, .int .u64 0, .int .u64 0, .sl 5 .nil []])) [] 0 0, [], none⟩])
   (.seq (.region false [
    ⟨0, (some 7), .c (.call 50) [], [], none⟩,
    ⟨1, (some 4), .p .mov [.t 7], [], none⟩])
   (.seq (.region false [
    ⟨0, (some 8), .p .mov [.t 4], [], none⟩,
    ⟨1, (some 9), .p (.mkfn 18 1) [.t 8], [], none⟩,
    ⟨2, (some 5), .p .mov [.t 9], [], none⟩])
   (.seq (.region false [
    ⟨0, (some 10), .p .mov [.t 5], [], none⟩,
    ⟨1, (some 11), .p .mov [.t 0], [], none⟩,
    ⟨2, (some 12), .c (.call 51) [.t 10, .t 11], [], none⟩,
    ⟨3, (some 6), .p .mov [.t 12], [], none⟩])
   (.seq (.region false [
    ⟨0, (some 13), .p .mov [.t 6], [], none⟩,
    ⟨1, (some 14), .p .mov [.t 4], [], none⟩,
    ⟨2, (some 15), .c (.call 20) [.t 14], [], none⟩,
    ⟨3, (some 2), .p .mov [.t 13], [], none⟩,
    ⟨4, none, .c (.store 67) [.t 3, .t 15], [], none⟩])
   (.ret)))))⟩
def c24 : AFun := ⟨false, 12, [.tmp 4],
  .seq (.region false [
    ⟨0, (some 4), .p .mov [.c (.sl 1 .nil [])], [], none⟩])
   (.seq (.region false [
    ⟨0, (some 5), .p .mov [.t 0], [], none⟩,
    ⟨1, (some 6), .p .mov [.t 1], [], none⟩,
    ⟨2, (some 7), .p .len [.t 6], [], none⟩,
    ⟨3, (some 8), .p (.conv .u64) [.t 7], [], none⟩,
    ⟨4, (some 9), .c (.call 52) [.t 5, .t 8], [], none⟩,
    ⟨5, (some 10), .p .mov [.t 1], [], none⟩,
    ⟨6, (some 11), .c (.app 1 1) [.t 9, .t 10], [], none⟩,
    ⟨7, (some 4), .p .mov [.t 11], [], none⟩])
   (.ret))⟩
def c25 : AFun := ⟨false, 6, [.tmp 2],
  .seq (.region false [
    ⟨0, (some 2), .p .mov [.c (.nilp)], [], none⟩])
   (.seq (.region false [
    ⟨0, (some 3), .p .mov [.t 0], [], none⟩,
    ⟨1, (some 4), .p (.bld [.sl 1 .nil [], .int .i64 0, .bool false] [(0, 1)]) [.t 3], [], none⟩,
    ⟨2, (some 5), .n (.box 3) [.t 4] 0 0, [], none⟩,
    ⟨3, (some 2), .p .mov [.t 5], [], none⟩])
   (.ret))⟩
def c26 : AFun := ⟨false, 20, [.tmp 2],
  .seq (.region false [
    ⟨0, (some 2), .p .mov [.c (.bool false)], [], none⟩])
   (.seq (.region true [
    ⟨0, (some 3), .p .mov [.t 0], [], none⟩,
    ⟨1, (some 4), .p .nilc [.t 3], [0], none⟩,
    ⟨2, (some 5), .p (.fld 2) [.t 4], [1], none⟩,
    ⟨3, (some 6), .ld false 1 (.t 5) 0 0, [2], none⟩,
    ⟨4, (some 7), .p (.un .not) [.t 6], [3], none⟩,
    ⟨5, (some 8), .p .mov [.t 7], [4], none⟩,
    ⟨6, (some 9), .p .mov [.t 0], [5], (some (8, true))⟩,
    ⟨7, (some 10), .p .nilc [.t 9], [6, 5], (some (8, true))⟩,
    ⟨8, (some 11), .p (.fld 1) [.t 10], [7, 5], (some (8, true))⟩,
    ⟨9, (some 12), .ld false 1 (.t 11) 0 0, [8, 5], (some (8, true))⟩,
    ⟨10, (some 13), .p .mov [.t 0], [5], (some (8, true))⟩,
    ⟨11, (some 14), .p .nilc [.t 13], [10, 5], (some (8, true))⟩,
    ⟨12, (some 15), .p (.fld 0) [.t 14], [11, 5], (some (8, true))⟩,
    ⟨13, (some 16), .ld false 1 (.t 15) 0 0, [12, 5], (some (8, true))⟩,
    ⟨14, (some 17), .p .len [.t 16], [13, 5], (some (8, true))⟩,
    ⟨15, (some 18), .p (.bin .eql) [.t 12, .t 17], [9, 14, 5], (some (8, true))⟩,
    ⟨16, (some 19), .p .pick [.t 8, .t 18, .c (.bool false)], [5, 15], none⟩,
    ⟨17, (some 2), .p .mov [.t 19], [16, 5, 0, 1, 2, 3, 4, 6, 7, 8, 9, 10, 11, 12, 13, 14, 15], none⟩])
   (.ret))⟩
def c27 : AFun := ⟨false, 7, [.tmp 2],
  .seq (.region false [
    ⟨0, (some 2), .p .mov [.c (.bool false)], [], none⟩])
   (.seq (.region false [
    ⟨0, (some 3), .p .mov [.t 0], [], none⟩,
    ⟨1, (some 4), .p .nilc [.t 3], [], none⟩,
    ⟨2, (some 5), .p (.fld 2) [.t 4], [], none⟩,
    ⟨3, (some 6), .ld false 1 (.t 5) 0 0, [], none⟩,
    ⟨4, (some 2), .p .mov [.t 6], [], none⟩])
   (.ret))⟩
def c28 : AFun := ⟨false, 25, [.tmp 2],
  .seq (.region false [
    ⟨0, (some 2), .p .mov [.c (.sl 1 .nil [])], [], none⟩])
   (.seq (.region true [
    ⟨0, (some 7), .p .mov [.t 0], [], none⟩,
    ⟨1, (some 8), .p .nilc [.t 7], [0], none⟩,
    ⟨2, (some 9), .p (.fld 0) [.t 8], [1], none⟩,
    ⟨3, (some 10), .ld false 1 (.t 9) 0 0, [2], none⟩,
    ⟨4, (some 11), .p .mov [.t 0], [], none⟩,
    ⟨5, (some 12), .p .nilc [.t 11], [4], none⟩,
    ⟨6, (some 13), .p (.fld 1) [.t 12], [5], none⟩,
    ⟨7, (some 14), .ld false 1 (.t 13) 0 0, [6], none⟩,
    ⟨8, (some 15), .c (.call 53) [.t 10, .t 14], [3, 7], none⟩,
    ⟨9, (some 6), .p .mov [.t 15], [8], none⟩,
    ⟨10, (some 16), .p (.ext 0) [.t 6], [9], none⟩,
    ⟨11, (some 17), .p (.ext 1) [.t 6], [9], none⟩,
    ⟨12, (some 18), .p (.ext 2) [.t 6], [9], none⟩,
    ⟨13, (some 3), .p .mov [.t 16], [10, 8, 0, 1, 2, 3, 4, 5, 6, 7, 9], none⟩,
    ⟨14, (some 4), .p .mov [.t 17], [11, 13, 0, 1, 2, 3, 4, 5, 6, 7, 8, 9, 10], none⟩,
    ⟨15, (some 5), .p .mov [.t 18], [12, 14, 0, 1, 2, 3, 4, 5, 6, 7, 8, 9, 10, 11, 13], none⟩])
   (.seq (.seq (.region false [
    ⟨0, (some 19), .p .mov [.t 0], [], none⟩,
    ⟨1, (some 20), .p .mov [.t 4], [], none⟩,
    ⟨2, (some 21), .p .mov [.t 5], [], none⟩,
    ⟨3, (some 22), .c (.call 54) [.t 19, .t 20, .t 21], [], none⟩,
    ⟨4, (some 23), .p (.un .not) [.t 22], [], none⟩])
   (.cond (.t 23) (.seq (.region false [
      ⟨0, (some 2), .p .mov [.c (.sl 1 .nil [])], [], none⟩])
     (.ret))
    (.skip)))
   (.seq (.region false [
    ⟨0, (some 24), .p .mov [.t 3], [], none⟩,
    ⟨1, (some 2), .p .mov [.t 24], [], none⟩])
   (.ret))))⟩
def c29 : AFun := ⟨false, 40, [.tmp 4, .tmp 5, .tmp 6],
  .seq (.region false [
    ⟨0, (some 4), .p .mov [.c (.sl 1 .nil [])], [], none⟩,
    ⟨1, (some 5), .p .mov [.c (.int .i64 0)], [], none⟩,
    ⟨2, (some 6), .p .mov [.c (.int .i64 0)], [], none⟩])
   (.seq (.region false [
    ⟨0, (some 11), .p .mov [.t 0], [], none⟩,
    ⟨1, (some 12), .p .mov [.t 1], [], none⟩,
    ⟨2, (some 13), .c (.call 55) [.t 11, .t 12], [], none⟩,
    ⟨3, (some 10), .p .mov [.t 13], [], none⟩,
    ⟨4, (some 14), .p (.ext 0) [.t 10], [], none⟩,
    ⟨5, (some 15), .p (.ext 1) [.t 10], [], none⟩,
    ⟨6, (some 16), .p (.ext 2) [.t 10], [], none⟩,
    ⟨7, (some 7), .p .mov [.t 14], [], none⟩,
    ⟨8, (some 8), .p .mov [.t 15], [], none⟩,
    ⟨9, (some 9), .p .mov [.t 16], [], none⟩])
   (.seq (.seq (.region false [
    ⟨0, (some 17), .p .mov [.t 9], [], none⟩,
    ⟨1, (some 18), .p (.bin .neq) [.t 17, .c (.int .i64 0)], [], none⟩])
   (.cond (.t 18) (.seq (.region false [
      ⟨0, (some 19), .p .mov [.t 9], [], none⟩,
      ⟨1, (some 4), .p .mov [.c (.sl 1 .nil [])], [], none⟩,
      ⟨2, (some 5), .p .mov [.c (.int .i64 0)], [], none⟩,
      ⟨3, (some 6), .p .mov [.t 19], [], none⟩])
     (.ret))
    (.skip)))
   (.seq (.seq (.region false [
    ⟨0, (some 20), .p .mov [.t 7], [], none⟩,
    ⟨1, (some 21), .p .mov [.t 0], [], none⟩,
    ⟨2, (some 22), .p .len [.t 21], [], none⟩,
    ⟨3, (some 23), .p .mov [.t 8], [], none⟩,
    ⟨4, (some 24), .p (.bin .sub) [.t 22, .t 23], [], none⟩,
    ⟨5, (some 25), .p (.conv .u64) [.t 24], [], none⟩,
    ⟨6, (some 26), .p (.bin .gtr) [.t 20, .t 25], [], none⟩])
   (.cond (.t 26) (.seq (.region false [
      ⟨0, (some 4), .p .mov [.c (.sl 1 .nil [])], [], none⟩,
      ⟨1, (some 5), .p .mov [.c (.int .i64 0)], [], none⟩,
      ⟨2, (some 6), .p .mov [.c (.int .i64 3)], [], none⟩])
     (.ret))
    (.skip)))
   (.seq (.region false [
    ⟨0, (some 27), .n (.bsl 1 (.int .u8 0) 0 []) [] 0 0, [], none⟩,
    ⟨1, (some 28), .p .mov [.t 0], [], none⟩,
    ⟨2, (some 29), .p .mov [.t 8], [], none⟩,
    ⟨3, (some 30), .p .mov [.t 8], [], none⟩,
    ⟨4, (some 31), .p .mov [.t 7], [], none⟩,
    ⟨5, (some 32), .p (.conv .i64) [.t 31], [], none⟩,
    ⟨6, (some 33), .p (.bin .add) [.t 30, .t 32], [], none⟩,
    ⟨7, (some 34), .p (.slsl 1 true true false) [.t 28, .t 29, .t 33], [], none⟩,
    ⟨8, (some 35), .c (.app 1 1) [.t 27, .t 34], [], none⟩,
    ⟨9, (some 36), .p .mov [.t 8], [], none⟩,
    ⟨10, (some 37), .p .mov [.t 7], [], none⟩,
    ⟨11, (some 38), .p (.conv .i64) [.t 37], [], none⟩,
    ⟨12, (some 39), .p (.bin .add) [.t 36, .t 38], [], none⟩,
    ⟨13, (some 4), .p .mov [.t 35], [], none⟩,
    ⟨14, (some 5), .p .mov [.t 39], [], none⟩,
    ⟨15, (some 6), .p .mov [.c (.int .i64 0)], [], none⟩])
   (.hint (.freeze 4) (.ret))))))⟩
def c30 : AFun := ⟨false, 14, [.tmp 4],
  .seq (.region false [
    ⟨0, (some 4), .p .mov [.c (.sl 1 .nil [])], [], none⟩])
   (.seq (.region false [
    ⟨0, (some 5), .p .mov [.t 0], [], none⟩,
    ⟨1, (some 6), .p .mov [.t 1], [], none⟩,
    ⟨2, (some 7), .p .len [.t 6], [], none⟩,
    ⟨3, (some 8), .p (.conv .u64) [.t 7], [], none⟩,
    ⟨4, (some 9), .c (.call 58) [.t 8], [], none⟩,
    ⟨5, (some 10), .c (.call 57) [.t 9], [], none⟩,
    ⟨6, (some 11), .p .mov [.t 1], [], none⟩,
    ⟨7, (some 12), .n (.bsl 1 (.sl 1 .nil []) 3 [0, 1, 2]) [.t 5, .t 10, .t 11] 0 0, [], none⟩,
    ⟨8, (some 13), .c (.call 56) [.t 12], [], none⟩,
    ⟨9, (some 4), .p .mov [.t 13], [], none⟩])
   (.ret))⟩
def c42 : AFun := ⟨false, 10, [.tmp 2],
  .seq (.region false [
    ⟨0, (some 2), .p .mov [.c (.sl 6 .nil [])], [], none⟩])
   (.seq (.seq (.region false [
    ⟨0, (some 3), .p .mov [.t 0], [], none⟩,
    ⟨1, (some 4), .p (.eqp false) [.t 3, .c (.nilp)], [], none⟩])
   (.cond (.t 4) (.seq (.region false [
      ⟨0, (some 2), .p .mov [.c (.sl 6 .nil [])], [], none⟩])
     (.ret))
    (.skip)))
   (.seq (.region false [
    ⟨0, (some 5), .p .mov [.t 0], [], none⟩,
    ⟨1, (some 6), .p .nilc [.t 5], [], none⟩,
    ⟨2, (some 7), .p (.fld 0) [.t 6], [], none⟩,
    ⟨3, (some 8), .ld false 1 (.t 7) 0 0, [], none⟩,
    ⟨4, (some 9), .c (.call 70) [.t 8], [], none⟩,
    ⟨5, (some 2), .p .mov [.t 9], [], none⟩])
   (.ret)))⟩
def c43 : AFun := ⟨false, 10, [.cell 2 true 16],
  .seq (.region false [
    ⟨0, (some 2), .n (.alloc (.agg [.int .u64 0, .int .u64 0, .int .u64 0, .int .u64 0, .int .u64 0, .int .u64 0, .int .u64 0, .int .u64 0, .int .u64 0, .int .u64 0, .int .u64 0, .int .u64 0, .int .u64 0, .int .u64 0, .int .u64 0, .int .u64 0])) [] 0 0, [], none⟩])
   (.seq (.seq (.region false [
    ⟨0, (some 3), .p .mov [.t 0], [], none⟩,
    ⟨1, (some 4), .p (.eqp false) [.t 3, .c (.nilp)], [], none⟩])
   (.cond (.t 4) (.seq (.region false [
      ⟨0, (some 5), .p (.bld [.int .u64 0, .int .u64 0, .int .u64 0, .int .u64 0, .int .u64 0, .int .u64 0, .int .u64 0, .int .u64 0, .int .u64 0, .int .u64 0, .int .u64 0, .int .u64 0, .int .u64 0, .int .u64 0, .int .u64 0, .int .u64 0] []) [], [], none⟩,
      ⟨1, none, .c (.store 16) [.t 2, .t 5], [], none⟩])
     (.ret))
    (.skip)))
   (.seq (.region false [
    ⟨0, (some 6), .p .mov [.t 0], [], none⟩,
    ⟨1, (some 7), .p .nilc [.t 6], [], none⟩,
    ⟨2, (some 8), .p (.fld 1) [.t 7], [], none⟩,
    ⟨3, (some 9), .ld true 16 (.t 8) 0 0, [], none⟩,
    ⟨4, none, .c (.store 16) [.t 2, .t 9], [], none⟩])
   (.ret)))⟩
def c44 : AFun := ⟨false, 10, [.tmp 2],
  .seq (.region false [
    ⟨0, (some 2), .p .mov [.c (.sl 6 .nil [])], [], none⟩])
   (.seq (.seq (.region false [
    ⟨0, (some 3), .p .mov [.t 0], [], none⟩,
    ⟨1, (some 4), .p (.eqp false) [.t 3, .c (.nilp)], [], none⟩])
   (.cond (.t 4) (.seq (.region false [
      ⟨0, (some 2), .p .mov [.c (.sl 6 .nil [])], [], none⟩])
     (.ret))
    (.skip)))
   (.seq (.region false [
    ⟨0, (some 5), .p .mov [.t 0], [], none⟩,
    ⟨1, (some 6), .p .nilc [.t 5], [], none⟩,
    ⟨2, (some 7), .p (.fld 0) [.t 6], [], none⟩,
    ⟨3, (some 8), .ld false 1 (.t 7) 0 0, [], none⟩,
    ⟨4, (some 9), .c (.call 71) [.t 8], [], none⟩,
    ⟨5, (some 2), .p .mov [.t 9], [], none⟩])
   (.ret)))⟩
def c45 : AFun := ⟨false, 10, [.cell 2 true 4],
  .seq (.region false [
    ⟨0, (some 2), .n (.alloc (.agg [.int .u64 0, .int .u64 0, .int .u64 0, .int .u64 0])) [] 0 0, [], none⟩])
   (.seq (.seq (.region false [
    ⟨0, (some 3), .p .mov [.t 0], [], none⟩,
    ⟨1, (some 4), .p (.eqp false) [.t 3, .c (.nilp)], [], none⟩])
   (.cond (.t 4) (.seq (.region false [
      ⟨0, (some 5), .p (.bld [.int .u64 0, .int .u64 0, .int .u64 0, .int .u64 0] []) [], [], none⟩,
      ⟨1, none, .c (.store 4) [.t 2, .t 5], [], none⟩])
     (.ret))
    (.skip)))
   (.seq (.region false [
    ⟨0, (some 6), .p .mov [.t 0], [], none⟩,
    ⟨1, (some 7), .p .nilc [.t 6], [], none⟩,
    ⟨2, (some 8), .p (.fld 2) [.t 7], [], none⟩,
    ⟨3, (some 9), .ld true 4 (.t 8) 0 0, [], none⟩,
    ⟨4, none, .c (.store 4) [.t 2, .t 9], [], none⟩])
   (.ret)))⟩
def c46 : AFun := ⟨false, 10, [.tmp 2],
  .seq (.region false [
    ⟨0, (some 2), .p .mov [.c (.sl 5 .nil [])], [], none⟩])
   (.seq (.seq (.region false [
    ⟨0, (some 3), .p .mov [.t 0], [], none⟩,
    ⟨1, (some 4), .p (.eqp false) [.t 3, .c (.nilp)], [], none⟩])
   (.cond (.t 4) (.seq (.region false [
      ⟨0, (some 2), .p .mov [.c (.sl 5 .nil [])], [], none⟩])
     (.ret))
    (.skip)))
   (.seq (.region false [
    ⟨0, (some 5), .p .mov [.t 0], [], none⟩,
    ⟨1, (some 6), .p .nilc [.t 5], [], none⟩,
    ⟨2, (some 7), .p (.fld 6) [.t 6], [], none⟩,
    ⟨3, (some 8), .ld false 1 (.t 7) 0 0, [], none⟩,
    ⟨4, (some 9), .c (.call 72) [.t 8], [], none⟩,
    ⟨5, (some 2), .p .mov [.t 9], [], none⟩])
   (.ret)))⟩
def c47 : AFun := ⟨true, 8, [.tmp 2],
  .seq (.region false [
    ⟨0, (some 2), .p .mov [.c (.sl 18 .nil [])], [], none⟩])
   (.seq (.seq (.region false [
    ⟨0, (some 3), .p .mov [.t 0], [], none⟩,
    ⟨1, (some 4), .p (.eqn false) [.t 3], [], none⟩])
   (.cond (.t 4) (.seq (.region false [
      ⟨0, (some 2), .p .mov [.c (.sl 18 .nil [])], [], none⟩])
     (.ret))
    (.skip)))
   (.seq (.region false [
    ⟨0, (some 5), .n (.bsl 18 (.agg [.int .u64 0, .int .u64 0, .int .u64 0, .int .u64 0, .int .u64 0, .int .u64 0, .int .u64 0, .int .u64 0, .int .u64 0, .int .u64 0, .int .u64 0, .int .u64 0, .int .u64 0, .int .u64 0, .int .u64 0, .int .u64 0, .int .u64 0, .int .u64 0]) 0 []) [] 0 0, [], none⟩,
    ⟨1, (some 6), .p .mov [.t 0], [], none⟩,
    ⟨2, (some 7), .c (.app 18 144) [.t 5, .t 6], [], none⟩,
    ⟨3, (some 2), .p .mov [.t 7], [], none⟩])
   (.ret)))⟩
def c50 : AFun := ⟨false, 18, [.tmp 0],
  .seq (.region false [
    ⟨0, (some 0), .p .mov [.c (.nilp)], [], none⟩])
   (.seq (.region false [
    ⟨0, (some 4), .c (.call 76) [], [], none⟩,
    ⟨1, (some 1), .n (.alloc (.agg [.int .u64 0, .int .u64 0, .int .u64 0, .int .u64 0, .int .u64 0, .int .u64 0, .int .u64 0, .int .u64 0, .int .u64 0, .int .u64 0, .int .u64 0, .int .u64 0, .int .u64 0, .int .u64 0, .int .u64 0, .int .u64 0, .int .u64 0, .int .u64 0, .int .u64 0, .int .u64 0, .int .u64 0])) [] 0 0, [], none⟩,
    ⟨2, none, .c (.store 21) [.t 1, .t 4], [], none⟩])
   (.seq (.region false [
    ⟨0, (some 6), .ld true 21 (.t 1) 0 0, [], none⟩,
    ⟨1, (some 7), .c (.call 77) [.t 6], [], none⟩,
    ⟨2, (some 5), .p .mov [.t 7], [], none⟩,
    ⟨3, (some 8), .p (.ext 0) [.t 5], [], none⟩,
    ⟨4, (some 9), .p (.ext 1) [.t 5], [], none⟩,
    ⟨5, (some 2), .n (.alloc (.agg [.int .u64 0, .int .u64 0, .int .u64 0, .int .u64 0, .int .u64 0, .int .u64 0, .int .u64 0])) [] 0 0, [], none⟩,
    ⟨6, none, .c (.store 7) [.t 2, .t 8], [], none⟩,
    ⟨7, (some 3), .p .mov [.t 9], [], none⟩])
   (.seq (.region true [
    ⟨0, (some 10), .ld true 21 (.t 1) 0 4, [], none⟩,
    ⟨1, (some 11), .ld true 7 (.t 2) 0 4, [], none⟩,
    ⟨2, (some 12), .c (.call 78) [], [], none⟩,
    ⟨3, (some 13), .c (.call 79) [], [2], none⟩,
    ⟨4, (some 14), .c (.call 80) [], [3], none⟩,
    ⟨5, (some 15), .c (.call 81) [], [4], none⟩,
    ⟨6, (some 16), .p (.bld [.int .u64 0, .int .u64 0, .int .u64 0, .int .u64 0, .int .u64 0, .int .u64 0, .int .u64 0, .int .u64 0, .int .u64 0, .int .u64 0, .int .u64 0, .int .u64 0, .int .u64 0, .int .u64 0, .int .u64 0, .int .u64 0, .int .u64 0, .int .u64 0, .int .u64 0, .int .u64 0, .int .u64 0, .int .u64 0, .int .u64 0, .int .u64 0, .int .u64 0, .int .u64 0, .int .u64 0, .int .u64 0, .int .u64 0, .int .u64 0, .int .u64 0, .int .u64 0, .int .u64 0, .int .u64 0, .int .u64 0, .int .u64 0, .int .u64 0, .bool false, .int .u64 0, .int .u64 0, .int .u64 0, .int .u64 0, .sl 18 .nil [], .nilp, .nilp, .nilp] [(1, 21), (22, 7), (30, 13), (43, 1), (44, 1), (45, 1)]) [.t 10, .t 11, .t 12, .t 13, .t 14, .t 15], [0, 1, 2, 3, 4, 5], none⟩,
    ⟨7, (some 17), .n (.box 46) [.t 16] 4 4, [6], none⟩,
    ⟨8, (some 0), .p .mov [.t 17], [7, 5, 0, 1, 2, 3, 4, 6], none⟩])
   (.ret))))⟩
def c51_l0 : ACode :=
  .seq (.region false [
    ⟨0, (some 11), .p (.bin .lss) [.t 10, .t 9], [], none⟩])
   (.seq (.cond (.t 11) (.skip)
    (.exit 0))
   (.seq (.block 1 (.seq (.region false [
      ⟨0, (some 12), .p (.ixs 1) [.t 8, .t 10], [], none⟩,
      ⟨1, (some 13), .ld false 1 (.t 12) 0 0, [], none⟩,
      ⟨2, (some 7), .p .mov [.t 13], [], none⟩])
     (.region false [
      ⟨0, (some 14), .p .mov [.t 5], [], none⟩,
      ⟨1, (some 15), .p .mov [.t 0], [], none⟩,
      ⟨2, (some 16), .p .mov [.t 7], [], none⟩,
      ⟨3, (some 17), .c .callv [.t 15, .t 16], [], none⟩,
      ⟨4, (some 18), .n (.bsl 45 (.agg [.int .i64 0, .int .i64 0, .int .u64 0, .int .u64 0, .int .u64 0, .int .u64 0, .bool false, .int .u64 0, .int .u64 0, .int .u64 0, .int .u64 0, .int .u64 0, .int .u64 0, .int .u64 0, .int .u64 0, .int .u64 0, .int .u64 0, .int .u64 0, .int .u64 0, .int .u64 0, .int .u64 0, .int .u64 0, .int .u64 0, .int .u64 0, .int .u64 0, .int .u64 0, .int .u64 0, .int .u64 0, .int .u64 0, .int .u64 0, .int .u64 0, .int .u64 0, .int .u64 0, .int .u64 0, .int .u64 0, .int .u64 0, .int .u64 0, .int .u64 0, .int .u64 0, .int .u64 0, .int .u64 0, .int .u64 0, .int .u64 0, .int .u64 0, .sl 6 .nil []]) 1 [0]) [.t 17] 0 0, [], none⟩,
      ⟨5, (some 19), .c (.app 45 376) [.t 14, .t 18], [], none⟩,
      ⟨6, (some 5), .p .mov [.t 19], [], none⟩])))
   (.region false [
    ⟨0, (some 20), .p (.bin .add) [.t 10, .c (.int .i64 1)], [], none⟩,
    ⟨1, (some 10), .p .mov [.t 20], [], none⟩])))
def c51 : AFun := ⟨false, 22, [.tmp 4],
  .seq (.region false [
    ⟨0, (some 4), .p .mov [.c (.sl 45 .nil [])], [], none⟩])
   (.seq (.region false [
    ⟨0, (some 5), .p .mov [.c (.sl 45 .nil [])], [], none⟩])
   (.seq (.seq (.region false [
    ⟨0, (some 8), .p .mov [.t 1], [], none⟩,
    ⟨1, (some 9), .p .len [.t 8], [], none⟩,
    ⟨2, (some 10), .p .mov [.c (.int .i64 0)], [], none⟩])
   (.block 0 (.loop [true, false, false, false, false, true, false, false, true, true, true] c51_l0)))
   (.seq (.region false [
    ⟨0, (some 21), .p .mov [.t 5], [], none⟩,
    ⟨1, (some 4), .p .mov [.t 21], [], none⟩])
   (.ret))))⟩
def c52 : AFun := ⟨false, 9, [.tmp 4],
  .seq (.region false [
    ⟨0, (some 4), .p .mov [.c (.sl 1 .nil [])], [], none⟩])
   (.seq (.region false [
    ⟨0, (some 5), .p .mov [.t 0], [], none⟩,
    ⟨1, (some 6), .p .mov [.t 1], [], none⟩,
    ⟨2, (some 7), .p (.bld [.int .u64 0, .int .u64 0, .int .u64 0, .int .u64 0] [(0, 1)]) [.t 6], [], none⟩,
    ⟨3, (some 8), .c (.call 82) [.t 5, .t 7], [], none⟩,
    ⟨4, (some 4), .p .mov [.t 8], [], none⟩])
   (.ret))⟩
def c53 : AFun := ⟨false, 39, [.tmp 4, .tmp 5, .tmp 6],
  .seq (.region false [
    ⟨0, (some 4), .p .mov [.c (.sl 1 .nil [])], [], none⟩,
    ⟨1, (some 5), .p .mov [.c (.int .i64 0)], [], none⟩,
    ⟨2, (some 6), .p .mov [.c (.int .i64 0)], [], none⟩])
   (.seq (.region false [
    ⟨0, (some 11), .p .mov [.t 0], [], none⟩,
    ⟨1, (some 12), .p .mov [.t 1], [], none⟩,
    ⟨2, (some 13), .c (.call 83) [.t 11, .t 12], [], none⟩,
    ⟨3, (some 10), .p .mov [.t 13], [], none⟩,
    ⟨4, (some 14), .p (.ext 0) [.t 10], [], none⟩,
    ⟨5, (some 15), .p (.ext 1) [.t 10], [], none⟩,
    ⟨6, (some 16), .p (.ext 2) [.t 10], [], none⟩,
    ⟨7, (some 7), .p .mov [.t 14], [], none⟩,
    ⟨8, (some 8), .p .mov [.t 15], [], none⟩,
    ⟨9, (some 9), .p .mov [.t 16], [], none⟩])
   (.seq (.seq (.region false [
    ⟨0, (some 17), .p .mov [.t 9], [], none⟩,
    ⟨1, (some 18), .p (.bin .neq) [.t 17, .c (.int .i64 0)], [], none⟩])
   (.cond (.t 18) (.seq (.region false [
      ⟨0, (some 19), .p .mov [.t 9], [], none⟩,
      ⟨1, (some 4), .p .mov [.c (.sl 1 .nil [])], [], none⟩,
      ⟨2, (some 5), .p .mov [.c (.int .i64 0)], [], none⟩,
      ⟨3, (some 6), .p .mov [.t 19], [], none⟩])
     (.ret))
    (.skip)))
   (.seq (.seq (.region false [
    ⟨0, (some 20), .p .mov [.t 7], [], none⟩,
    ⟨1, (some 21), .p .mov [.t 0], [], none⟩,
    ⟨2, (some 22), .p .len [.t 21], [], none⟩,
    ⟨3, (some 23), .p .mov [.t 8], [], none⟩,
    ⟨4, (some 24), .p (.bin .sub) [.t 22, .t 23], [], none⟩,
    ⟨5, (some 25), .p (.conv .u64) [.t 24], [], none⟩,
    ⟨6, (some 26), .p (.bin .gtr) [.t 20, .t 25], [], none⟩])
   (.cond (.t 26) (.seq (.region false [
      ⟨0, (some 4), .p .mov [.c (.sl 1 .nil [])], [], none⟩,
      ⟨1, (some 5), .p .mov [.c (.int .i64 0)], [], none⟩,
      ⟨2, (some 6), .p .mov [.c (.int .i64 3)], [], none⟩])
     (.ret))
    (.skip)))
   (.seq (.region false [
    ⟨0, (some 27), .p .mov [.t 0], [], none⟩,
    ⟨1, (some 28), .p .mov [.t 8], [], none⟩,
    ⟨2, (some 29), .p .mov [.t 8], [], none⟩,
    ⟨3, (some 30), .p .mov [.t 7], [], none⟩,
    ⟨4, (some 31), .p (.conv .i64) [.t 30], [], none⟩,
    ⟨5, (some 32), .p (.bin .add) [.t 29, .t 31], [], none⟩,
    ⟨6, (some 33), .p (.slsl 1 true true false) [.t 27, .t 28, .t 32], [], none⟩,
    ⟨7, (some 34), .c (.call 84) [.t 33], [], none⟩,
    ⟨8, (some 35), .p .mov [.t 8], [], none⟩,
    ⟨9, (some 36), .p .mov [.t 7], [], none⟩,
    ⟨10, (some 37), .p (.conv .i64) [.t 36], [], none⟩,
    ⟨11, (some 38), .p (.bin .add) [.t 35, .t 37], [], none⟩,
    ⟨12, (some 4), .p .mov [.t 34], [], none⟩,
    ⟨13, (some 5), .p .mov [.t 38], [], none⟩,
    ⟨14, (some 6), .p .mov [.c (.int .i64 0)], [], none⟩])
   (.hint (.freeze 4) (.ret))))))⟩
def c54 : AFun := ⟨false, 22, [.tmp 6],
  .seq (.region false [
    ⟨0, (some 6), .p .mov [.c (.bool false)], [], none⟩])
   (.seq (.seq (.region false [
    ⟨0, (some 7), .p .mov [.t 0], [], none⟩,
    ⟨1, (some 8), .p .nilc [.t 7], [], none⟩,
    ⟨2, (some 9), .p (.fld 2) [.t 8], [], none⟩,
    ⟨3, (some 10), .ld false 1 (.t 9) 0 0, [], none⟩,
    ⟨4, (some 11), .p .mov [.t 10], [], none⟩,
    ⟨5, (some 12), .p .mov [.t 2], [], (some (11, false))⟩,
    ⟨6, (some 13), .p (.bin .neq) [.t 12, .c (.int .i64 0)], [], (some (11, false))⟩,
    ⟨7, (some 14), .p .pick [.t 11, .c (.bool true), .t 13], [], none⟩])
   (.cond (.t 14) (.seq (.region false [
      ⟨0, (some 15), .p .mov [.t 0], [], none⟩,
      ⟨1, (some 16), .p .nilc [.t 15], [], none⟩,
      ⟨2, (some 17), .p (.fld 2) [.t 16], [], none⟩,
      ⟨3, none, .c (.store 1) [.t 17, .c (.bool true)], [], none⟩])
     (.seq (.region false [
      ⟨0, (some 6), .p .mov [.c (.bool false)], [], none⟩])
     (.ret)))
    (.skip)))
   (.seq (.region false [
    ⟨0, (some 18), .p .mov [.t 0], [], none⟩,
    ⟨1, (some 19), .p .mov [.t 1], [], none⟩,
    ⟨2, (some 20), .p .nilc [.t 18], [], none⟩,
    ⟨3, (some 21), .p (.fld 1) [.t 20], [], none⟩,
    ⟨4, none, .c (.store 1) [.t 21, .t 19], [], none⟩])
   (.seq (.region false [
    ⟨0, (some 6), .p .mov [.c (.bool true)], [], none⟩])
   (.ret))))⟩
def c55 : AFun := ⟨false, 21, [.tmp 4, .tmp 5, .tmp 6],
  .seq (.region false [
    ⟨0, (some 4), .p .mov [.c (.int .u64 0)], [], none⟩,
    ⟨1, (some 5), .p .mov [.c (.int .i64 0)], [], none⟩,
    ⟨2, (some 6), .p .mov [.c (.int .i64 0)], [], none⟩])
   (.seq (.region false [
    ⟨0, (some 11), .p .mov [.t 0], [], none⟩,
    ⟨1, (some 12), .p .mov [.t 1], [], none⟩,
    ⟨2, (some 13), .c (.call 85) [.t 11, .t 12, .c (.int .i64 8)], [], none⟩,
    ⟨3, (some 10), .p .mov [.t 13], [], none⟩,
    ⟨4, (some 14), .p (.ext 0) [.t 10], [], none⟩,
    ⟨5, (some 15), .p (.ext 1) [.t 10], [], none⟩,
    ⟨6, (some 16), .p (.ext 2) [.t 10], [], none⟩,
    ⟨7, (some 7), .n (.alloc (.agg [.int .u64 0, .int .u64 0, .int .u64 0, .int .u64 0])) [] 0 0, [], none⟩,
    ⟨8, none, .c (.store 4) [.t 7, .t 14], [], none⟩,
    ⟨9, (some 8), .p .mov [.t 15], [], none⟩,
    ⟨10, (some 9), .p .mov [.t 16], [], none⟩])
   (.seq (.region false [
    ⟨0, (some 17), .p (.ixa 4 1) [.t 7, .c (.int .i64 0)], [], none⟩,
    ⟨1, (some 18), .ld false 1 (.t 17) 0 0, [], none⟩,
    ⟨2, (some 19), .p .mov [.t 8], [], none⟩,
    ⟨3, (some 20), .p .mov [.t 9], [], none⟩,
    ⟨4, (some 4), .p .mov [.t 18], [], none⟩,
    ⟨5, (some 5), .p .mov [.t 19], [], none⟩,
    ⟨6, (some 6), .p .mov [.t 20], [], none⟩])
   (.ret)))⟩
def c56_l0 : ACode :=
  .seq (.region false [
    ⟨0, (some 12), .p (.bin .lss) [.t 11, .t 10], [], none⟩])
   (.seq (.cond (.t 12) (.skip)
    (.exit 0))
   (.seq (.block 1 (.seq (.region false [
      ⟨0, (some 13), .p (.ixs 1) [.t 9, .t 11], [], none⟩,
      ⟨1, (some 14), .ld false 1 (.t 13) 0 0, [], none⟩,
      ⟨2, (some 5), .p .mov [.t 14], [], none⟩])
     (.seq (.region false [
      ⟨0, (some 15), .p .mov [.t 3], [], none⟩,
      ⟨1, (some 16), .p .mov [.t 5], [], none⟩,
      ⟨2, (some 17), .p .len [.t 16], [], none⟩,
      ⟨3, (some 18), .p (.bin .add) [.t 15, .t 17], [], none⟩,
      ⟨4, (some 3), .p .mov [.t 18], [], none⟩])
     (.seq (.region false [
      ⟨0, (some 19), .p .mov [.t 3], [], none⟩,
      ⟨1, (some 20), .p (.bin .lss) [.t 19, .c (.int .i64 0)], [], none⟩])
     (.cond (.t 20) (.region false [
        ⟨0, (some 21), .p (.mkif 9) [.c (.str [108, 101, 110, 32, 111, 117, 116, 32, 111, 102, 32, 114, 97, 110, 103, 101])], [], none⟩,
        ⟨1, none, .bad, [], none⟩])
      (.skip))))))
   (.region false [
    ⟨0, (some 22), .p (.bin .add) [.t 11, .c (.int .i64 1)], [], none⟩,
    ⟨1, (some 11), .p .mov [.t 22], [], none⟩])))
def c56_l1 : ACode :=
  .seq (.region false [
    ⟨0, (some 28), .p (.bin .lss) [.t 27, .t 26], [], none⟩])
   (.seq (.cond (.t 28) (.skip)
    (.exit 2))
   (.seq (.block 3 (.seq (.region false [
      ⟨0, (some 29), .p (.ixs 1) [.t 25, .t 27], [], none⟩,
      ⟨1, (some 30), .ld false 1 (.t 29) 0 0, [], none⟩,
      ⟨2, (some 8), .p .mov [.t 30], [], none⟩])
     (.region false [
      ⟨0, (some 31), .p .mov [.t 6], [], none⟩,
      ⟨1, (some 32), .p .mov [.t 8], [], none⟩,
      ⟨2, (some 33), .c (.app 1 1) [.t 31, .t 32], [], none⟩,
      ⟨3, (some 6), .p .mov [.t 33], [], none⟩])))
   (.region false [
    ⟨0, (some 34), .p (.bin .add) [.t 27, .c (.int .i64 1)], [], none⟩,
    ⟨1, (some 27), .p .mov [.t 34], [], none⟩])))
def c56 : AFun := ⟨false, 36, [.tmp 2],
  .seq (.region false [
    ⟨0, (some 2), .p .mov [.c (.sl 1 .nil [])], [], none⟩])
   (.seq (.region false [
    ⟨0, (some 3), .p .mov [.c (.int .i64 0)], [], none⟩])
   (.seq (.seq (.region false [
    ⟨0, (some 9), .p .mov [.t 0], [], none⟩,
    ⟨1, (some 10), .p .len [.t 9], [], none⟩,
    ⟨2, (some 11), .p .mov [.c (.int .i64 0)], [], none⟩])
   (.block 0 (.loop [true, false, false, true, false, false, false, false, false, true, true, true] c56_l0)))
   (.seq (.region false [
    ⟨0, (some 23), .p .mov [.t 3], [], none⟩,
    ⟨1, (some 24), .c (.call 86) [.c (.sl 1 .nil []), .t 23], [], none⟩,
    ⟨2, (some 6), .p .mov [.t 24], [], none⟩])
   (.seq (.seq (.region false [
    ⟨0, (some 25), .p .mov [.t 0], [], none⟩,
    ⟨1, (some 26), .p .len [.t 25], [], none⟩,
    ⟨2, (some 27), .p .mov [.c (.int .i64 0)], [], none⟩])
   (.block 2 (.loop [false, false, false, false, false, false, true, false, false, false, false, false, false, false, false, false, false, false, false, false, false, false, false, false, false, true, true, true] c56_l1)))
   (.seq (.region false [
    ⟨0, (some 35), .p .mov [.t 6], [], none⟩,
    ⟨1, (some 2), .p .mov [.t 35], [], none⟩])
   (.ret))))))⟩
def c57_l0 : ACode :=
  .seq (.seq (.region false [
    ⟨0, (some 15), .p .mov [.t 5], [], none⟩,
    ⟨1, (some 16), .p (.bin .geq) [.t 15, .c (.int .i64 0)], [], none⟩])
   (.cond (.t 16) (.skip)
    (.exit 0)))
   (.seq (.block 1 (.region false [
      ⟨0, (some 19), .p .mov [.t 4], [], none⟩,
      ⟨1, (some 20), .p .mov [.t 5], [], none⟩,
      ⟨2, (some 21), .p (.bin .quo) [.t 20, .c (.int .i64 8)], [], none⟩,
      ⟨3, (some 22), .p (.ixa 4 1) [.t 1, .t 21], [], none⟩,
      ⟨4, (some 23), .ld false 1 (.t 22) 0 0, [], none⟩,
      ⟨5, (some 24), .p .mov [.t 5], [], none⟩,
      ⟨6, (some 25), .p (.bin .rem) [.t 24, .c (.int .i64 8)], [], none⟩,
      ⟨7, (some 26), .p (.bin .mul) [.c (.int .i64 8), .t 25], [], none⟩,
      ⟨8, (some 27), .p (.bin .shr) [.t 23, .t 26], [], none⟩,
      ⟨9, (some 28), .p (.conv .u8) [.t 27], [], none⟩,
      ⟨10, (some 29), .n (.bsl 1 (.int .u8 0) 1 [0]) [.t 28] 0 0, [], none⟩,
      ⟨11, (some 30), .c (.app 1 1) [.t 19, .t 29], [], none⟩,
      ⟨12, (some 4), .p .mov [.t 30], [], none⟩]))
   (.region false [
    ⟨0, (some 17), .p .mov [.t 5], [], none⟩,
    ⟨1, (some 18), .p (.bin .sub) [.t 17, .c (.int .i64 1)], [], none⟩,
    ⟨2, (some 5), .p .mov [.t 18], [], none⟩]))
def c57 : AFun := ⟨false, 32, [.tmp 2],
  .seq (.region false [
    ⟨0, (some 1), .n (.box 4) [.t 0] 0 0, [], none⟩,
    ⟨1, (some 2), .p .mov [.c (.sl 1 .nil [])], [], none⟩])
   (.seq (.region false [
    ⟨0, (some 6), .ld true 4 (.t 1) 0 0, [], none⟩,
    ⟨1, (some 7), .c (.call 87) [.t 6], [], none⟩,
    ⟨2, (some 8), .p (.bin .add) [.t 7, .c (.int .i64 7)], [], none⟩,
    ⟨3, (some 9), .p (.bin .quo) [.t 8, .c (.int .i64 8)], [], none⟩,
    ⟨4, (some 3), .p .mov [.t 9], [], none⟩])
   (.seq (.region false [
    ⟨0, (some 10), .p .mov [.t 3], [], none⟩,
    ⟨1, (some 11), .p (.conv .u8) [.t 10], [], none⟩,
    ⟨2, (some 12), .n (.bsl 1 (.int .u8 0) 1 [0]) [.t 11] 0 0, [], none⟩,
    ⟨3, (some 4), .p .mov [.t 12], [], none⟩])
   (.seq (.seq (.region false [
    ⟨0, (some 13), .p .mov [.t 3], [], none⟩,
    ⟨1, (some 14), .p (.bin .sub) [.t 13, .c (.int .i64 1)], [], none⟩,
    ⟨2, (some 5), .p .mov [.t 14], [], none⟩])
   (.block 0 (.loop [false, true, false, false, true, true] c57_l0)))
   (.seq (.region false [
    ⟨0, (some 31), .p .mov [.t 4], [], none⟩,
    ⟨1, (some 2), .p .mov [.t 31], [], none⟩])
   (.ret)))))⟩
def c58 : AFun := ⟨false, 5, [.cell 2 true 4],
  .seq (.region false [
    ⟨0, (some 2), .n (.alloc (.agg [.int .u64 0, .int .u64 0, .int .u64 0, .int .u64 0])) [] 0 0, [], none⟩])
   (.seq (.region false [
    ⟨0, (some 3), .p .mov [.t 0], [], none⟩,
    ⟨1, (some 4), .p (.bld [.int .u64 0, .int .u64 0, .int .u64 0, .int .u64 0] [(0, 1)]) [.t 3], [], none⟩,
    ⟨2, none, .c (.store 4) [.t 2, .t 4], [], none⟩])
   (.ret))⟩
def c70 : AFun := ⟨true, 8, [.tmp 2],
  .seq (.region false [
    ⟨0, (some 2), .p .mov [.c (.sl 6 .nil [])], [], none⟩])
   (.seq (.seq (.region false [
    ⟨0, (some 3), .p .mov [.t 0], [], none⟩,
    ⟨1, (some 4), .p (.eqn false) [.t 3], [], none⟩])
   (.cond (.t 4) (.seq (.region false [
      ⟨0, (some 2), .p .mov [.c (.sl 6 .nil [])], [], none⟩])
     (.ret))
    (.skip)))
   (.seq (.region false [
    ⟨0, (some 5), .n (.bsl 6 (.agg [.int .u64 0, .int .u64 0, .int .u64 0, .int .u64 0, .int .u64 0, .int .u64 0]) 0 []) [] 0 0, [], none⟩,
    ⟨1, (some 6), .p .mov [.t 0], [], none⟩,
    ⟨2, (some 7), .c (.app 6 48) [.t 5, .t 6], [], none⟩,
    ⟨3, (some 2), .p .mov [.t 7], [], none⟩])
   (.ret)))⟩
def c71 : AFun := ⟨true, 8, [.tmp 2],
  .seq (.region false [
    ⟨0, (some 2), .p .mov [.c (.sl 6 .nil [])], [], none⟩])
   (.seq (.seq (.region false [
    ⟨0, (some 3), .p .mov [.t 0], [], none⟩,
    ⟨1, (some 4), .p (.eqn false) [.t 3], [], none⟩])
   (.cond (.t 4) (.seq (.region false [
      ⟨0, (some 2), .p .mov [.c (.sl 6 .nil [])], [], none⟩])
     (.ret))
    (.skip)))
   (.seq (.region false [
    ⟨0, (some 5), .n (.bsl 6 (.agg [.int .u64 0, .int .u64 0, .int .u64 0, .int .u64 0, .int .u64 0, .int .u64 0]) 0 []) [] 0 0, [], none⟩,
    ⟨1, (some 6), .p .mov [.t 0], [], none⟩,
    ⟨2, (some 7), .c (.app 6 48) [.t 5, .t 6], [], none⟩,
    ⟨3, (some 2), .p .mov [.t 7], [], none⟩])
   (.ret)))⟩
def c72 : AFun := ⟨true, 8, [.tmp 2],
  .seq (.region false [
    ⟨0, (some 2), .p .mov [.c (.sl 5 .nil [])], [], none⟩])
   (.seq (.seq (.region false [
    ⟨0, (some 3), .p .mov [.t 0], [], none⟩,
    ⟨1, (some 4), .p (.eqn false) [.t 3], [], none⟩])
   (.cond (.t 4) (.seq (.region false [
      ⟨0, (some 2), .p .mov [.c (.sl 5 .nil [])], [], none⟩])
     (.ret))
    (.skip)))
   (.seq (.region false [
    ⟨0, (some 5), .n (.bsl 5 (.agg [.int .u64 0, .int .u64 0, .int .u64 0, .int .u64 0, .int .u64 0]) 0 []) [] 0 0, [], none⟩,
    ⟨1, (some 6), .p .mov [.t 0], [], none⟩,
    ⟨2, (some 7), .c (.app 5 40) [.t 5, .t 6], [], none⟩,
    ⟨3, (some 2), .p .mov [.t 7], [], none⟩])
   (.ret)))⟩
def c76 : AFun := ⟨false, 5, [.cell 0 true 21],
  .seq (.region false [
    ⟨0, (some 0), .n (.alloc (.agg [.int .u64 0, .int .u64 0, .int .u64 0, .int .u64 0, .int .u64 0, .int .u64 0, .int .u64 0, .int .u64 0, .int .u64 0, .int .u64 0, .int .u64 0, .int .u64 0, .int .u64 0, .int .u64 0, .int .u64 0, .int .u64 0, .int .u64 0, .int .u64 0, .int .u64 0, .int .u64 0, .int .u64 0])) [] 0 0, [], none⟩])
   (.seq (.region false [
    ⟨0, (some 1), .c (.call 58) [.c (.int .u64 100000000)], [], none⟩,
    ⟨1, (some 2), .c (.call 58) [.c (.int .u64 60000000)], [], none⟩,
    ⟨2, (some 3), .c (.call 58) [.c (.int .u64 10)], [], none⟩,
    ⟨3, (some 4), .p (.bld [.int .u64 0, .int .u64 0, .int .u64 0, .int .u64 0, .int .u64 0, .int .u64 0, .int .u64 0, .int .u64 0, .int .u64 0, .int .u64 0, .int .u64 0, .int .u64 0, .int .u64 0, .int .u64 0, .int .u64 0, .int .u64 0, .int .u64 0, .int .u64 0, .int .u64 0, .int .u64 0, .int .u64 0] [(0, 1), (1, 1), (2, 1), (3, 4), (7, 1), (8, 4), (12, 1), (13, 4), (17, 1), (18, 1), (19, 1), (20, 1)]) [.c (.int .u64 7000000), .c (.int .u64 10), .c (.int .u64 102), .t 1, .c (.int .u64 32000000), .t 2, .c (.int .u64 1000), .t 3, .c (.int .u64 160000000), .c (.int .u64 10), .c (.int .u64 16), .c (.int .u64 65536)], [], none⟩,
    ⟨4, none, .c (.store 21) [.t 0, .t 4], [], none⟩])
   (.ret))⟩
def c77 : AFun := ⟨false, 17, [.cell 2 true 7, .tmp 3],
  .seq (.region false [
    ⟨0, (some 1), .n (.box 21) [.t 0] 0 0, [], none⟩,
    ⟨1, (some 2), .n (.alloc (.agg [.int .u64 0, .int .u64 0, .int .u64 0, .int .u64 0, .int .u64 0, .int .u64 0, .int .u64 0])) [] 0 0, [], none⟩,
    ⟨2, (some 3), .p .mov [.c (.int .i64 0)], [], none⟩])
   (.seq (.region false [
    ⟨0, (some 7), .ld true 21 (.t 1) 0 0, [], none⟩,
    ⟨1, (some 8), .c (.call 123) [.c (.int .u64 0), .t 7], [], none⟩,
    ⟨2, (some 6), .p .mov [.t 8], [], none⟩,
    ⟨3, (some 9), .p (.ext 0) [.t 6], [], none⟩,
    ⟨4, (some 10), .p (.ext 1) [.t 6], [], none⟩,
    ⟨5, (some 4), .n (.alloc (.agg [.int .u64 0, .int .u64 0, .int .u64 0, .int .u64 0])) [] 0 0, [], none⟩,
    ⟨6, none, .c (.store 4) [.t 4, .t 9], [], none⟩,
    ⟨7, (some 5), .p .mov [.t 10], [], none⟩])
   (.seq (.seq (.region false [
    ⟨0, (some 11), .p .mov [.t 5], [], none⟩,
    ⟨1, (some 12), .p (.bin .neq) [.t 11, .c (.int .i64 0)], [], none⟩])
   (.cond (.t 12) (.seq (.region false [
      ⟨0, (some 13), .p (.bld [.int .u64 0, .int .u64 0, .int .u64 0, .int .u64 0, .int .u64 0, .int .u64 0, .int .u64 0] []) [], [], none⟩,
      ⟨1, (some 14), .p .mov [.t 5], [], none⟩,
      ⟨2, none, .c (.store 7) [.t 2, .t 13], [], none⟩,
      ⟨3, (some 3), .p .mov [.t 14], [], none⟩])
     (.ret))
    (.skip)))
   (.seq (.region false [
    ⟨0, (some 15), .ld true 4 (.t 4) 0 0, [], none⟩,
    ⟨1, (some 16), .p (.bld [.int .u64 0, .int .u64 0, .int .u64 0, .int .u64 0, .int .u64 0, .int .u64 0, .int .u64 0] [(0, 1), (3, 4)]) [.c (.int .u64 1), .t 15], [], none⟩,
    ⟨2, none, .c (.store 7) [.t 2, .t 16], [], none⟩,
    ⟨3, (some 3), .p .mov [.c (.int .i64 0)], [], none⟩])
   (.ret))))⟩
def c78 : AFun := ⟨false, 3, [.cell 0 true 13],
  .seq (.region false [
    ⟨0, (some 0), .n (.alloc (.agg [.int .u64 0, .int .u64 0, .int .u64 0, .int .u64 0, .int .u64 0, .int .u64 0, .int .u64 0, .bool false, .int .u64 0, .int .u64 0, .int .u64 0, .int .u64 0, .sl 18 .nil []])) [] 0 0, [], none⟩])
   (.seq (.region false [
    ⟨0, (some 1), .c (.call 58) [.c (.int .u64 1000000000)], [], none⟩,
    ⟨1, (some 2), .p (.bld [.int .u64 0, .int .u64 0, .int .u64 0, .int .u64 0, .int .u64 0, .int .u64 0, .int .u64 0, .bool false, .int .u64 0, .int .u64 0, .int .u64 0, .int .u64 0, .sl 18 .nil []] [(0, 4)]) [.t 1], [], none⟩,
    ⟨2, none, .c (.store 13) [.t 0, .t 2], [], none⟩])
   (.ret))⟩
def c79 : AFun := ⟨false, 3, [.tmp 0],
  .seq (.region false [
    ⟨0, (some 0), .p .mov [.c (.nilp)], [], none⟩])
   (.seq (.region false [
    ⟨0, (some 1), .p (.bld [.sl 6 .nil [], .int .u64 0, .int .u64 0, .int .u64 0, .int .u64 0, .int .u64 0, .int .u64 0, .int .u64 0, .int .u64 0, .int .u64 0, .int .u64 0, .int .u64 0, .int .u64 0, .int .u64 0, .int .u64 0, .int .u64 0, .int .u64 0] []) [], [], none⟩,
    ⟨1, (some 2), .n (.box 17) [.t 1] 0 0, [], none⟩,
    ⟨2, (some 0), .p .mov [.t 2], [], none⟩])
   (.ret))⟩
def c80 : AFun := ⟨false, 4, [.tmp 0],
  .seq (.region false [
    ⟨0, (some 0), .p .mov [.c (.nilp)], [], none⟩])
   (.seq (.region false [
    ⟨0, (some 1), .c (.call 124) [], [], none⟩,
    ⟨1, (some 2), .p (.bld [.sl 6 .nil [], .nilp] [(1, 1)]) [.t 1], [], none⟩,
    ⟨2, (some 3), .n (.box 2) [.t 2] 0 0, [], none⟩,
    ⟨3, (some 0), .p .mov [.t 3], [], none⟩])
   (.ret))⟩
def c81 : AFun := ⟨false, 3, [.tmp 0],
  .seq (.region false [
    ⟨0, (some 0), .p .mov [.c (.nilp)], [], none⟩])
   (.seq (.region false [
    ⟨0, (some 1), .p (.bld [.sl 32 .nil [], .sl 1 .nil [], .int .u64 0, .int .u64 0, .int .u64 0, .int .u64 0, .sl 5 .nil []] []) [], [], none⟩,
    ⟨1, (some 2), .n (.box 7) [.t 1] 0 0, [], none⟩,
    ⟨2, (some 0), .p .mov [.t 2], [], none⟩])
   (.ret))⟩
def c82 : AFun := ⟨false, 18, [.tmp 4],
  .seq (.region false [
    ⟨0, (some 3), .n (.box 4) [.t 1] 0 0, [], none⟩,
    ⟨1, (some 4), .p .mov [.c (.sl 1 .nil [])], [], none⟩])
   (.seq (.region false [
    ⟨0, (some 6), .ld true 4 (.t 3) 0 0, [], none⟩,
    ⟨1, (some 7), .c (.call 125) [.t 6], [], none⟩,
    ⟨2, (some 5), .p .mov [.t 7], [], none⟩])
   (.seq (.region false [
    ⟨0, (some 8), .n (.bsl 1 (.int .u8 0) 0 []) [] 0 0, [], none⟩,
    ⟨1, (some 9), .p .mov [.t 0], [], none⟩,
    ⟨2, (some 10), .c (.app 1 1) [.t 8, .t 9], [], none⟩,
    ⟨3, (some 11), .p .mov [.t 5], [], none⟩,
    ⟨4, (some 12), .p .len [.t 11], [], none⟩,
    ⟨5, (some 13), .p (.conv .u8) [.t 12], [], none⟩,
    ⟨6, (some 14), .n (.bsl 1 (.int .u8 0) 1 [0]) [.t 13] 0 0, [], none⟩,
    ⟨7, (some 15), .c (.app 1 1) [.t 10, .t 14], [], none⟩,
    ⟨8, (some 16), .p .mov [.t 5], [], none⟩,
    ⟨9, (some 17), .c (.app 1 1) [.t 15, .t 16], [], none⟩,
    ⟨10, (some 4), .p .mov [.t 17], [], none⟩])
   (.ret)))⟩
def c83 : AFun := ⟨false, 21, [.tmp 4, .tmp 5, .tmp 6],
  .seq (.region false [
    ⟨0, (some 4), .p .mov [.c (.int .u64 0)], [], none⟩,
    ⟨1, (some 5), .p .mov [.c (.int .i64 0)], [], none⟩,
    ⟨2, (some 6), .p .mov [.c (.int .i64 0)], [], none⟩])
   (.seq (.region false [
    ⟨0, (some 11), .p .mov [.t 0], [], none⟩,
    ⟨1, (some 12), .p .mov [.t 1], [], none⟩,
    ⟨2, (some 13), .c (.call 126) [.t 11, .t 12, .c (.int .i64 8)], [], none⟩,
    ⟨3, (some 10), .p .mov [.t 13], [], none⟩,
    ⟨4, (some 14), .p (.ext 0) [.t 10], [], none⟩,
    ⟨5, (some 15), .p (.ext 1) [.t 10], [], none⟩,
    ⟨6, (some 16), .p (.ext 2) [.t 10], [], none⟩,
    ⟨7, (some 7), .n (.alloc (.agg [.int .u64 0, .int .u64 0, .int .u64 0, .int .u64 0])) [] 0 0, [], none⟩,
    ⟨8, none, .c (.store 4) [.t 7, .t 14], [], none⟩,
    ⟨9, (some 8), .p .mov [.t 15], [], none⟩,
    ⟨10, (some 9), .p .mov [.t 16], [], none⟩])
   (.seq (.region false [
    ⟨0, (some 17), .p (.ixa 4 1) [.t 7, .c (.int .i64 0)], [], none⟩,
    ⟨1, (some 18), .ld false 1 (.t 17) 0 0, [], none⟩,
    ⟨2, (some 19), .p .mov [.t 8], [], none⟩,
    ⟨3, (some 20), .p .mov [.t 9], [], none⟩,
    ⟨4, (some 4), .p .mov [.t 18], [], none⟩,
    ⟨5, (some 5), .p .mov [.t 19], [], none⟩,
    ⟨6, (some 6), .p .mov [.t 20], [], none⟩])
   (.ret)))⟩
def c84 : AFun := ⟨true, 8, [.tmp 2],
  .seq (.region false [
    ⟨0, (some 2), .p .mov [.c (.sl 1 .nil [])], [], none⟩])
   (.seq (.seq (.region false [
    ⟨0, (some 3), .p .mov [.t 0], [], none⟩,
    ⟨1, (some 4), .p (.eqn false) [.t 3], [], none⟩])
   (.cond (.t 4) (.seq (.region false [
      ⟨0, (some 2), .p .mov [.c (.sl 1 .nil [])], [], none⟩])
     (.ret))
    (.skip)))
   (.seq (.region false [
    ⟨0, (some 5), .n (.bsl 1 (.int .u8 0) 0 []) [] 0 0, [], none⟩,
    ⟨1, (some 6), .p .mov [.t 0], [], none⟩,
    ⟨2, (some 7), .c (.app 1 1) [.t 5, .t 6], [], none⟩,
    ⟨3, (some 2), .p .mov [.t 7], [], none⟩])
   (.ret)))⟩
def c85_l0 : ACode :=
  .seq (.seq (.region false [
    ⟨0, (some 69), .p .mov [.t 11], [], none⟩,
    ⟨1, (some 70), .p .mov [.t 10], [], none⟩,
    ⟨2, (some 71), .p (.bin .lss) [.t 69, .t 70], [], none⟩])
   (.cond (.t 71) (.skip)
    (.exit 0)))
   (.seq (.block 1 (.seq (.region false [
      ⟨0, (some 74), .p .mov [.t 10], [], none⟩,
      ⟨1, (some 75), .p (.bin .sub) [.t 74, .c (.int .i64 1)], [], none⟩,
      ⟨2, (some 76), .p .mov [.t 11], [], none⟩,
      ⟨3, (some 77), .p (.bin .sub) [.t 75, .t 76], [], none⟩,
      ⟨4, (some 12), .p .mov [.t 77], [], none⟩])
     (.region true [
      ⟨0, (some 78), .p .mov [.t 12], [], none⟩,
      ⟨1, (some 79), .p (.bin .quo) [.t 78, .c (.int .i64 8)], [0], none⟩,
      ⟨2, (some 80), .p .mov [.t 12], [], none⟩,
      ⟨3, (some 81), .p (.bin .quo) [.t 80, .c (.int .i64 8)], [2], none⟩,
      ⟨4, (some 82), .p (.ixa 4 1) [.t 9, .t 81], [3], none⟩,
      ⟨5, (some 83), .ld false 1 (.t 82) 0 0, [4], none⟩,
      ⟨6, (some 84), .p .mov [.t 0], [], none⟩,
      ⟨7, (some 85), .p .mov [.t 1], [], none⟩,
      ⟨8, (some 86), .p (.bin .add) [.t 85, .c (.int .i64 1)], [7], none⟩,
      ⟨9, (some 87), .p .mov [.t 11], [], none⟩,
      ⟨10, (some 88), .p (.bin .add) [.t 86, .t 87], [8, 9], none⟩,
      ⟨11, (some 89), .p (.ixs 1) [.t 84, .t 88], [6, 10], none⟩,
      ⟨12, (some 90), .ld false 1 (.t 89) 0 0, [11], none⟩,
      ⟨13, (some 91), .p (.conv .u64) [.t 90], [12], none⟩,
      ⟨14, (some 92), .p .mov [.t 12], [], none⟩,
      ⟨15, (some 93), .p (.bin .rem) [.t 92, .c (.int .i64 8)], [14], none⟩,
      ⟨16, (some 94), .p (.bin .mul) [.c (.int .i64 8), .t 93], [15], none⟩,
      ⟨17, (some 95), .p (.conv .u64) [.t 94], [16], none⟩,
      ⟨18, (some 96), .p (.bin .shl) [.t 91, .t 95], [13, 17], none⟩,
      ⟨19, (some 97), .p (.bin .add) [.t 83, .t 96], [5, 18], none⟩,
      ⟨20, (some 98), .p (.ixa 4 1) [.t 9, .t 79], [1, 0, 2, 3, 4, 5, 6, 7, 8, 9, 10, 11, 12, 13, 14, 15, 16, 17, 18, 19], none⟩,
      ⟨21, none, .c (.store 1) [.t 98, .t 97], [20, 19, 0, 1, 2, 3, 4, 5, 6, 7, 8, 9, 10, 11, 12, 13, 14, 15, 16, 17, 18], none⟩])))
   (.region false [
    ⟨0, (some 72), .p .mov [.t 11], [], none⟩,
    ⟨1, (some 73), .p (.bin .add) [.t 72, .c (.int .i64 1)], [], none⟩,
    ⟨2, (some 11), .p .mov [.t 73], [], none⟩]))
def c85 : AFun := ⟨false, 104, [.cell 6 true 4, .tmp 7, .tmp 8],
  .seq (.region false [
    ⟨0, (some 6), .n (.alloc (.agg [.int .u64 0, .int .u64 0, .int .u64 0, .int .u64 0])) [] 0 0, [], none⟩,
    ⟨1, (some 7), .p .mov [.c (.int .i64 0)], [], none⟩,
    ⟨2, (some 8), .p .mov [.c (.int .i64 0)], [], none⟩])
   (.seq (.region false [
    ⟨0, (some 9), .n (.alloc (.agg [.int .u64 0, .int .u64 0, .int .u64 0, .int .u64 0])) [] 0 0, [], none⟩])
   (.seq (.seq (.region false [
    ⟨0, (some 13), .p .mov [.t 1], [], none⟩,
    ⟨1, (some 14), .p (.bin .lss) [.t 13, .c (.int .i64 0)], [], none⟩,
    ⟨2, (some 15), .p .mov [.t 14], [], none⟩,
    ⟨3, (some 16), .p .mov [.t 1], [], (some (15, false))⟩,
    ⟨4, (some 17), .p .mov [.t 0], [], (some (15, false))⟩,
    ⟨5, (some 18), .p .len [.t 17], [], (some (15, false))⟩,
    ⟨6, (some 19), .p (.bin .gtr) [.t 16, .t 18], [], (some (15, false))⟩,
    ⟨7, (some 20), .p .pick [.t 15, .c (.bool true), .t 19], [], none⟩])
   (.cond (.t 20) (.seq (.region false [
      ⟨0, (some 21), .ld true 4 (.t 9) 0 0, [], none⟩,
      ⟨1, none, .c (.store 4) [.t 6, .t 21], [], none⟩,
      ⟨2, (some 7), .p .mov [.c (.int .i64 0)], [], none⟩,
      ⟨3, (some 8), .p .mov [.c (.int .i64 2)], [], none⟩])
     (.ret))
    (.skip)))
   (.seq (.seq (.region false [
    ⟨0, (some 22), .p .mov [.t 1], [], none⟩,
    ⟨1, (some 23), .p .mov [.t 0], [], none⟩,
    ⟨2, (some 24), .p .len [.t 23], [], none⟩,
    ⟨3, (some 25), .p (.bin .eql) [.t 22, .t 24], [], none⟩,
    ⟨4, (some 26), .p .mov [.t 25], [], none⟩,
    ⟨5, (some 27), .p .mov [.t 0], [], (some (26, false))⟩,
    ⟨6, (some 28), .p .mov [.t 1], [], (some (26, false))⟩,
    ⟨7, (some 29), .p (.ixs 1) [.t 27, .t 28], [], (some (26, false))⟩,
    ⟨8, (some 30), .ld false 1 (.t 29) 0 0, [], (some (26, false))⟩,
    ⟨9, (some 31), .p (.conv .i64) [.t 30], [], (some (26, false))⟩,
    ⟨10, (some 32), .p .mov [.t 2], [], (some (26, false))⟩,
    ⟨11, (some 33), .p (.bin .gtr) [.t 31, .t 32], [], (some (26, false))⟩,
    ⟨12, (some 34), .p .pick [.t 26, .c (.bool true), .t 33], [], none⟩,
    ⟨13, (some 35), .p .mov [.t 34], [], none⟩,
    ⟨14, (some 36), .p .mov [.t 0], [], (some (35, false))⟩,
    ⟨15, (some 37), .p .mov [.t 1], [], (some (35, false))⟩,
    ⟨16, (some 38), .p (.ixs 1) [.t 36, .t 37], [], (some (35, false))⟩,
    ⟨17, (some 39), .ld false 1 (.t 38) 0 0, [], (some (35, false))⟩,
    ⟨18, (some 40), .p (.conv .i64) [.t 39], [], (some (35, false))⟩,
    ⟨19, (some 41), .p .mov [.t 0], [], (some (35, false))⟩,
    ⟨20, (some 42), .p .len [.t 41], [], (some (35, false))⟩,
    ⟨21, (some 43), .p .mov [.t 1], [], (some (35, false))⟩,
    ⟨22, (some 44), .p (.bin .sub) [.t 42, .t 43], [], (some (35, false))⟩,
    ⟨23, (some 45), .p (.bin .sub) [.t 44, .c (.int .i64 1)], [], (some (35, false))⟩,
    ⟨24, (some 46), .p (.bin .gtr) [.t 40, .t 45], [], (some (35, false))⟩,
    ⟨25, (some 47), .p .pick [.t 35, .c (.bool true), .t 46], [], none⟩,
    ⟨26, (some 48), .p .mov [.t 47], [], none⟩,
    ⟨27, (some 49), .p .mov [.t 0], [], (some (48, false))⟩,
    ⟨28, (some 50), .p .mov [.t 1], [], (some (48, false))⟩,
    ⟨29, (some 51), .p (.ixs 1) [.t 49, .t 50], [], (some (48, false))⟩,
    ⟨30, (some 52), .ld false 1 (.t 51) 0 0, [], (some (48, false))⟩,
    ⟨31, (some 53), .p (.bin .gtr) [.t 52, .c (.int .u8 0)], [], (some (48, false))⟩,
    ⟨32, (some 54), .p .mov [.t 53], [], (some (48, false))⟩,
    ⟨33, (some 55), .p .mov [.t 0], [], (some (54, true))⟩,
    ⟨34, (some 56), .p .mov [.t 1], [], (some (54, true))⟩,
    ⟨35, (some 57), .p (.bin .add) [.t 56, .c (.int .i64 1)], [], (some (54, true))⟩,
    ⟨36, (some 58), .p (.ixs 1) [.t 55, .t 57], [], (some (54, true))⟩,
    ⟨37, (some 59), .ld false 1 (.t 58) 0 0, [], (some (54, true))⟩,
    ⟨38, (some 60), .p (.bin .eql) [.t 59, .c (.int .u8 0)], [], (some (54, true))⟩,
    ⟨39, (some 61), .p .pick [.t 54, .t 60, .c (.bool false)], [], (some (48, false))⟩,
    ⟨40, (some 62), .p .pick [.t 48, .c (.bool true), .t 61], [], none⟩])
   (.cond (.t 62) (.seq (.region false [
      ⟨0, (some 63), .ld true 4 (.t 9) 0 0, [], none⟩,
      ⟨1, none, .c (.store 4) [.t 6, .t 63], [], none⟩,
      ⟨2, (some 7), .p .mov [.c (.int .i64 0)], [], none⟩,
      ⟨3, (some 8), .p .mov [.c (.int .i64 3)], [], none⟩])
     (.ret))
    (.skip)))
   (.seq (.region false [
    ⟨0, (some 64), .p .mov [.t 0], [], none⟩,
    ⟨1, (some 65), .p .mov [.t 1], [], none⟩,
    ⟨2, (some 66), .p (.ixs 1) [.t 64, .t 65], [], none⟩,
    ⟨3, (some 67), .ld false 1 (.t 66) 0 0, [], none⟩,
    ⟨4, (some 68), .p (.conv .i64) [.t 67], [], none⟩,
    ⟨5, (some 10), .p .mov [.t 68], [], none⟩])
   (.seq (.seq (.region false [
    ⟨0, (some 11), .p .mov [.c (.int .i64 0)], [], none⟩])
   (.block 0 (.loop [true, true, false, false, false, false, true, false, false, true, true, true] c85_l0)))
   (.seq (.region false [
    ⟨0, (some 99), .ld true 4 (.t 9) 0 0, [], none⟩,
    ⟨1, (some 100), .p .mov [.t 1], [], none⟩,
    ⟨2, (some 101), .p (.bin .add) [.t 100, .c (.int .i64 1)], [], none⟩,
    ⟨3, (some 102), .p .mov [.t 10], [], none⟩,
    ⟨4, (some 103), .p (.bin .add) [.t 101, .t 102], [], none⟩,
    ⟨5, none, .c (.store 4) [.t 6, .t 99], [], none⟩,
    ⟨6, (some 7), .p .mov [.t 103], [], none⟩,
    ⟨7, (some 8), .p .mov [.c (.int .i64 0)], [], none⟩])
   (.ret)))))))⟩
def c86 : AFun := ⟨false, 27, [.tmp 4],
  .seq (.region false [
    ⟨0, (some 4), .p .mov [.c (.sl 1 .nil [])], [], none⟩])
   (.seq (.seq (.region false [
    ⟨0, (some 5), .p .mov [.t 1], [], none⟩,
    ⟨1, (some 6), .p (.bin .lss) [.t 5, .c (.int .i64 0)], [], none⟩])
   (.cond (.t 6) (.region false [
      ⟨0, (some 7), .p (.mkif 9) [.c (.str [99, 97, 110, 110, 111, 116, 32, 98, 101, 32, 110, 101, 103, 97, 116, 105, 118, 101])], [], none⟩,
      ⟨1, none, .bad, [], none⟩])
    (.skip)))
   (.seq (.seq (.region false [
    ⟨0, (some 8), .p .mov [.t 1], [], none⟩,
    ⟨1, (some 9), .p .mov [.t 0], [], none⟩,
    ⟨2, (some 10), .p .cap [.t 9], [], none⟩,
    ⟨3, (some 11), .p .mov [.t 0], [], none⟩,
    ⟨4, (some 12), .p .len [.t 11], [], none⟩,
    ⟨5, (some 13), .p (.bin .sub) [.t 10, .t 12], [], none⟩,
    ⟨6, (some 14), .p (.bin .sub) [.t 8, .t 13], [], none⟩,
    ⟨7, (some 1), .p .mov [.t 14], [], none⟩])
   (.seq (.region false [
    ⟨0, (some 15), .p .mov [.t 1], [], none⟩,
    ⟨1, (some 16), .p (.bin .gtr) [.t 15, .c (.int .i64 0)], [], none⟩])
   (.cond (.t 16) (.region false [
      ⟨0, (some 17), .p .mov [.t 0], [], none⟩,
      ⟨1, (some 18), .p .mov [.t 0], [], none⟩,
      ⟨2, (some 19), .p .cap [.t 18], [], none⟩,
      ⟨3, (some 20), .p (.slsl 1 false true false) [.t 17, .t 19], [], none⟩,
      ⟨4, (some 21), .p .mov [.t 1], [], none⟩,
      ⟨5, (some 22), .c (.appz 1 1 (.int .u8 0)) [.t 20, .t 21], [], none⟩,
      ⟨6, (some 23), .p .mov [.t 0], [], none⟩,
      ⟨7, (some 24), .p .len [.t 23], [], none⟩,
      ⟨8, (some 25), .p (.slsl 1 false true false) [.t 22, .t 24], [], none⟩,
      ⟨9, (some 0), .p .mov [.t 25], [], none⟩])
    (.skip))))
   (.seq (.region false [
    ⟨0, (some 26), .p .mov [.t 0], [], none⟩,
    ⟨1, (some 4), .p .mov [.t 26], [], none⟩])
   (.ret))))⟩
def c87_l0 : ACode :=
  .seq (.seq (.region false [
    ⟨0, (some 4), .p .mov [.t 3], [], none⟩,
    ⟨1, (some 5), .p (.bin .geq) [.t 4, .c (.int .i64 0)], [], none⟩])
   (.cond (.t 5) (.skip)
    (.exit 0)))
   (.seq (.block 1 (.seq (.region false [
      ⟨0, (some 8), .p .mov [.t 3], [], none⟩,
      ⟨1, (some 9), .p (.ixa 4 1) [.t 1, .t 8], [], none⟩,
      ⟨2, (some 10), .ld false 1 (.t 9) 0 0, [], none⟩,
      ⟨3, (some 11), .p (.bin .neq) [.t 10, .c (.int .u64 0)], [], none⟩])
     (.cond (.t 11) (.seq (.region false [
        ⟨0, (some 12), .p .mov [.t 3], [], none⟩,
        ⟨1, (some 13), .p (.bin .mul) [.c (.int .i64 64), .t 12], [], none⟩,
        ⟨2, (some 14), .p .mov [.t 3], [], none⟩,
        ⟨3, (some 15), .p (.ixa 4 1) [.t 1, .t 14], [], none⟩,
        ⟨4, (some 16), .ld false 1 (.t 15) 0 0, [], none⟩,
        ⟨5, (some 17), .c (.call 127) [.t 16], [], none⟩,
        ⟨6, (some 18), .p (.bin .add) [.t 13, .t 17], [], none⟩,
        ⟨7, (some 2), .p .mov [.t 18], [], none⟩])
       (.ret))
      (.skip))))
   (.region false [
    ⟨0, (some 6), .p .mov [.t 3], [], none⟩,
    ⟨1, (some 7), .p (.bin .sub) [.t 6, .c (.int .i64 1)], [], none⟩,
    ⟨2, (some 3), .p .mov [.t 7], [], none⟩]))
def c87 : AFun := ⟨false, 19, [.tmp 2],
  .seq (.region false [
    ⟨0, (some 1), .n (.box 4) [.t 0] 0 0, [], none⟩,
    ⟨1, (some 2), .p .mov [.c (.int .i64 0)], [], none⟩])
   (.seq (.seq (.region false [
    ⟨0, (some 3), .p .mov [.c (.int .i64 3)], [], none⟩])
   (.block 0 (.loop [false, true, false, true] c87_l0)))
   (.seq (.region false [
    ⟨0, (some 2), .p .mov [.c (.int .i64 0)], [], none⟩])
   (.ret)))⟩
def c102 : AFun := ⟨false, 25, [.tmp 6],
  .seq (.region false [
    ⟨0, (some 6), .p .mov [.c (.int .u64 0)], [], none⟩])
   (.seq (.region false [
    ⟨0, (some 10), .p .mov [.t 1], [], none⟩,
    ⟨1, (some 11), .p .mov [.t 2], [], none⟩,
    ⟨2, (some 12), .c (.call 156) [.t 10, .t 11], [], none⟩,
    ⟨3, (some 9), .p .mov [.t 12], [], none⟩,
    ⟨4, (some 13), .p (.ext 0) [.t 9], [], none⟩,
    ⟨5, (some 14), .p (.ext 1) [.t 9], [], none⟩,
    ⟨6, (some 7), .p .mov [.t 13], [], none⟩,
    ⟨7, (some 8), .p .mov [.t 14], [], none⟩])
   (.seq (.seq (.region false [
    ⟨0, (some 15), .p .mov [.t 7], [], none⟩,
    ⟨1, (some 16), .p (.bin .neq) [.t 15, .c (.int .u64 0)], [], none⟩,
    ⟨2, (some 17), .p .mov [.t 16], [], none⟩,
    ⟨3, (some 18), .p .mov [.t 8], [], (some (17, false))⟩,
    ⟨4, (some 19), .p .mov [.t 0], [], (some (17, false))⟩,
    ⟨5, (some 20), .p (.bin .gtr) [.t 18, .t 19], [], (some (17, false))⟩,
    ⟨6, (some 21), .p .pick [.t 17, .c (.bool true), .t 20], [], none⟩])
   (.cond (.t 21) (.seq (.region false [
      ⟨0, (some 6), .p .mov [.c (.int .u64 0)], [], none⟩])
     (.ret))
    (.skip)))
   (.seq (.region false [
    ⟨0, (some 22), .p .mov [.t 0], [], none⟩,
    ⟨1, (some 23), .p .mov [.t 8], [], none⟩,
    ⟨2, (some 24), .p (.bin .sub) [.t 22, .t 23], [], none⟩,
    ⟨3, (some 6), .p .mov [.t 24], [], none⟩])
   (.ret))))⟩
def c123 : AFun := ⟨false, 24, [.cell 4 true 4, .tmp 5],
  .seq (.region false [
    ⟨0, (some 3), .n (.box 21) [.t 1] 0 0, [], none⟩,
    ⟨1, (some 4), .n (.alloc (.agg [.int .u64 0, .int .u64 0, .int .u64 0, .int .u64 0])) [] 0 0, [], none⟩,
    ⟨2, (some 5), .p .mov [.c (.int .i64 0)], [], none⟩])
   (.seq (.region false [
    ⟨0, (some 9), .p .mov [.t 0], [], none⟩,
    ⟨1, (some 10), .ld true 21 (.t 3) 0 0, [], none⟩,
    ⟨2, (some 11), .c (.call 177) [.t 9, .t 10], [], none⟩,
    ⟨3, (some 8), .p .mov [.t 11], [], none⟩,
    ⟨4, (some 12), .p (.ext 0) [.t 8], [], none⟩,
    ⟨5, (some 13), .p (.ext 1) [.t 8], [], none⟩,
    ⟨6, (some 6), .p .mov [.t 12], [], none⟩,
    ⟨7, (some 7), .p .mov [.t 13], [], none⟩])
   (.seq (.seq (.region false [
    ⟨0, (some 14), .p .mov [.t 7], [], none⟩,
    ⟨1, (some 15), .p (.bin .neq) [.t 14, .c (.int .i64 0)], [], none⟩])
   (.cond (.t 15) (.seq (.region false [
      ⟨0, (some 16), .p (.bld [.int .u64 0, .int .u64 0, .int .u64 0, .int .u64 0] []) [], [], none⟩,
      ⟨1, (some 17), .p .mov [.t 7], [], none⟩,
      ⟨2, none, .c (.store 4) [.t 4, .t 16], [], none⟩,
      ⟨3, (some 5), .p .mov [.t 17], [], none⟩])
     (.ret))
    (.skip)))
   (.seq (.region false [
    ⟨0, (some 18), .p (.fld 3) [.t 3], [], none⟩,
    ⟨1, (some 19), .ld true 4 (.t 18) 0 0, [], none⟩,
    ⟨2, (some 20), .p .mov [.t 6], [], none⟩,
    ⟨3, (some 21), .c (.call 178) [.t 19, .t 20, .c (.int .i64 10)], [], none⟩,
    ⟨4, (some 22), .p (.ext 0) [.t 21], [], none⟩,
    ⟨5, (some 23), .p (.ext 1) [.t 21], [], none⟩,
    ⟨6, none, .c (.store 4) [.t 4, .t 22], [], none⟩,
    ⟨7, (some 5), .p .mov [.t 23], [], none⟩])
   (.ret))))⟩
def c124 : AFun := ⟨false, 3, [.tmp 0],
  .seq (.region false [
    ⟨0, (some 0), .p .mov [.c (.nilp)], [], none⟩])
   (.seq (.region false [
    ⟨0, (some 1), .p (.bld [.sl 32 .nil []] []) [], [], none⟩,
    ⟨1, (some 2), .n (.box 1) [.t 1] 0 0, [], none⟩,
    ⟨2, (some 0), .p .mov [.t 2], [], none⟩])
   (.ret))⟩
def c125_l0 : ACode :=
  .seq (.seq (.region false [
    ⟨0, (some 6), .p .mov [.t 4], [], none⟩,
    ⟨1, (some 7), .p (.bin .geq) [.t 6, .c (.int .i64 0)], [], none⟩])
   (.cond (.t 7) (.skip)
    (.exit 0)))
   (.seq (.block 1 (.seq (.region false [
      ⟨0, (some 10), .p .mov [.t 4], [], none⟩,
      ⟨1, (some 11), .p (.bin .quo) [.t 10, .c (.int .i64 8)], [], none⟩,
      ⟨2, (some 12), .p (.ixa 4 1) [.t 1, .t 11], [], none⟩,
      ⟨3, (some 13), .ld false 1 (.t 12) 0 0, [], none⟩,
      ⟨4, (some 14), .p .mov [.t 4], [], none⟩,
      ⟨5, (some 15), .p (.bin .rem) [.t 14, .c (.int .i64 8)], [], none⟩,
      ⟨6, (some 16), .p (.bin .mul) [.c (.int .i64 8), .t 15], [], none⟩,
      ⟨7, (some 17), .p (.conv .u64) [.t 16], [], none⟩,
      ⟨8, (some 18), .p (.bin .shr) [.t 13, .t 17], [], none⟩,
      ⟨9, (some 19), .p (.conv .u8) [.t 18], [], none⟩,
      ⟨10, (some 5), .p .mov [.t 19], [], none⟩])
     (.seq (.region false [
      ⟨0, (some 20), .p .mov [.t 3], [], none⟩,
      ⟨1, (some 21), .p .len [.t 20], [], none⟩,
      ⟨2, (some 22), .p (.bin .gtr) [.t 21, .c (.int .i64 0)], [], none⟩,
      ⟨3, (some 23), .p .mov [.t 22], [], none⟩,
      ⟨4, (some 24), .p .mov [.t 5], [], (some (23, false))⟩,
      ⟨5, (some 25), .p (.bin .gtr) [.t 24, .c (.int .u8 0)], [], (some (23, false))⟩,
      ⟨6, (some 26), .p .pick [.t 23, .c (.bool true), .t 25], [], none⟩])
     (.cond (.t 26) (.region false [
        ⟨0, (some 27), .p .mov [.t 3], [], none⟩,
        ⟨1, (some 28), .p .mov [.t 5], [], none⟩,
        ⟨2, (some 29), .n (.bsl 1 (.int .u8 0) 1 [0]) [.t 28] 0 0, [], none⟩,
        ⟨3, (some 30), .c (.app 1 1) [.t 27, .t 29], [], none⟩,
        ⟨4, (some 3), .p .mov [.t 30], [], none⟩])
      (.skip)))))
   (.region false [
    ⟨0, (some 8), .p .mov [.t 4], [], none⟩,
    ⟨1, (some 9), .p (.bin .sub) [.t 8, .c (.int .i64 1)], [], none⟩,
    ⟨2, (some 4), .p .mov [.t 9], [], none⟩]))
def c125 : AFun := ⟨false, 32, [.tmp 2],
  .seq (.region false [
    ⟨0, (some 1), .n (.box 4) [.t 0] 0 0, [], none⟩,
    ⟨1, (some 2), .p .mov [.c (.sl 1 .nil [])], [], none⟩])
   (.seq (.region false [
    ⟨0, (some 3), .p .mov [.c (.sl 1 .nil [])], [], none⟩])
   (.seq (.seq (.hint (.own 3 1) (.region false [
    ⟨0, (some 4), .p .mov [.c (.int .i64 31)], [], none⟩]))
   (.block 0 (.loop [false, true, false, true, true] c125_l0)))
   (.seq (.region false [
    ⟨0, (some 31), .p .mov [.t 3], [], none⟩,
    ⟨1, (some 2), .p .mov [.t 31], [], none⟩])
   (.ret))))⟩
def c126_l0 : ACode :=
  .seq (.region false [
    ⟨0, (some 58), .p (.bin .lss) [.t 57, .t 56], [], none⟩])
   (.seq (.cond (.t 58) (.skip)
    (.exit 0))
   (.seq (.block 1 (.seq (.region false [
      ⟨0, (some 59), .p .mov [.t 57], [], none⟩,
      ⟨1, (some 12), .p .mov [.t 59], [], none⟩])
     (.seq (.region false [
      ⟨0, (some 60), .p .mov [.t 10], [], none⟩,
      ⟨1, (some 61), .p (.bin .sub) [.t 60, .c (.int .i64 1)], [], none⟩,
      ⟨2, (some 62), .p .mov [.t 12], [], none⟩,
      ⟨3, (some 63), .p (.bin .sub) [.t 61, .t 62], [], none⟩,
      ⟨4, (some 13), .p .mov [.t 63], [], none⟩])
     (.region true [
      ⟨0, (some 64), .p .mov [.t 13], [], none⟩,
      ⟨1, (some 65), .p (.bin .quo) [.t 64, .c (.int .i64 8)], [0], none⟩,
      ⟨2, (some 66), .p (.ixa 4 1) [.t 11, .t 65], [1], none⟩,
      ⟨3, (some 67), .ld false 1 (.t 66) 0 0, [2], none⟩,
      ⟨4, (some 68), .p .mov [.t 9], [], none⟩,
      ⟨5, (some 69), .p .mov [.t 12], [], none⟩,
      ⟨6, (some 70), .p (.ixs 1) [.t 68, .t 69], [4, 5], none⟩,
      ⟨7, (some 71), .ld false 1 (.t 70) 0 0, [6], none⟩,
      ⟨8, (some 72), .p (.conv .u64) [.t 71], [7], none⟩,
      ⟨9, (some 73), .p .mov [.t 13], [], none⟩,
      ⟨10, (some 74), .p (.bin .rem) [.t 73, .c (.int .i64 8)], [9], none⟩,
      ⟨11, (some 75), .p (.bin .mul) [.c (.int .i64 8), .t 74], [10], none⟩,
      ⟨12, (some 76), .p (.bin .shl) [.t 72, .t 75], [8, 11], none⟩,
      ⟨13, (some 77), .p (.bin .or) [.t 67, .t 76], [3, 12], none⟩,
      ⟨14, (some 78), .p (.ixa 4 1) [.t 11, .t 65], [1, 0, 2, 3, 4, 5, 6, 7, 8, 9, 10, 11, 12, 13], none⟩,
      ⟨15, none, .c (.store 1) [.t 78, .t 77], [14, 13, 0, 1, 2, 3, 4, 5, 6, 7, 8, 9, 10, 11, 12], none⟩]))))
   (.region false [
    ⟨0, (some 79), .p (.bin .add) [.t 57, .c (.int .i64 1)], [], none⟩,
    ⟨1, (some 57), .p .mov [.t 79], [], none⟩])))
def c126 : AFun := ⟨false, 85, [.cell 6 true 4, .tmp 7, .tmp 8],
  .seq (.region false [
    ⟨0, (some 6), .n (.alloc (.agg [.int .u64 0, .int .u64 0, .int .u64 0, .int .u64 0])) [] 0 0, [], none⟩,
    ⟨1, (some 7), .p .mov [.c (.int .i64 0)], [], none⟩,
    ⟨2, (some 8), .p .mov [.c (.int .i64 0)], [], none⟩])
   (.seq (.seq (.region false [
    ⟨0, (some 14), .p .mov [.t 1], [], none⟩,
    ⟨1, (some 15), .p (.bin .lss) [.t 14, .c (.int .i64 0)], [], none⟩,
    ⟨2, (some 16), .p .mov [.t 15], [], none⟩,
    ⟨3, (some 17), .p .mov [.t 1], [], (some (16, false))⟩,
    ⟨4, (some 18), .p .mov [.t 0], [], (some (16, false))⟩,
    ⟨5, (some 19), .p .len [.t 18], [], (some (16, false))⟩,
    ⟨6, (some 20), .p (.bin .gtr) [.t 17, .t 19], [], (some (16, false))⟩,
    ⟨7, (some 21), .p .pick [.t 16, .c (.bool true), .t 20], [], none⟩])
   (.cond (.t 21) (.seq (.region false [
      ⟨0, (some 22), .p (.bld [.int .u64 0, .int .u64 0, .int .u64 0, .int .u64 0] []) [], [], none⟩,
      ⟨1, none, .c (.store 4) [.t 6, .t 22], [], none⟩,
      ⟨2, (some 7), .p .mov [.c (.int .i64 0)], [], none⟩,
      ⟨3, (some 8), .p .mov [.c (.int .i64 2)], [], none⟩])
     (.ret))
    (.skip)))
   (.seq (.region false [
    ⟨0, (some 23), .p .mov [.t 0], [], none⟩,
    ⟨1, (some 24), .p .mov [.t 1], [], none⟩,
    ⟨2, (some 25), .p (.slsl 1 true false false) [.t 23, .t 24], [], none⟩,
    ⟨3, (some 9), .p .mov [.t 25], [], none⟩])
   (.seq (.seq (.region false [
    ⟨0, (some 26), .p .mov [.t 9], [], none⟩,
    ⟨1, (some 27), .p .len [.t 26], [], none⟩,
    ⟨2, (some 28), .p (.bin .eql) [.t 27, .c (.int .i64 0)], [], none⟩])
   (.cond (.t 28) (.seq (.region false [
      ⟨0, (some 29), .p (.bld [.int .u64 0, .int .u64 0, .int .u64 0, .int .u64 0] []) [], [], none⟩,
      ⟨1, none, .c (.store 4) [.t 6, .t 29], [], none⟩,
      ⟨2, (some 7), .p .mov [.c (.int .i64 0)], [], none⟩,
      ⟨3, (some 8), .p .mov [.c (.int .i64 3)], [], none⟩])
     (.ret))
    (.skip)))
   (.seq (.region false [
    ⟨0, (some 30), .p .mov [.t 9], [], none⟩,
    ⟨1, (some 31), .p (.ixs 1) [.t 30, .c (.int .i64 0)], [], none⟩,
    ⟨2, (some 32), .ld false 1 (.t 31) 0 0, [], none⟩,
    ⟨3, (some 33), .p (.conv .i64) [.t 32], [], none⟩,
    ⟨4, (some 10), .p .mov [.t 33], [], none⟩])
   (.seq (.region false [
    ⟨0, (some 34), .p .mov [.t 9], [], none⟩,
    ⟨1, (some 35), .p (.slsl 1 true false false) [.t 34, .c (.int .i64 1)], [], none⟩,
    ⟨2, (some 9), .p .mov [.t 35], [], none⟩])
   (.seq (.seq (.region false [
    ⟨0, (some 36), .p .mov [.t 10], [], none⟩,
    ⟨1, (some 37), .p .mov [.t 2], [], none⟩,
    ⟨2, (some 38), .p (.bin .gtr) [.t 36, .t 37], [], none⟩,
    ⟨3, (some 39), .p .mov [.t 38], [], none⟩,
    ⟨4, (some 40), .p .mov [.t 10], [], (some (39, false))⟩,
    ⟨5, (some 41), .p .mov [.t 9], [], (some (39, false))⟩,
    ⟨6, (some 42), .p .len [.t 41], [], (some (39, false))⟩,
    ⟨7, (some 43), .p (.bin .gtr) [.t 40, .t 42], [], (some (39, false))⟩,
    ⟨8, (some 44), .p .pick [.t 39, .c (.bool true), .t 43], [], none⟩,
    ⟨9, (some 45), .p .mov [.t 44], [], none⟩,
    ⟨10, (some 46), .p .mov [.t 10], [], (some (45, false))⟩,
    ⟨11, (some 47), .p (.bin .gtr) [.t 46, .c (.int .i64 0)], [], (some (45, false))⟩,
    ⟨12, (some 48), .p .mov [.t 47], [], (some (45, false))⟩,
    ⟨13, (some 49), .p .mov [.t 9], [], (some (48, true))⟩,
    ⟨14, (some 50), .p (.ixs 1) [.t 49, .c (.int .i64 0)], [], (some (48, true))⟩,
    ⟨15, (some 51), .ld false 1 (.t 50) 0 0, [], (some (48, true))⟩,
    ⟨16, (some 52), .p (.bin .eql) [.t 51, .c (.int .u8 0)], [], (some (48, true))⟩,
    ⟨17, (some 53), .p .pick [.t 48, .t 52, .c (.bool false)], [], (some (45, false))⟩,
    ⟨18, (some 54), .p .pick [.t 45, .c (.bool true), .t 53], [], none⟩])
   (.cond (.t 54) (.seq (.region false [
      ⟨0, (some 55), .p (.bld [.int .u64 0, .int .u64 0, .int .u64 0, .int .u64 0] []) [], [], none⟩,
      ⟨1, none, .c (.store 4) [.t 6, .t 55], [], none⟩,
      ⟨2, (some 7), .p .mov [.c (.int .i64 0)], [], none⟩,
      ⟨3, (some 8), .p .mov [.c (.int .i64 3)], [], none⟩])
     (.ret))
    (.skip)))
   (.seq (.region false [
    ⟨0, (some 11), .n (.alloc (.agg [.int .u64 0, .int .u64 0, .int .u64 0, .int .u64 0])) [] 0 0, [], none⟩])
   (.seq (.seq (.region false [
    ⟨0, (some 56), .p .mov [.t 10], [], none⟩,
    ⟨1, (some 57), .p .mov [.c (.int .i64 0)], [], none⟩])
   (.block 0 (.loop [false, true, false, false, false, false, true, false, false, true, true, true, false, false, false, false, false, false, false, false, false, false, false, false, false, false, false, false, false, false, false, false, false, false, false, false, false, false, false, false, false, false, false, false, false, false, false, false, false, false, false, false, false, false, false, false, true, true] c126_l0)))
   (.seq (.region false [
    ⟨0, (some 80), .ld true 4 (.t 11) 0 0, [], none⟩,
    ⟨1, (some 81), .p .mov [.t 1], [], none⟩,
    ⟨2, (some 82), .p (.bin .add) [.t 81, .c (.int .i64 1)], [], none⟩,
    ⟨3, (some 83), .p .mov [.t 10], [], none⟩,
    ⟨4, (some 84), .p (.bin .add) [.t 82, .t 83], [], none⟩,
    ⟨5, none, .c (.store 4) [.t 6, .t 80], [], none⟩,
    ⟨6, (some 7), .p .mov [.t 84], [], none⟩,
    ⟨7, (some 8), .p .mov [.c (.int .i64 0)], [], none⟩])
   (.ret))))))))))⟩
def c127 : AFun := ⟨false, 25, [.tmp 2],
  .seq (.region false [
    ⟨0, (some 2), .p .mov [.c (.int .i64 0)], [], none⟩])
   (.seq (.seq (.region false [
    ⟨0, (some 3), .p .mov [.t 0], [], none⟩,
    ⟨1, (some 4), .p (.bin .geq) [.t 3, .c (.int .u64 4294967296)], [], none⟩])
   (.cond (.t 4) (.seq (.region false [
      ⟨0, (some 5), .p .mov [.t 0], [], none⟩,
      ⟨1, (some 6), .p (.bin .shr) [.t 5, .c (.int .u64 32)], [], none⟩,
      ⟨2, (some 0), .p .mov [.t 6], [], none⟩])
     (.region false [
      ⟨0, (some 2), .p .mov [.c (.int .i64 32)], [], none⟩]))
    (.skip)))
   (.seq (.seq (.region false [
    ⟨0, (some 7), .p .mov [.t 0], [], none⟩,
    ⟨1, (some 8), .p (.bin .geq) [.t 7, .c (.int .u64 65536)], [], none⟩])
   (.cond (.t 8) (.seq (.region false [
      ⟨0, (some 9), .p .mov [.t 0], [], none⟩,
      ⟨1, (some 10), .p (.bin .shr) [.t 9, .c (.int .u64 16)], [], none⟩,
      ⟨2, (some 0), .p .mov [.t 10], [], none⟩])
     (.region false [
      ⟨0, (some 11), .p .mov [.t 2], [], none⟩,
      ⟨1, (some 12), .p (.bin .add) [.t 11, .c (.int .i64 16)], [], none⟩,
      ⟨2, (some 2), .p .mov [.t 12], [], none⟩]))
    (.skip)))
   (.seq (.seq (.region false [
    ⟨0, (some 13), .p .mov [.t 0], [], none⟩,
    ⟨1, (some 14), .p (.bin .geq) [.t 13, .c (.int .u64 256)], [], none⟩])
   (.cond (.t 14) (.seq (.region false [
      ⟨0, (some 15), .p .mov [.t 0], [], none⟩,
      ⟨1, (some 16), .p (.bin .shr) [.t 15, .c (.int .u64 8)], [], none⟩,
      ⟨2, (some 0), .p .mov [.t 16], [], none⟩])
     (.region false [
      ⟨0, (some 17), .p .mov [.t 2], [], none⟩,
      ⟨1, (some 18), .p (.bin .add) [.t 17, .c (.int .i64 8)], [], none⟩,
      ⟨2, (some 2), .p .mov [.t 18], [], none⟩]))
    (.skip)))
   (.seq (.region false [
    ⟨0, (some 19), .p .mov [.t 2], [], none⟩,
    ⟨1, (some 20), .p .mov [.t 0], [], none⟩,
    ⟨2, (some 21), .p (.conv .u8) [.t 20], [], none⟩,
    ⟨3, (some 22), .p .ixstr [.c (.str [0, 1, 2, 2, 3, 3, 3, 3, 4, 4, 4, 4, 4, 4, 4, 4, 5, 5, 5, 5, 5, 5, 5, 5, 5, 5, 5, 5, 5, 5, 5, 5, 6, 6, 6, 6, 6, 6, 6, 6, 6, 6, 6, 6, 6, 6, 6, 6, 6, 6, 6, 6, 6, 6, 6, 6, 6, 6, 6, 6, 6, 6, 6, 6, 7, 7, 7, 7, 7, 7, 7, 7, 7, 7, 7, 7, 7, 7, 7, 7, 7, 7, 7, 7, 7, 7, 7, 7, 7, 7, 7, 7, 7, 7, 7, 7, 7, 7, 7, 7, 7, 7, 7, 7, 7, 7, 7, 7, 7, 7, 7, 7, 7, 7, 7, 7, 7, 7, 7, 7, 7, 7, 7, 7, 7, 7, 7, 7, 8, 8, 8, 8, 8, 8, 8, 8, 8, 8, 8, 8, 8, 8, 8, 8, 8, 8, 8, 8, 8, 8, 8, 8, 8, 8, 8, 8, 8, 8, 8, 8, 8, 8, 8, 8, 8, 8, 8, 8, 8, 8, 8, 8, 8, 8, 8, 8, 8, 8, 8, 8, 8, 8, 8, 8, 8, 8, 8, 8, 8, 8, 8, 8, 8, 8, 8, 8, 8, 8, 8, 8, 8, 8, 8, 8, 8, 8, 8, 8, 8, 8, 8, 8, 8, 8, 8, 8, 8, 8, 8, 8, 8, 8, 8, 8, 8, 8, 8, 8, 8, 8, 8, 8, 8, 8, 8, 8, 8, 8, 8, 8, 8, 8, 8, 8, 8, 8, 8, 8, 8, 8, 8, 8, 8, 8, 8, 8]), .t 21], [], none⟩,
    ⟨4, (some 23), .p (.conv .i64) [.t 22], [], none⟩,
    ⟨5, (some 24), .p (.bin .add) [.t 19, .t 23], [], none⟩,
    ⟨6, (some 2), .p .mov [.t 24], [], none⟩])
   (.ret)))))⟩
def c156 : AFun := ⟨false, 51, [.tmp 4, .tmp 5],
  .seq (.region false [
    ⟨0, (some 4), .p .mov [.c (.int .u64 0)], [], none⟩,
    ⟨1, (some 5), .p .mov [.c (.int .u64 0)], [], none⟩])
   (.seq (.region false [
    ⟨0, (some 14), .p .mov [.t 0], [], none⟩,
    ⟨1, (some 15), .p (.bin .and) [.t 14, .c (.int .u64 4294967295)], [], none⟩,
    ⟨2, (some 6), .p .mov [.t 15], [], none⟩])
   (.seq (.region false [
    ⟨0, (some 16), .p .mov [.t 0], [], none⟩,
    ⟨1, (some 17), .p (.bin .shr) [.t 16, .c (.int .u64 32)], [], none⟩,
    ⟨2, (some 7), .p .mov [.t 17], [], none⟩])
   (.seq (.region false [
    ⟨0, (some 18), .p .mov [.t 1], [], none⟩,
    ⟨1, (some 19), .p (.bin .and) [.t 18, .c (.int .u64 4294967295)], [], none⟩,
    ⟨2, (some 8), .p .mov [.t 19], [], none⟩])
   (.seq (.region false [
    ⟨0, (some 20), .p .mov [.t 1], [], none⟩,
    ⟨1, (some 21), .p (.bin .shr) [.t 20, .c (.int .u64 32)], [], none⟩,
    ⟨2, (some 9), .p .mov [.t 21], [], none⟩])
   (.seq (.region false [
    ⟨0, (some 22), .p .mov [.t 6], [], none⟩,
    ⟨1, (some 23), .p .mov [.t 8], [], none⟩,
    ⟨2, (some 24), .p (.bin .mul) [.t 22, .t 23], [], none⟩,
    ⟨3, (some 10), .p .mov [.t 24], [], none⟩])
   (.seq (.region false [
    ⟨0, (some 25), .p .mov [.t 7], [], none⟩,
    ⟨1, (some 26), .p .mov [.t 8], [], none⟩,
    ⟨2, (some 27), .p (.bin .mul) [.t 25, .t 26], [], none⟩,
    ⟨3, (some 28), .p .mov [.t 10], [], none⟩,
    ⟨4, (some 29), .p (.bin .shr) [.t 28, .c (.int .u64 32)], [], none⟩,
    ⟨5, (some 30), .p (.bin .add) [.t 27, .t 29], [], none⟩,
    ⟨6, (some 11), .p .mov [.t 30], [], none⟩])
   (.seq (.region false [
    ⟨0, (some 31), .p .mov [.t 11], [], none⟩,
    ⟨1, (some 32), .p (.bin .and) [.t 31, .c (.int .u64 4294967295)], [], none⟩,
    ⟨2, (some 12), .p .mov [.t 32], [], none⟩])
   (.seq (.region false [
    ⟨0, (some 33), .p .mov [.t 11], [], none⟩,
    ⟨1, (some 34), .p (.bin .shr) [.t 33, .c (.int .u64 32)], [], none⟩,
    ⟨2, (some 13), .p .mov [.t 34], [], none⟩])
   (.seq (.region false [
    ⟨0, (some 35), .p .mov [.t 12], [], none⟩,
    ⟨1, (some 36), .p .mov [.t 6], [], none⟩,
    ⟨2, (some 37), .p .mov [.t 9], [], none⟩,
    ⟨3, (some 38), .p (.bin .mul) [.t 36, .t 37], [], none⟩,
    ⟨4, (some 39), .p (.bin .add) [.t 35, .t 38], [], none⟩,
    ⟨5, (some 12), .p .mov [.t 39], [], none⟩])
   (.seq (.region false [
    ⟨0, (some 40), .p .mov [.t 7], [], none⟩,
    ⟨1, (some 41), .p .mov [.t 9], [], none⟩,
    ⟨2, (some 42), .p (.bin .mul) [.t 40, .t 41], [], none⟩,
    ⟨3, (some 43), .p .mov [.t 13], [], none⟩,
    ⟨4, (some 44), .p (.bin .add) [.t 42, .t 43], [], none⟩,
    ⟨5, (some 45), .p .mov [.t 12], [], none⟩,
    ⟨6, (some 46), .p (.bin .shr) [.t 45, .c (.int .u64 32)], [], none⟩,
    ⟨7, (some 47), .p (.bin .add) [.t 44, .t 46], [], none⟩,
    ⟨8, (some 4), .p .mov [.t 47], [], none⟩])
   (.seq (.region false [
    ⟨0, (some 48), .p .mov [.t 0], [], none⟩,
    ⟨1, (some 49), .p .mov [.t 1], [], none⟩,
    ⟨2, (some 50), .p (.bin .mul) [.t 48, .t 49], [], none⟩,
    ⟨3, (some 5), .p .mov [.t 50], [], none⟩])
   (.ret))))))))))))⟩
def c157 : AFun := ⟨false, 6, [.tmp 2],
  .seq (.region false [
    ⟨0, (some 1), .n (.box 21) [.t 0] 0 0, [], none⟩,
    ⟨1, (some 2), .p .mov [.c (.bool false)], [], none⟩])
   (.seq (.region false [
    ⟨0, (some 3), .ld true 21 (.t 1) 0 0, [], none⟩,
    ⟨1, (some 4), .c (.call 205) [.t 3], [], none⟩,
    ⟨2, (some 5), .p (.bin .eql) [.t 4, .c (.int .i64 0)], [], none⟩,
    ⟨3, (some 2), .p .mov [.t 5], [], none⟩])
   (.ret))⟩
def c159 : AFun := ⟨false, 21, [.tmp 4],
  .seq (.region false [
    ⟨0, (some 4), .p .mov [.c (.nilp)], [], none⟩])
   (.seq (.seq (.region false [
    ⟨0, (some 5), .p .mov [.t 1], [], none⟩])
   (.block 0 (.seq (.region false [
      ⟨0, (some 7), .p (.bin .eql) [.t 5, .c (.int .i64 4)], [], none⟩,
      ⟨1, (some 6), .p .mov [.t 7], [], none⟩])
     (.cond (.t 6) (.seq (.region false [
        ⟨0, (some 8), .p .mov [.t 0], [], none⟩,
        ⟨1, (some 9), .p .nilc [.t 8], [], none⟩,
        ⟨2, (some 10), .p (.fld 3) [.t 9], [], none⟩,
        ⟨3, (some 4), .p .mov [.t 10], [], none⟩])
       (.ret))
      (.seq (.region false [
        ⟨0, (some 12), .p (.bin .eql) [.t 5, .c (.int .i64 6)], [], none⟩,
        ⟨1, (some 11), .p .mov [.t 12], [], none⟩])
       (.cond (.t 11) (.seq (.region false [
          ⟨0, (some 13), .p .mov [.t 0], [], none⟩,
          ⟨1, (some 14), .p .nilc [.t 13], [], none⟩,
          ⟨2, (some 15), .p (.fld 8) [.t 14], [], none⟩,
          ⟨3, (some 4), .p .mov [.t 15], [], none⟩])
         (.ret))
        (.seq (.region false [
          ⟨0, (some 17), .p (.bin .eql) [.t 5, .c (.int .i64 8)], [], none⟩,
          ⟨1, (some 16), .p .mov [.t 17], [], none⟩])
         (.cond (.t 16) (.seq (.region false [
            ⟨0, (some 18), .p .mov [.t 0], [], none⟩,
            ⟨1, (some 19), .p .nilc [.t 18], [], none⟩,
            ⟨2, (some 20), .p (.fld 13) [.t 19], [], none⟩,
            ⟨3, (some 4), .p .mov [.t 20], [], none⟩])
           (.ret))
          (.skip)))))))))
   (.seq (.region false [
    ⟨0, (some 4), .p .mov [.c (.nilp)], [], none⟩])
   (.ret)))⟩
def c160 : AFun := ⟨false, 51, [.tmp 4],
  .seq (.region false [
    ⟨0, (some 4), .p .mov [.c (.nilp)], [], none⟩])
   (.seq (.seq (.region false [
    ⟨0, (some 5), .p .mov [.t 1], [], none⟩])
   (.block 0 (.seq (.region false [
      ⟨0, (some 7), .p (.bin .eql) [.t 5, .c (.int .i64 1)], [], none⟩,
      ⟨1, (some 6), .p .mov [.t 7], [], none⟩])
     (.cond (.t 6) (.seq (.region false [
        ⟨0, (some 8), .p .mov [.t 0], [], none⟩,
        ⟨1, (some 9), .p .nilc [.t 8], [], none⟩,
        ⟨2, (some 10), .p (.fld 0) [.t 9], [], none⟩,
        ⟨3, (some 4), .p .mov [.t 10], [], none⟩])
       (.ret))
      (.seq (.region false [
        ⟨0, (some 12), .p (.bin .eql) [.t 5, .c (.int .i64 2)], [], none⟩,
        ⟨1, (some 11), .p .mov [.t 12], [], none⟩])
       (.cond (.t 11) (.seq (.region false [
          ⟨0, (some 13), .p .mov [.t 0], [], none⟩,
          ⟨1, (some 14), .p .nilc [.t 13], [], none⟩,
          ⟨2, (some 15), .p (.fld 1) [.t 14], [], none⟩,
          ⟨3, (some 4), .p .mov [.t 15], [], none⟩])
         (.ret))
        (.seq (.region false [
          ⟨0, (some 17), .p (.bin .eql) [.t 5, .c (.int .i64 3)], [], none⟩,
          ⟨1, (some 16), .p .mov [.t 17], [], none⟩])
         (.cond (.t 16) (.seq (.region false [
            ⟨0, (some 18), .p .mov [.t 0], [], none⟩,
            ⟨1, (some 19), .p .nilc [.t 18], [], none⟩,
            ⟨2, (some 20), .p (.fld 2) [.t 19], [], none⟩,
            ⟨3, (some 4), .p .mov [.t 20], [], none⟩])
           (.ret))
          (.seq (.region false [
            ⟨0, (some 22), .p (.bin .eql) [.t 5, .c (.int .i64 5)], [], none⟩,
            ⟨1, (some 21), .p .mov [.t 22], [], none⟩])
           (.cond (.t 21) (.seq (.region false [
              ⟨0, (some 23), .p .mov [.t 0], [], none⟩,
              ⟨1, (some 24), .p .nilc [.t 23], [], none⟩,
              ⟨2, (some 25), .p (.fld 7) [.t 24], [], none⟩,
              ⟨3, (some 4), .p .mov [.t 25], [], none⟩])
             (.ret))
            (.seq (.region false [
              ⟨0, (some 27), .p (.bin .eql) [.t 5, .c (.int .i64 7)], [], none⟩,
              ⟨1, (some 26), .p .mov [.t 27], [], none⟩])
             (.cond (.t 26) (.seq (.region false [
                ⟨0, (some 28), .p .mov [.t 0], [], none⟩,
                ⟨1, (some 29), .p .nilc [.t 28], [], none⟩,
                ⟨2, (some 30), .p (.fld 12) [.t 29], [], none⟩,
                ⟨3, (some 4), .p .mov [.t 30], [], none⟩])
               (.ret))
              (.seq (.region false [
                ⟨0, (some 32), .p (.bin .eql) [.t 5, .c (.int .i64 9)], [], none⟩,
                ⟨1, (some 31), .p .mov [.t 32], [], none⟩])
               (.cond (.t 31) (.seq (.region false [
                  ⟨0, (some 33), .p .mov [.t 0], [], none⟩,
                  ⟨1, (some 34), .p .nilc [.t 33], [], none⟩,
                  ⟨2, (some 35), .p (.fld 17) [.t 34], [], none⟩,
                  ⟨3, (some 4), .p .mov [.t 35], [], none⟩])
                 (.ret))
                (.seq (.region false [
                  ⟨0, (some 37), .p (.bin .eql) [.t 5, .c (.int .i64 10)], [], none⟩,
                  ⟨1, (some 36), .p .mov [.t 37], [], none⟩])
                 (.cond (.t 36) (.seq (.region false [
                    ⟨0, (some 38), .p .mov [.t 0], [], none⟩,
                    ⟨1, (some 39), .p .nilc [.t 38], [], none⟩,
                    ⟨2, (some 40), .p (.fld 18) [.t 39], [], none⟩,
                    ⟨3, (some 4), .p .mov [.t 40], [], none⟩])
                   (.ret))
                  (.seq (.region false [
                    ⟨0, (some 42), .p (.bin .eql) [.t 5, .c (.int .i64 11)], [], none⟩,
                    ⟨1, (some 41), .p .mov [.t 42], [], none⟩])
                   (.cond (.t 41) (.seq (.region false [
                      ⟨0, (some 43), .p .mov [.t 0], [], none⟩,
                      ⟨1, (some 44), .p .nilc [.t 43], [], none⟩,
                      ⟨2, (some 45), .p (.fld 19) [.t 44], [], none⟩,
                      ⟨3, (some 4), .p .mov [.t 45], [], none⟩])
                     (.ret))
                    (.seq (.region false [
                      ⟨0, (some 47), .p (.bin .eql) [.t 5, .c (.int .i64 12)], [], none⟩,
                      ⟨1, (some 46), .p .mov [.t 47], [], none⟩])
                     (.cond (.t 46) (.seq (.region false [
                        ⟨0, (some 48), .p .mov [.t 0], [], none⟩,
                        ⟨1, (some 49), .p .nilc [.t 48], [], none⟩,
                        ⟨2, (some 50), .p (.fld 20) [.t 49], [], none⟩,
                        ⟨3, (some 4), .p .mov [.t 50], [], none⟩])
                       (.ret))
                      (.skip)))))))))))))))))))))
   (.seq (.region false [
    ⟨0, (some 4), .p .mov [.c (.nilp)], [], none⟩])
   (.ret)))⟩
def c177 : AFun := ⟨false, 41, [.tmp 4, .tmp 5],
  .seq (.region false [
    ⟨0, (some 3), .n (.box 21) [.t 1] 0 0, [], none⟩,
    ⟨1, (some 4), .p .mov [.c (.int .u64 0)], [], none⟩,
    ⟨2, (some 5), .p .mov [.c (.int .i64 0)], [], none⟩])
   (.seq (.seq (.region false [
    ⟨0, (some 11), .ld true 21 (.t 3) 0 0, [], none⟩,
    ⟨1, (some 12), .c (.call 157) [.t 11], [], none⟩,
    ⟨2, (some 13), .p (.un .not) [.t 12], [], none⟩])
   (.cond (.t 13) (.seq (.region false [
      ⟨0, (some 4), .p .mov [.c (.int .u64 0)], [], none⟩,
      ⟨1, (some 5), .p .mov [.c (.int .i64 15)], [], none⟩])
     (.ret))
    (.skip)))
   (.seq (.region false [
    ⟨0, (some 14), .p (.fld 2) [.t 3], [], none⟩,
    ⟨1, (some 15), .ld false 1 (.t 14) 0 0, [], none⟩,
    ⟨2, (some 16), .p (.fld 0) [.t 3], [], none⟩,
    ⟨3, (some 17), .ld false 1 (.t 16) 0 0, [], none⟩,
    ⟨4, (some 18), .p (.bin .mul) [.t 15, .t 17], [], none⟩,
    ⟨5, (some 6), .p .mov [.t 18], [], none⟩])
   (.seq (.region false [
    ⟨0, (some 20), .p .mov [.t 0], [], none⟩,
    ⟨1, (some 21), .p (.fld 0) [.t 3], [], none⟩,
    ⟨2, (some 22), .ld false 1 (.t 21) 0 0, [], none⟩,
    ⟨3, (some 23), .p (.fld 1) [.t 3], [], none⟩,
    ⟨4, (some 24), .ld false 1 (.t 23) 0 0, [], none⟩,
    ⟨5, (some 25), .c (.call 216) [.t 20, .t 22, .t 24], [], none⟩,
    ⟨6, (some 26), .c (.call 156) [.t 25, .c (.int .u64 10000)], [], none⟩,
    ⟨7, (some 19), .p .mov [.t 26], [], none⟩,
    ⟨8, (some 27), .p (.ext 0) [.t 19], [], none⟩,
    ⟨9, (some 28), .p (.ext 1) [.t 19], [], none⟩,
    ⟨10, (some 7), .p .mov [.t 27], [], none⟩,
    ⟨11, (some 8), .p .mov [.t 28], [], none⟩])
   (.seq (.seq (.region false [
    ⟨0, (some 29), .p .mov [.t 7], [], none⟩,
    ⟨1, (some 30), .p .mov [.t 6], [], none⟩,
    ⟨2, (some 31), .p (.bin .geq) [.t 29, .t 30], [], none⟩])
   (.cond (.t 31) (.seq (.region false [
      ⟨0, (some 4), .p .mov [.c (.int .u64 200000)], [], none⟩,
      ⟨1, (some 5), .p .mov [.c (.int .i64 0)], [], none⟩])
     (.ret))
    (.skip)))
   (.seq (.region false [
    ⟨0, (some 33), .p .mov [.t 7], [], none⟩,
    ⟨1, (some 34), .p .mov [.t 8], [], none⟩,
    ⟨2, (some 35), .p .mov [.t 6], [], none⟩,
    ⟨3, (some 36), .c (.call 217) [.t 33, .t 34, .t 35], [], none⟩,
    ⟨4, (some 32), .p .mov [.t 36], [], none⟩,
    ⟨5, (some 37), .p (.ext 0) [.t 32], [], none⟩,
    ⟨6, (some 38), .p (.ext 1) [.t 32], [], none⟩,
    ⟨7, (some 9), .p .mov [.t 37], [], none⟩,
    ⟨8, (some 10), .p .mov [.t 38], [], none⟩])
   (.seq (.region false [
    ⟨0, (some 39), .p .mov [.t 9], [], none⟩,
    ⟨1, (some 40), .p .mn [.t 39, .c (.int .u64 200000)], [], none⟩,
    ⟨2, (some 4), .p .mov [.t 40], [], none⟩,
    ⟨3, (some 5), .p .mov [.c (.int .i64 0)], [], none⟩])
   (.ret)))))))⟩
def c178 : AFun := ⟨false, 25, [.cell 6 true 4, .tmp 7],
  .seq (.region false [
    ⟨0, (some 3), .n (.box 4) [.t 0] 0 0, [], none⟩,
    ⟨1, (some 6), .n (.alloc (.agg [.int .u64 0, .int .u64 0, .int .u64 0, .int .u64 0])) [] 0 0, [], none⟩,
    ⟨2, (some 7), .p .mov [.c (.int .i64 0)], [], none⟩])
   (.seq (.region false [
    ⟨0, (some 11), .p .mov [.t 1], [], none⟩,
    ⟨1, (some 12), .p .mov [.t 2], [], none⟩,
    ⟨2, (some 13), .c (.call 218) [.t 11, .t 12], [], none⟩,
    ⟨3, (some 10), .p .mov [.t 13], [], none⟩,
    ⟨4, (some 14), .p (.ext 0) [.t 10], [], none⟩,
    ⟨5, (some 15), .p (.ext 1) [.t 10], [], none⟩,
    ⟨6, (some 8), .p .mov [.t 14], [], none⟩,
    ⟨7, (some 9), .p .mov [.t 15], [], none⟩])
   (.seq (.seq (.region false [
    ⟨0, (some 16), .p .mov [.t 9], [], none⟩,
    ⟨1, (some 17), .p (.bin .neq) [.t 16, .c (.int .i64 0)], [], none⟩])
   (.cond (.t 17) (.seq (.region false [
      ⟨0, (some 18), .p (.bld [.int .u64 0, .int .u64 0, .int .u64 0, .int .u64 0] []) [], [], none⟩,
      ⟨1, (some 19), .p .mov [.t 9], [], none⟩,
      ⟨2, none, .c (.store 4) [.t 6, .t 18], [], none⟩,
      ⟨3, (some 7), .p .mov [.t 19], [], none⟩])
     (.ret))
    (.skip)))
   (.seq (.region false [
    ⟨0, (some 20), .ld true 4 (.t 3) 0 0, [], none⟩,
    ⟨1, (some 21), .p .mov [.t 8], [], none⟩,
    ⟨2, (some 22), .c (.call 219) [.t 20, .t 21], [], none⟩,
    ⟨3, (some 23), .p (.ext 0) [.t 22], [], none⟩,
    ⟨4, (some 24), .p (.ext 1) [.t 22], [], none⟩,
    ⟨5, none, .c (.store 4) [.t 6, .t 23], [], none⟩,
    ⟨6, (some 7), .p .mov [.t 24], [], none⟩])
   (.ret))))⟩
def c182_l0 : ACode :=
  .seq (.seq (.region false [
    ⟨0, (some 6), .p .mov [.t 5], [], none⟩,
    ⟨1, (some 7), .p (.bin .geq) [.t 6, .c (.int .i64 0)], [], none⟩])
   (.cond (.t 7) (.skip)
    (.exit 0)))
   (.seq (.block 1 (.seq (.seq (.region true [
      ⟨0, (some 10), .p .mov [.t 5], [], none⟩,
      ⟨1, (some 11), .p (.ixa 4 1) [.t 2, .t 10], [0], none⟩,
      ⟨2, (some 12), .ld false 1 (.t 11) 0 0, [1], none⟩,
      ⟨3, (some 13), .p .mov [.t 5], [], none⟩,
      ⟨4, (some 14), .p (.ixa 4 1) [.t 3, .t 13], [3], none⟩,
      ⟨5, (some 15), .ld false 1 (.t 14) 0 0, [4], none⟩,
      ⟨6, (some 16), .p (.bin .lss) [.t 12, .t 15], [2, 5], none⟩])
     (.cond (.t 16) (.seq (.region false [
        ⟨0, (some 4), .p .mov [.c (.int .i64 (-1))], [], none⟩])
       (.ret))
      (.skip)))
     (.seq (.region true [
      ⟨0, (some 17), .p .mov [.t 5], [], none⟩,
      ⟨1, (some 18), .p (.ixa 4 1) [.t 2, .t 17], [0], none⟩,
      ⟨2, (some 19), .ld false 1 (.t 18) 0 0, [1], none⟩,
      ⟨3, (some 20), .p .mov [.t 5], [], none⟩,
      ⟨4, (some 21), .p (.ixa 4 1) [.t 3, .t 20], [3], none⟩,
      ⟨5, (some 22), .ld false 1 (.t 21) 0 0, [4], none⟩,
      ⟨6, (some 23), .p (.bin .gtr) [.t 19, .t 22], [2, 5], none⟩])
     (.cond (.t 23) (.seq (.region false [
        ⟨0, (some 4), .p .mov [.c (.int .i64 1)], [], none⟩])
       (.ret))
      (.skip)))))
   (.region false [
    ⟨0, (some 8), .p .mov [.t 5], [], none⟩,
    ⟨1, (some 9), .p (.bin .sub) [.t 8, .c (.int .i64 1)], [], none⟩,
    ⟨2, (some 5), .p .mov [.t 9], [], none⟩]))
def c182 : AFun := ⟨false, 24, [.tmp 4],
  .seq (.region false [
    ⟨0, (some 2), .n (.box 4) [.t 0] 0 0, [], none⟩,
    ⟨1, (some 3), .n (.box 4) [.t 1] 0 0, [], none⟩,
    ⟨2, (some 4), .p .mov [.c (.int .i64 0)], [], none⟩])
   (.seq (.seq (.region false [
    ⟨0, (some 5), .p .mov [.c (.int .i64 3)], [], none⟩])
   (.block 0 (.loop [false, false, true, true, false, true] c182_l0)))
   (.seq (.region false [
    ⟨0, (some 4), .p .mov [.c (.int .i64 0)], [], none⟩])
   (.ret)))⟩
def c205_l0 : ACode :=
  .seq (.seq (.region false [
    ⟨0, (some 8), .p .mov [.t 3], [], none⟩,
    ⟨1, (some 9), .p (.bin .leq) [.t 8, .c (.int .i64 12)], [], none⟩])
   (.cond (.t 9) (.skip)
    (.exit 0)))
   (.seq (.block 1 (.seq (.region false [
      ⟨0, (some 13), .ld true 21 (.t 1) 0 0, [], none⟩,
      ⟨1, (some 14), .p .mov [.t 3], [], none⟩,
      ⟨2, (some 15), .c (.call 239) [.t 13, .t 14], [], none⟩,
      ⟨3, (some 12), .p .mov [.t 15], [], none⟩,
      ⟨4, (some 16), .p (.ext 0) [.t 12], [], none⟩,
      ⟨5, (some 17), .p (.ext 1) [.t 12], [], none⟩,
      ⟨6, (some 4), .n (.alloc (.agg [.int .u64 0, .int .u64 0, .int .u64 0, .int .u64 0])) [] 0 0, [], none⟩,
      ⟨7, none, .c (.store 4) [.t 4, .t 16], [], none⟩,
      ⟨8, (some 5), .p .mov [.t 17], [], none⟩])
     (.seq (.region false [
      ⟨0, (some 19), .ld true 21 (.t 1) 0 0, [], none⟩,
      ⟨1, (some 20), .p .mov [.t 3], [], none⟩,
      ⟨2, (some 21), .c (.call 240) [.t 19, .t 20], [], none⟩,
      ⟨3, (some 18), .p .mov [.t 21], [], none⟩,
      ⟨4, (some 22), .p (.ext 0) [.t 18], [], none⟩,
      ⟨5, (some 23), .p (.ext 1) [.t 18], [], none⟩,
      ⟨6, (some 6), .p .mov [.t 22], [], none⟩,
      ⟨7, (some 7), .p .mov [.t 23], [], none⟩])
     (.seq (.region true [
      ⟨0, (some 24), .ld true 4 (.t 4) 0 1, [], none⟩,
      ⟨1, (some 25), .p .mov [.t 6], [], none⟩,
      ⟨2, (some 26), .c (.call 58) [.t 25], [1], none⟩,
      ⟨3, (some 27), .c (.call 182) [.t 24, .t 26], [0, 2], none⟩,
      ⟨4, (some 28), .p (.bin .lss) [.t 27, .c (.int .i64 0)], [3], none⟩,
      ⟨5, (some 29), .p .mov [.t 28], [4, 3], none⟩,
      ⟨6, (some 30), .ld true 4 (.t 4) 2 3, [5], (some (29, false))⟩,
      ⟨7, (some 31), .p .mov [.t 7], [5], (some (29, false))⟩,
      ⟨8, (some 32), .c (.call 58) [.t 31], [7, 5], (some (29, false))⟩,
      ⟨9, (some 33), .c (.call 182) [.t 30, .t 32], [6, 8, 5], (some (29, false))⟩,
      ⟨10, (some 34), .p (.bin .gtr) [.t 33, .c (.int .i64 0)], [9, 5], (some (29, false))⟩,
      ⟨11, (some 35), .p .pick [.t 29, .c (.bool true), .t 34], [5, 10], none⟩])
     (.cond (.t 35) (.seq (.region false [
        ⟨0, (some 36), .p .mov [.t 3], [], none⟩,
        ⟨1, (some 2), .p .mov [.t 36], [], none⟩])
       (.ret))
      (.skip))))))
   (.region false [
    ⟨0, (some 10), .p .mov [.t 3], [], none⟩,
    ⟨1, (some 11), .p (.bin .add) [.t 10, .c (.int .i64 1)], [], none⟩,
    ⟨2, (some 3), .p .mov [.t 11], [], none⟩]))
def c205 : AFun := ⟨false, 37, [.tmp 2],
  .seq (.region false [
    ⟨0, (some 1), .n (.box 21) [.t 0] 0 0, [], none⟩,
    ⟨1, (some 2), .p .mov [.c (.int .i64 0)], [], none⟩])
   (.seq (.seq (.region false [
    ⟨0, (some 3), .p .mov [.c (.int .i64 1)], [], none⟩])
   (.block 0 (.loop [false, true, false, true] c205_l0)))
   (.seq (.region false [
    ⟨0, (some 2), .p .mov [.c (.int .i64 0)], [], none⟩])
   (.ret)))⟩
def c216 : AFun := ⟨false, 11, [.tmp 6],
  .seq (.region false [
    ⟨0, (some 6), .p .mov [.c (.int .u64 0)], [], none⟩])
   (.seq (.region false [
    ⟨0, (some 7), .p .mov [.t 0], [], none⟩,
    ⟨1, (some 8), .p .mov [.t 1], [], none⟩,
    ⟨2, (some 9), .p .mov [.t 2], [], none⟩,
    ⟨3, (some 10), .c (.call 102) [.t 7, .t 8, .t 9], [], none⟩,
    ⟨4, (some 6), .p .mov [.t 10], [], none⟩])
   (.ret))⟩
def c217_l0 : ACode :=
  .seq (.seq (.region false [
    ⟨0, (some 67), .p .mov [.t 15], [], none⟩,
    ⟨1, (some 68), .p (.bin .geq) [.t 67, .c (.int .u64 4294967296)], [], none⟩,
    ⟨2, (some 69), .p .mov [.t 68], [], none⟩,
    ⟨3, (some 70), .p .mov [.t 15], [], (some (69, false))⟩,
    ⟨4, (some 71), .p .mov [.t 10], [], (some (69, false))⟩,
    ⟨5, (some 72), .p (.bin .mul) [.t 70, .t 71], [], (some (69, false))⟩,
    ⟨6, (some 73), .p .mov [.t 16], [], (some (69, false))⟩,
    ⟨7, (some 74), .p (.bin .mul) [.c (.int .u64 4294967296), .t 73], [], (some (69, false))⟩,
    ⟨8, (some 75), .p .mov [.t 13], [], (some (69, false))⟩,
    ⟨9, (some 76), .p (.bin .add) [.t 74, .t 75], [], (some (69, false))⟩,
    ⟨10, (some 77), .p (.bin .gtr) [.t 72, .t 76], [], (some (69, false))⟩,
    ⟨11, (some 78), .p .pick [.t 69, .c (.bool true), .t 77], [], none⟩])
   (.cond (.t 78) (.skip)
    (.exit 0)))
   (.block 1 (.seq (.region false [
      ⟨0, (some 79), .p .mov [.t 15], [], none⟩,
      ⟨1, (some 80), .p (.bin .sub) [.t 79, .c (.int .u64 1)], [], none⟩,
      ⟨2, (some 15), .p .mov [.t 80], [], none⟩])
     (.seq (.region false [
      ⟨0, (some 81), .p .mov [.t 16], [], none⟩,
      ⟨1, (some 82), .p .mov [.t 9], [], none⟩,
      ⟨2, (some 83), .p (.bin .add) [.t 81, .t 82], [], none⟩,
      ⟨3, (some 16), .p .mov [.t 83], [], none⟩])
     (.seq (.region false [
      ⟨0, (some 84), .p .mov [.t 16], [], none⟩,
      ⟨1, (some 85), .p (.bin .geq) [.t 84, .c (.int .u64 4294967296)], [], none⟩])
     (.cond (.t 85) (.exit 0)
      (.skip))))))
def c217_l1 : ACode :=
  .seq (.seq (.region false [
    ⟨0, (some 102), .p .mov [.t 18], [], none⟩,
    ⟨1, (some 103), .p (.bin .geq) [.t 102, .c (.int .u64 4294967296)], [], none⟩,
    ⟨2, (some 104), .p .mov [.t 103], [], none⟩,
    ⟨3, (some 105), .p .mov [.t 18], [], (some (104, false))⟩,
    ⟨4, (some 106), .p .mov [.t 10], [], (some (104, false))⟩,
    ⟨5, (some 107), .p (.bin .mul) [.t 105, .t 106], [], (some (104, false))⟩,
    ⟨6, (some 108), .p .mov [.t 16], [], (some (104, false))⟩,
    ⟨7, (some 109), .p (.bin .mul) [.c (.int .u64 4294967296), .t 108], [], (some (104, false))⟩,
    ⟨8, (some 110), .p .mov [.t 14], [], (some (104, false))⟩,
    ⟨9, (some 111), .p (.bin .add) [.t 109, .t 110], [], (some (104, false))⟩,
    ⟨10, (some 112), .p (.bin .gtr) [.t 107, .t 111], [], (some (104, false))⟩,
    ⟨11, (some 113), .p .pick [.t 104, .c (.bool true), .t 112], [], none⟩])
   (.cond (.t 113) (.skip)
    (.exit 2)))
   (.block 3 (.seq (.region false [
      ⟨0, (some 114), .p .mov [.t 18], [], none⟩,
      ⟨1, (some 115), .p (.bin .sub) [.t 114, .c (.int .u64 1)], [], none⟩,
      ⟨2, (some 18), .p .mov [.t 115], [], none⟩])
     (.seq (.region false [
      ⟨0, (some 116), .p .mov [.t 16], [], none⟩,
      ⟨1, (some 117), .p .mov [.t 9], [], none⟩,
      ⟨2, (some 118), .p (.bin .add) [.t 116, .t 117], [], none⟩,
      ⟨3, (some 16), .p .mov [.t 118], [], none⟩])
     (.seq (.region false [
      ⟨0, (some 119), .p .mov [.t 16], [], none⟩,
      ⟨1, (some 120), .p (.bin .geq) [.t 119, .c (.int .u64 4294967296)], [], none⟩])
     (.cond (.t 120) (.exit 2)
      (.skip))))))
def c217 : AFun := ⟨false, 135, [.tmp 6, .tmp 7],
  .seq (.region false [
    ⟨0, (some 6), .p .mov [.c (.int .u64 0)], [], none⟩,
    ⟨1, (some 7), .p .mov [.c (.int .u64 0)], [], none⟩])
   (.seq (.seq (.region false [
    ⟨0, (some 19), .p .mov [.t 2], [], none⟩,
    ⟨1, (some 20), .p (.bin .eql) [.t 19, .c (.int .u64 0)], [], none⟩])
   (.cond (.t 20) (.region false [
      ⟨0, (some 21), .bad, [], none⟩,
      ⟨1, none, .bad, [], none⟩])
    (.skip)))
   (.seq (.seq (.region false [
    ⟨0, (some 22), .p .mov [.t 2], [], none⟩,
    ⟨1, (some 23), .p .mov [.t 0], [], none⟩,
    ⟨2, (some 24), .p (.bin .leq) [.t 22, .t 23], [], none⟩])
   (.cond (.t 24) (.region false [
      ⟨0, (some 25), .bad, [], none⟩,
      ⟨1, none, .bad, [], none⟩])
    (.skip)))
   (.seq (.seq (.region false [
    ⟨0, (some 26), .p .mov [.t 0], [], none⟩,
    ⟨1, (some 27), .p (.bin .eql) [.t 26, .c (.int .u64 0)], [], none⟩])
   (.cond (.t 27) (.seq (.region true [
      ⟨0, (some 28), .p .mov [.t 1], [], none⟩,
      ⟨1, (some 29), .p .mov [.t 2], [], none⟩,
      ⟨2, (some 30), .p (.bin .quo) [.t 28, .t 29], [0, 1], none⟩,
      ⟨3, (some 31), .p .mov [.t 1], [], none⟩,
      ⟨4, (some 32), .p .mov [.t 2], [], none⟩,
      ⟨5, (some 33), .p (.bin .rem) [.t 31, .t 32], [3, 4], none⟩,
      ⟨6, (some 6), .p .mov [.t 30], [2, 0, 1], none⟩,
      ⟨7, (some 7), .p .mov [.t 33], [5, 6, 0, 1, 2, 3, 4], none⟩])
     (.ret))
    (.skip)))
   (.seq (.region false [
    ⟨0, (some 34), .p .mov [.t 2], [], none⟩,
    ⟨1, (some 35), .c (.call 248) [.t 34], [], none⟩,
    ⟨2, (some 36), .p (.conv .u64) [.t 35], [], none⟩,
    ⟨3, (some 8), .p .mov [.t 36], [], none⟩])
   (.seq (.region false [
    ⟨0, (some 37), .p .mov [.t 2], [], none⟩,
    ⟨1, (some 38), .p .mov [.t 8], [], none⟩,
    ⟨2, (some 39), .p (.bin .shl) [.t 37, .t 38], [], none⟩,
    ⟨3, (some 2), .p .mov [.t 39], [], none⟩])
   (.seq (.region false [
    ⟨0, (some 40), .p .mov [.t 2], [], none⟩,
    ⟨1, (some 41), .p (.bin .shr) [.t 40, .c (.int .u64 32)], [], none⟩,
    ⟨2, (some 9), .p .mov [.t 41], [], none⟩])
   (.seq (.region false [
    ⟨0, (some 42), .p .mov [.t 2], [], none⟩,
    ⟨1, (some 43), .p (.bin .and) [.t 42, .c (.int .u64 4294967295)], [], none⟩,
    ⟨2, (some 10), .p .mov [.t 43], [], none⟩])
   (.seq (.region false [
    ⟨0, (some 44), .p .mov [.t 0], [], none⟩,
    ⟨1, (some 45), .p .mov [.t 8], [], none⟩,
    ⟨2, (some 46), .p (.bin .shl) [.t 44, .t 45], [], none⟩,
    ⟨3, (some 47), .p .mov [.t 1], [], none⟩,
    ⟨4, (some 48), .p .mov [.t 8], [], none⟩,
    ⟨5, (some 49), .p (.bin .sub) [.c (.int .u64 64), .t 48], [], none⟩,
    ⟨6, (some 50), .p (.bin .shr) [.t 47, .t 49], [], none⟩,
    ⟨7, (some 51), .p (.bin .or) [.t 46, .t 50], [], none⟩,
    ⟨8, (some 11), .p .mov [.t 51], [], none⟩])
   (.seq (.region false [
    ⟨0, (some 52), .p .mov [.t 1], [], none⟩,
    ⟨1, (some 53), .p .mov [.t 8], [], none⟩,
    ⟨2, (some 54), .p (.bin .shl) [.t 52, .t 53], [], none⟩,
    ⟨3, (some 12), .p .mov [.t 54], [], none⟩])
   (.seq (.region false [
    ⟨0, (some 55), .p .mov [.t 12], [], none⟩,
    ⟨1, (some 56), .p (.bin .shr) [.t 55, .c (.int .u64 32)], [], none⟩,
    ⟨2, (some 13), .p .mov [.t 56], [], none⟩])
   (.seq (.region false [
    ⟨0, (some 57), .p .mov [.t 12], [], none⟩,
    ⟨1, (some 58), .p (.bin .and) [.t 57, .c (.int .u64 4294967295)], [], none⟩,
    ⟨2, (some 14), .p .mov [.t 58], [], none⟩])
   (.seq (.region false [
    ⟨0, (some 59), .p .mov [.t 11], [], none⟩,
    ⟨1, (some 60), .p .mov [.t 9], [], none⟩,
    ⟨2, (some 61), .p (.bin .quo) [.t 59, .t 60], [], none⟩,
    ⟨3, (some 15), .p .mov [.t 61], [], none⟩])
   (.seq (.region false [
    ⟨0, (some 62), .p .mov [.t 11], [], none⟩,
    ⟨1, (some 63), .p .mov [.t 15], [], none⟩,
    ⟨2, (some 64), .p .mov [.t 9], [], none⟩,
    ⟨3, (some 65), .p (.bin .mul) [.t 63, .t 64], [], none⟩,
    ⟨4, (some 66), .p (.bin .sub) [.t 62, .t 65], [], none⟩,
    ⟨5, (some 16), .p .mov [.t 66], [], none⟩])
   (.seq (.block 0 (.loop [false, false, true, false, false, false, false, false, true, true, true, true, false, true, true, true, true] c217_l0))
   (.seq (.region false [
    ⟨0, (some 86), .p .mov [.t 11], [], none⟩,
    ⟨1, (some 87), .p (.bin .mul) [.t 86, .c (.int .u64 4294967296)], [], none⟩,
    ⟨2, (some 88), .p .mov [.t 13], [], none⟩,
    ⟨3, (some 89), .p (.bin .add) [.t 87, .t 88], [], none⟩,
    ⟨4, (some 90), .p .mov [.t 15], [], none⟩,
    ⟨5, (some 91), .p .mov [.t 2], [], none⟩,
    ⟨6, (some 92), .p (.bin .mul) [.t 90, .t 91], [], none⟩,
    ⟨7, (some 93), .p (.bin .sub) [.t 89, .t 92], [], none⟩,
    ⟨8, (some 17), .p .mov [.t 93], [], none⟩])
   (.seq (.region false [
    ⟨0, (some 94), .p .mov [.t 17], [], none⟩,
    ⟨1, (some 95), .p .mov [.t 9], [], none⟩,
    ⟨2, (some 96), .p (.bin .quo) [.t 94, .t 95], [], none⟩,
    ⟨3, (some 18), .p .mov [.t 96], [], none⟩])
   (.seq (.region false [
    ⟨0, (some 97), .p .mov [.t 17], [], none⟩,
    ⟨1, (some 98), .p .mov [.t 18], [], none⟩,
    ⟨2, (some 99), .p .mov [.t 9], [], none⟩,
    ⟨3, (some 100), .p (.bin .mul) [.t 98, .t 99], [], none⟩,
    ⟨4, (some 101), .p (.bin .sub) [.t 97, .t 100], [], none⟩,
    ⟨5, (some 16), .p .mov [.t 101], [], none⟩])
   (.seq (.block 2 (.loop [false, false, true, false, false, false, false, false, true, true, true, false, false, false, true, true, true, true, true] c217_l1))
   (.seq (.region false [
    ⟨0, (some 121), .p .mov [.t 15], [], none⟩,
    ⟨1, (some 122), .p (.bin .mul) [.t 121, .c (.int .u64 4294967296)], [], none⟩,
    ⟨2, (some 123), .p .mov [.t 18], [], none⟩,
    ⟨3, (some 124), .p (.bin .add) [.t 122, .t 123], [], none⟩,
    ⟨4, (some 125), .p .mov [.t 17], [], none⟩,
    ⟨5, (some 126), .p (.bin .mul) [.t 125, .c (.int .u64 4294967296)], [], none⟩,
    ⟨6, (some 127), .p .mov [.t 14], [], none⟩,
    ⟨7, (some 128), .p (.bin .add) [.t 126, .t 127], [], none⟩,
    ⟨8, (some 129), .p .mov [.t 18], [], none⟩,
    ⟨9, (some 130), .p .mov [.t 2], [], none⟩,
    ⟨10, (some 131), .p (.bin .mul) [.t 129, .t 130], [], none⟩,
    ⟨11, (some 132), .p (.bin .sub) [.t 128, .t 131], [], none⟩,
    ⟨12, (some 133), .p .mov [.t 8], [], none⟩,
    ⟨13, (some 134), .p (.bin .shr) [.t 132, .t 133], [], none⟩,
    ⟨14, (some 6), .p .mov [.t 124], [], none⟩,
    ⟨15, (some 7), .p .mov [.t 134], [], none⟩])
   (.ret))))))))))))))))))))⟩
def c218_l0 : ACode :=
  .seq (.seq (.region false [
    ⟨0, (some 19), .p .mov [.t 7], [], none⟩,
    ⟨1, (some 20), .p (.bin .geq) [.t 19, .c (.int .i64 1)], [], none⟩])
   (.cond (.t 20) (.skip)
    (.exit 0)))
   (.seq (.block 1 (.region false [
      ⟨0, (some 23), .p .mov [.t 6], [], none⟩,
      ⟨1, (some 24), .p .mov [.t 0], [], none⟩,
      ⟨2, (some 25), .p (.bin .mul) [.t 23, .t 24], [], none⟩,
      ⟨3, (some 26), .p .mov [.t 7], [], none⟩,
      ⟨4, (some 27), .p (.conv .u64) [.t 26], [], none⟩,
      ⟨5, (some 28), .p (.bin .mul) [.t 27, .c (.int .u64 10000)], [], none⟩,
      ⟨6, (some 29), .p (.bin .quo) [.t 25, .t 28], [], none⟩,
      ⟨7, (some 30), .p (.bin .add) [.c (.int .u64 10000), .t 29], [], none⟩,
      ⟨8, (some 6), .p .mov [.t 30], [], none⟩]))
   (.region false [
    ⟨0, (some 21), .p .mov [.t 7], [], none⟩,
    ⟨1, (some 22), .p (.bin .sub) [.t 21, .c (.int .i64 1)], [], none⟩,
    ⟨2, (some 7), .p .mov [.t 22], [], none⟩]))
def c218 : AFun := ⟨false, 32, [.tmp 4, .tmp 5],
  .seq (.region false [
    ⟨0, (some 4), .p .mov [.c (.int .u64 0)], [], none⟩,
    ⟨1, (some 5), .p .mov [.c (.int .i64 0)], [], none⟩])
   (.seq (.seq (.region false [
    ⟨0, (some 8), .p .mov [.t 0], [], none⟩,
    ⟨1, (some 9), .p (.bin .gtr) [.t 8, .c (.int .u64 200000)], [], none⟩,
    ⟨2, (some 10), .p .mov [.t 9], [], none⟩,
    ⟨3, (some 11), .p .mov [.t 1], [], (some (10, false))⟩,
    ⟨4, (some 12), .p (.bin .lss) [.t 11, .c (.int .i64 1)], [], (some (10, false))⟩,
    ⟨5, (some 13), .p .pick [.t 10, .c (.bool true), .t 12], [], none⟩,
    ⟨6, (some 14), .p .mov [.t 13], [], none⟩,
    ⟨7, (some 15), .p .mov [.t 1], [], (some (14, false))⟩,
    ⟨8, (some 16), .p (.bin .gtr) [.t 15, .c (.int .i64 20)], [], (some (14, false))⟩,
    ⟨9, (some 17), .p .pick [.t 14, .c (.bool true), .t 16], [], none⟩])
   (.cond (.t 17) (.seq (.region false [
      ⟨0, (some 4), .p .mov [.c (.int .u64 0)], [], none⟩,
      ⟨1, (some 5), .p .mov [.c (.int .i64 2)], [], none⟩])
     (.ret))
    (.skip)))
   (.seq (.region false [
    ⟨0, (some 6), .p .mov [.c (.int .u64 10000)], [], none⟩])
   (.seq (.seq (.region false [
    ⟨0, (some 18), .p .mov [.t 1], [], none⟩,
    ⟨1, (some 7), .p .mov [.t 18], [], none⟩])
   (.block 0 (.loop [true, false, false, false, false, false, true, true] c218_l0)))
   (.seq (.region false [
    ⟨0, (some 31), .p .mov [.t 6], [], none⟩,
    ⟨1, (some 4), .p .mov [.t 31], [], none⟩,
    ⟨2, (some 5), .p .mov [.c (.int .i64 0)], [], none⟩])
   (.ret)))))⟩
def c219 : AFun := ⟨false, 13, [.cell 4 true 4, .tmp 5],
  .seq (.region false [
    ⟨0, (some 2), .n (.box 4) [.t 0] 0 0, [], none⟩,
    ⟨1, (some 4), .n (.alloc (.agg [.int .u64 0, .int .u64 0, .int .u64 0, .int .u64 0])) [] 0 0, [], none⟩,
    ⟨2, (some 5), .p .mov [.c (.int .i64 0)], [], none⟩])
   (.seq (.region true [
    ⟨0, (some 6), .ld true 4 (.t 2) 0 2, [], none⟩,
    ⟨1, (some 7), .p .mov [.t 1], [], none⟩,
    ⟨2, (some 8), .c (.call 58) [.t 7], [1], none⟩,
    ⟨3, (some 9), .c (.call 58) [.c (.int .u64 10000)], [2], none⟩,
    ⟨4, (some 10), .c (.call 231) [.t 6, .t 8, .t 9], [0, 2, 3], none⟩,
    ⟨5, (some 11), .p (.ext 0) [.t 10], [4], none⟩,
    ⟨6, (some 12), .p (.ext 1) [.t 10], [4], none⟩,
    ⟨7, none, .c (.store 4) [.t 4, .t 11], [5, 4, 0, 1, 2, 3, 6], none⟩,
    ⟨8, (some 5), .p .mov [.t 12], [6, 7, 0, 1, 2, 3, 4, 5], none⟩])
   (.ret))⟩
def c231 : AFun := ⟨false, 29, [.cell 6 true 4, .tmp 7],
  .seq (.region false [
    ⟨0, (some 3), .n (.box 4) [.t 0] 0 0, [], none⟩,
    ⟨1, (some 4), .n (.box 4) [.t 1] 0 0, [], none⟩,
    ⟨2, (some 5), .n (.box 4) [.t 2] 0 0, [], none⟩,
    ⟨3, (some 6), .n (.alloc (.agg [.int .u64 0, .int .u64 0, .int .u64 0, .int .u64 0])) [] 0 0, [], none⟩,
    ⟨4, (some 7), .p .mov [.c (.int .i64 0)], [], none⟩])
   (.seq (.region false [
    ⟨0, (some 14), .ld true 4 (.t 3) 0 0, [], none⟩,
    ⟨1, (some 15), .ld true 4 (.t 4) 0 0, [], none⟩,
    ⟨2, (some 16), .c (.call 252) [.t 14, .t 15], [], none⟩,
    ⟨3, (some 13), .p .mov [.t 16], [], none⟩,
    ⟨4, (some 17), .p (.ext 0) [.t 13], [], none⟩,
    ⟨5, (some 18), .p (.ext 1) [.t 13], [], none⟩,
    ⟨6, (some 8), .n (.alloc (.agg [.int .u64 0, .int .u64 0, .int .u64 0, .int .u64 0])) [] 0 0, [], none⟩,
    ⟨7, (some 9), .n (.alloc (.agg [.int .u64 0, .int .u64 0, .int .u64 0, .int .u64 0])) [] 0 0, [], none⟩,
    ⟨8, none, .c (.store 4) [.t 8, .t 17], [], none⟩,
    ⟨9, none, .c (.store 4) [.t 9, .t 18], [], none⟩])
   (.seq (.region false [
    ⟨0, (some 20), .ld true 4 (.t 8) 0 0, [], none⟩,
    ⟨1, (some 21), .ld true 4 (.t 9) 0 0, [], none⟩,
    ⟨2, (some 22), .ld true 4 (.t 5) 0 0, [], none⟩,
    ⟨3, (some 23), .c (.call 250) [.t 20, .t 21, .t 22], [], none⟩,
    ⟨4, (some 19), .p .mov [.t 23], [], none⟩,
    ⟨5, (some 24), .p (.ext 0) [.t 19], [], none⟩,
    ⟨6, (some 25), .p (.ext 1) [.t 19], [], none⟩,
    ⟨7, (some 26), .p (.ext 2) [.t 19], [], none⟩,
    ⟨8, (some 10), .n (.alloc (.agg [.int .u64 0, .int .u64 0, .int .u64 0, .int .u64 0])) [] 0 0, [], none⟩,
    ⟨9, (some 11), .n (.alloc (.agg [.int .u64 0, .int .u64 0, .int .u64 0, .int .u64 0])) [] 0 0, [], none⟩,
    ⟨10, none, .c (.store 4) [.t 10, .t 24], [], none⟩,
    ⟨11, none, .c (.store 4) [.t 11, .t 25], [], none⟩,
    ⟨12, (some 12), .p .mov [.t 26], [], none⟩])
   (.seq (.region false [
    ⟨0, (some 27), .ld true 4 (.t 10) 0 0, [], none⟩,
    ⟨1, (some 28), .p .mov [.t 12], [], none⟩,
    ⟨2, none, .c (.store 4) [.t 6, .t 27], [], none⟩,
    ⟨3, (some 7), .p .mov [.t 28], [], none⟩])
   (.ret))))⟩
def c239 : AFun := ⟨false, 24, [.cell 4 true 4, .tmp 5],
  .seq (.region false [
    ⟨0, (some 2), .n (.box 21) [.t 0] 0 0, [], none⟩,
    ⟨1, (some 4), .n (.alloc (.agg [.int .u64 0, .int .u64 0, .int .u64 0, .int .u64 0])) [] 0 0, [], none⟩,
    ⟨2, (some 5), .p .mov [.c (.int .i64 0)], [], none⟩])
   (.seq (.seq (.region false [
    ⟨0, (some 8), .p .mov [.t 1], [], none⟩,
    ⟨1, (some 9), .c (.call 159) [.t 2, .t 8], [], none⟩,
    ⟨2, (some 6), .p .mov [.t 9], [], none⟩])
   (.seq (.region false [
    ⟨0, (some 10), .p .mov [.t 6], [], none⟩,
    ⟨1, (some 11), .p (.eqp true) [.t 10, .c (.nilp)], [], none⟩])
   (.cond (.t 11) (.seq (.region false [
      ⟨0, (some 12), .p .mov [.t 6], [], none⟩,
      ⟨1, (some 13), .p .nilc [.t 12], [], none⟩,
      ⟨2, (some 14), .ld true 4 (.t 13) 0 0, [], none⟩,
      ⟨3, none, .c (.store 4) [.t 4, .t 14], [], none⟩,
      ⟨4, (some 5), .p .mov [.c (.int .i64 0)], [], none⟩])
     (.ret))
    (.skip))))
   (.seq (.seq (.region false [
    ⟨0, (some 15), .p .mov [.t 1], [], none⟩,
    ⟨1, (some 16), .c (.call 160) [.t 2, .t 15], [], none⟩,
    ⟨2, (some 7), .p .mov [.t 16], [], none⟩])
   (.seq (.region false [
    ⟨0, (some 17), .p .mov [.t 7], [], none⟩,
    ⟨1, (some 18), .p (.eqp true) [.t 17, .c (.nilp)], [], none⟩])
   (.cond (.t 18) (.seq (.region false [
      ⟨0, (some 19), .p .mov [.t 7], [], none⟩,
      ⟨1, (some 20), .p .nilc [.t 19], [], none⟩,
      ⟨2, (some 21), .ld false 1 (.t 20) 0 0, [], none⟩,
      ⟨3, (some 22), .c (.call 58) [.t 21], [], none⟩,
      ⟨4, none, .c (.store 4) [.t 4, .t 22], [], none⟩,
      ⟨5, (some 5), .p .mov [.c (.int .i64 0)], [], none⟩])
     (.ret))
    (.skip))))
   (.seq (.region false [
    ⟨0, (some 23), .p (.bld [.int .u64 0, .int .u64 0, .int .u64 0, .int .u64 0] []) [], [], none⟩,
    ⟨1, none, .c (.store 4) [.t 4, .t 23], [], none⟩,
    ⟨2, (some 5), .p .mov [.c (.int .i64 17)], [], none⟩])
   (.ret))))⟩
def c240 : AFun := ⟨false, 25, [.tmp 4, .tmp 5],
  .seq (.region false [
    ⟨0, (some 2), .n (.box 21) [.t 0] 0 0, [], none⟩,
    ⟨1, (some 4), .p .mov [.c (.int .u64 0)], [], none⟩,
    ⟨2, (some 5), .p .mov [.c (.int .u64 0)], [], none⟩])
   (.seq (.seq (.region false [
    ⟨0, (some 6), .p .mov [.t 1], [], none⟩])
   (.block 0 (.seq (.seq (.region false [
      ⟨0, (some 8), .p (.bin .eql) [.t 6, .c (.int .i64 1)], [], none⟩,
      ⟨1, (some 7), .p .mov [.t 8], [], none⟩])
     (.cond (.t 7) (.skip)
      (.seq (.region false [
        ⟨0, (some 9), .p (.bin .eql) [.t 6, .c (.int .i64 5)], [], none⟩,
        ⟨1, (some 7), .p .mov [.t 9], [], none⟩])
       (.cond (.t 7) (.skip)
        (.region false [
          ⟨0, (some 10), .p (.bin .eql) [.t 6, .c (.int .i64 9)], [], none⟩,
          ⟨1, (some 7), .p .mov [.t 10], [], none⟩])))))
     (.cond (.t 7) (.seq (.region false [
        ⟨0, (some 4), .p .mov [.c (.int .u64 1)], [], none⟩,
        ⟨1, (some 5), .p .mov [.c (.int .u64 1099511627776)], [], none⟩])
       (.ret))
      (.seq (.seq (.region false [
        ⟨0, (some 12), .p (.bin .eql) [.t 6, .c (.int .i64 2)], [], none⟩,
        ⟨1, (some 11), .p .mov [.t 12], [], none⟩])
       (.cond (.t 11) (.skip)
        (.region false [
          ⟨0, (some 13), .p (.bin .eql) [.t 6, .c (.int .i64 11)], [], none⟩,
          ⟨1, (some 11), .p .mov [.t 13], [], none⟩])))
       (.cond (.t 11) (.seq (.region false [
          ⟨0, (some 4), .p .mov [.c (.int .u64 0)], [], none⟩,
          ⟨1, (some 5), .p .mov [.c (.int .u64 1048576)], [], none⟩])
         (.ret))
        (.seq (.seq (.region false [
          ⟨0, (some 15), .p (.bin .eql) [.t 6, .c (.int .i64 3)], [], none⟩,
          ⟨1, (some 14), .p .mov [.t 15], [], none⟩])
         (.cond (.t 14) (.skip)
          (.region false [
            ⟨0, (some 16), .p (.bin .eql) [.t 6, .c (.int .i64 10)], [], none⟩,
            ⟨1, (some 14), .p .mov [.t 16], [], none⟩])))
         (.cond (.t 14) (.seq (.region false [
            ⟨0, (some 4), .p .mov [.c (.int .u64 1)], [], none⟩,
            ⟨1, (some 5), .p .mov [.c (.int .u64 1048576)], [], none⟩])
           (.ret))
          (.seq (.region false [
            ⟨0, (some 18), .p (.bin .eql) [.t 6, .c (.int .i64 4)], [], none⟩,
            ⟨1, (some 17), .p .mov [.t 18], [], none⟩])
           (.cond (.t 17) (.seq (.region false [
              ⟨0, (some 4), .p .mov [.c (.int .u64 1)], [], none⟩,
              ⟨1, (some 5), .p .mov [.c (.int .u64 18446744073709551615)], [], none⟩])
             (.ret))
            (.seq (.region false [
              ⟨0, (some 20), .p (.bin .eql) [.t 6, .c (.int .i64 7)], [], none⟩,
              ⟨1, (some 19), .p .mov [.t 20], [], none⟩])
             (.cond (.t 19) (.seq (.region false [
                ⟨0, (some 4), .p .mov [.c (.int .u64 0)], [], none⟩,
                ⟨1, (some 5), .p .mov [.c (.int .u64 10000)], [], none⟩])
               (.ret))
              (.seq (.region false [
                ⟨0, (some 22), .p (.bin .eql) [.t 6, .c (.int .i64 12)], [], none⟩,
                ⟨1, (some 21), .p .mov [.t 22], [], none⟩])
               (.cond (.t 21) (.seq (.region false [
                  ⟨0, (some 23), .p (.fld 19) [.t 2], [], none⟩,
                  ⟨1, (some 24), .ld false 1 (.t 23) 0 0, [], none⟩,
                  ⟨2, (some 4), .p .mov [.t 24], [], none⟩,
                  ⟨3, (some 5), .p .mov [.c (.int .u64 16777216)], [], none⟩])
                 (.ret))
                (.skip)))))))))))))))
   (.seq (.region false [
    ⟨0, (some 4), .p .mov [.c (.int .u64 0)], [], none⟩,
    ⟨1, (some 5), .p .mov [.c (.int .u64 18446744073709551615)], [], none⟩])
   (.ret)))⟩
def c250_l0 : ACode :=
  .seq (.seq (.region false [
    ⟨0, (some 23), .p .mov [.t 9], [], none⟩,
    ⟨1, (some 24), .p (.bin .geq) [.t 23, .c (.int .i64 0)], [], none⟩])
   (.cond (.t 24) (.skip)
    (.exit 0)))
   (.seq (.block 1 (.seq (.region false [
      ⟨0, (some 10), .p .mov [.c (.int .u64 0)], [], none⟩])
     (.seq (.region true [
      ⟨0, (some 28), .ld true 4 (.t 7) 0 0, [], none⟩,
      ⟨1, (some 29), .p .mov [.t 9], [], none⟩,
      ⟨2, (some 30), .p (.bin .quo) [.t 29, .c (.int .i64 64)], [1], none⟩,
      ⟨3, (some 31), .p (.ixa 4 1) [.t 3, .t 30], [2], none⟩,
      ⟨4, (some 32), .ld false 1 (.t 31) 0 0, [3], none⟩,
      ⟨5, (some 33), .p .mov [.t 9], [], none⟩,
      ⟨6, (some 34), .p (.bin .rem) [.t 33, .c (.int .i64 64)], [5], none⟩,
      ⟨7, (some 35), .p (.bin .shr) [.t 32, .t 34], [4, 6], none⟩,
      ⟨8, (some 36), .p (.bin .and) [.t 35, .c (.int .u64 1)], [7], none⟩,
      ⟨9, (some 37), .c (.call 265) [.t 28, .t 36], [0, 8], none⟩,
      ⟨10, (some 27), .p .mov [.t 37], [9], none⟩,
      ⟨11, (some 38), .p (.ext 0) [.t 27], [10], none⟩,
      ⟨12, (some 39), .p (.ext 1) [.t 27], [10], none⟩,
      ⟨13, none, .c (.store 4) [.t 7, .t 38], [11, 9, 0, 1, 2, 3, 4, 5, 6, 7, 8, 10], none⟩,
      ⟨14, (some 10), .p .mov [.t 39], [12, 13, 0, 1, 2, 3, 4, 5, 6, 7, 8, 9, 10, 11], none⟩])
     (.seq (.region false [
      ⟨0, (some 40), .p .mov [.t 10], [], none⟩,
      ⟨1, (some 41), .p (.bin .eql) [.t 40, .c (.int .u64 1)], [], none⟩,
      ⟨2, (some 42), .p .mov [.t 41], [], none⟩,
      ⟨3, (some 43), .ld true 4 (.t 7) 0 0, [], (some (42, false))⟩,
      ⟨4, (some 44), .ld true 4 (.t 5) 0 0, [], (some (42, false))⟩,
      ⟨5, (some 45), .c (.call 182) [.t 43, .t 44], [], (some (42, false))⟩,
      ⟨6, (some 46), .p (.bin .geq) [.t 45, .c (.int .i64 0)], [], (some (42, false))⟩,
      ⟨7, (some 47), .p .pick [.t 42, .c (.bool true), .t 46], [], none⟩])
     (.cond (.t 47) (.seq (.region false [
        ⟨0, (some 48), .ld true 4 (.t 7) 0 0, [], none⟩,
        ⟨1, (some 49), .ld true 4 (.t 5) 0 0, [], none⟩,
        ⟨2, (some 50), .c (.call 266) [.t 48, .t 49], [], none⟩,
        ⟨3, none, .c (.store 4) [.t 7, .t 50], [], none⟩])
       (.region true [
        ⟨0, (some 51), .p .mov [.t 9], [], none⟩,
        ⟨1, (some 52), .p (.bin .quo) [.t 51, .c (.int .i64 64)], [0], none⟩,
        ⟨2, (some 53), .p (.ixa 4 1) [.t 6, .t 52], [1], none⟩,
        ⟨3, (some 54), .ld false 1 (.t 53) 0 0, [2], none⟩,
        ⟨4, (some 55), .p .mov [.t 9], [], none⟩,
        ⟨5, (some 56), .p (.bin .rem) [.t 55, .c (.int .i64 64)], [4], none⟩,
        ⟨6, (some 57), .p (.bin .shl) [.c (.int .u64 1), .t 56], [5], none⟩,
        ⟨7, (some 58), .p (.bin .or) [.t 54, .t 57], [3, 6], none⟩,
        ⟨8, (some 59), .p (.ixa 4 1) [.t 6, .t 52], [1, 0, 2, 3, 4, 5, 6, 7], none⟩,
        ⟨9, none, .c (.store 1) [.t 59, .t 58], [8, 7, 0, 1, 2, 3, 4, 5, 6], none⟩]))
      (.skip))))))
   (.region false [
    ⟨0, (some 25), .p .mov [.t 9], [], none⟩,
    ⟨1, (some 26), .p (.bin .sub) [.t 25, .c (.int .i64 1)], [], none⟩,
    ⟨2, (some 9), .p .mov [.t 26], [], none⟩]))
def c250 : AFun := ⟨false, 62, [.cell 6 true 4, .cell 7 true 4, .tmp 8],
  .seq (.region false [
    ⟨0, (some 3), .n (.box 4) [.t 0] 0 0, [], none⟩,
    ⟨1, (some 4), .n (.box 4) [.t 1] 0 0, [], none⟩,
    ⟨2, (some 5), .n (.box 4) [.t 2] 0 0, [], none⟩,
    ⟨3, (some 6), .n (.alloc (.agg [.int .u64 0, .int .u64 0, .int .u64 0, .int .u64 0])) [] 0 0, [], none⟩,
    ⟨4, (some 7), .n (.alloc (.agg [.int .u64 0, .int .u64 0, .int .u64 0, .int .u64 0])) [] 0 0, [], none⟩,
    ⟨5, (some 8), .p .mov [.c (.int .i64 0)], [], none⟩])
   (.seq (.seq (.region false [
    ⟨0, (some 11), .ld true 4 (.t 5) 0 0, [], none⟩,
    ⟨1, (some 12), .p (.bld [.int .u64 0, .int .u64 0, .int .u64 0, .int .u64 0] []) [], [], none⟩,
    ⟨2, (some 13), .p (.eqa false [false, false, false, false]) [.t 11, .t 12], [], none⟩])
   (.cond (.t 13) (.seq (.region false [
      ⟨0, (some 14), .p (.bld [.int .u64 0, .int .u64 0, .int .u64 0, .int .u64 0] []) [], [], none⟩,
      ⟨1, (some 15), .p (.bld [.int .u64 0, .int .u64 0, .int .u64 0, .int .u64 0] []) [], [], none⟩,
      ⟨2, none, .c (.store 4) [.t 6, .t 14], [], none⟩,
      ⟨3, none, .c (.store 4) [.t 7, .t 15], [], none⟩,
      ⟨4, (some 8), .p .mov [.c (.int .i64 5)], [], none⟩])
     (.ret))
    (.skip)))
   (.seq (.seq (.region false [
    ⟨0, (some 16), .ld true 4 (.t 4) 0 0, [], none⟩,
    ⟨1, (some 17), .ld true 4 (.t 5) 0 0, [], none⟩,
    ⟨2, (some 18), .c (.call 182) [.t 16, .t 17], [], none⟩,
    ⟨3, (some 19), .p (.bin .geq) [.t 18, .c (.int .i64 0)], [], none⟩])
   (.cond (.t 19) (.seq (.region false [
      ⟨0, (some 20), .p (.bld [.int .u64 0, .int .u64 0, .int .u64 0, .int .u64 0] []) [], [], none⟩,
      ⟨1, (some 21), .p (.bld [.int .u64 0, .int .u64 0, .int .u64 0, .int .u64 0] []) [], [], none⟩,
      ⟨2, none, .c (.store 4) [.t 6, .t 20], [], none⟩,
      ⟨3, none, .c (.store 4) [.t 7, .t 21], [], none⟩,
      ⟨4, (some 8), .p .mov [.c (.int .i64 4)], [], none⟩])
     (.ret))
    (.skip)))
   (.seq (.region false [
    ⟨0, (some 22), .ld true 4 (.t 4) 0 0, [], none⟩,
    ⟨1, none, .c (.store 4) [.t 7, .t 22], [], none⟩])
   (.seq (.seq (.region false [
    ⟨0, (some 9), .p .mov [.c (.int .i64 255)], [], none⟩])
   (.block 0 (.loop [false, false, false, true, false, true, true, true, false, true] c250_l0)))
   (.seq (.region true [
    ⟨0, (some 60), .ld true 4 (.t 6) 0 0, [], none⟩,
    ⟨1, (some 61), .ld true 4 (.t 7) 0 1, [], none⟩,
    ⟨2, none, .c (.store 4) [.t 6, .t 60], [0], none⟩,
    ⟨3, none, .c (.store 4) [.t 7, .t 61], [1, 2, 0], none⟩,
    ⟨4, (some 8), .p .mov [.c (.int .i64 0)], [3, 0, 1, 2], none⟩])
   (.ret))))))⟩
def c252_l1 : ACode :=
  .seq (.region false [
    ⟨0, (some 17), .p (.bin .lss) [.t 16, .c (.int .i64 4)], [], none⟩])
   (.seq (.cond (.t 17) (.skip)
    (.exit 2))
   (.seq (.block 3 (.seq (.region false [
      ⟨0, (some 18), .p .mov [.t 16], [], none⟩,
      ⟨1, (some 9), .p .mov [.t 18], [], none⟩])
     (.seq (.region true [
      ⟨0, (some 20), .p .mov [.t 7], [], none⟩,
      ⟨1, (some 21), .p (.ixa 4 1) [.t 2, .t 20], [0], none⟩,
      ⟨2, (some 22), .ld false 1 (.t 21) 0 0, [1], none⟩,
      ⟨3, (some 23), .p .mov [.t 9], [], none⟩,
      ⟨4, (some 24), .p (.ixa 4 1) [.t 3, .t 23], [3], none⟩,
      ⟨5, (some 25), .ld false 1 (.t 24) 0 0, [4], none⟩,
      ⟨6, (some 26), .c (.call 156) [.t 22, .t 25], [2, 5], none⟩,
      ⟨7, (some 19), .p .mov [.t 26], [6], none⟩,
      ⟨8, (some 27), .p (.ext 0) [.t 19], [7], none⟩,
      ⟨9, (some 28), .p (.ext 1) [.t 19], [7], none⟩,
      ⟨10, (some 10), .p .mov [.t 27], [8, 6, 0, 1, 2, 3, 4, 5, 7], none⟩,
      ⟨11, (some 11), .p .mov [.t 28], [9, 10, 0, 1, 2, 3, 4, 5, 6, 7, 8], none⟩])
     (.seq (.region false [
      ⟨0, (some 12), .p .mov [.c (.int .u64 0)], [], none⟩])
     (.seq (.region false [
      ⟨0, (some 30), .p .mov [.t 11], [], none⟩,
      ⟨1, (some 31), .p .mov [.t 8], [], none⟩,
      ⟨2, (some 32), .p .add64 [.t 30, .t 31, .c (.int .u64 0)], [], none⟩,
      ⟨3, (some 29), .p .mov [.t 32], [], none⟩,
      ⟨4, (some 33), .p (.ext 0) [.t 29], [], none⟩,
      ⟨5, (some 34), .p (.ext 1) [.t 29], [], none⟩,
      ⟨6, (some 11), .p .mov [.t 33], [], none⟩,
      ⟨7, (some 12), .p .mov [.t 34], [], none⟩])
     (.seq (.region false [
      ⟨0, (some 35), .p .mov [.t 10], [], none⟩,
      ⟨1, (some 36), .p .mov [.t 12], [], none⟩,
      ⟨2, (some 37), .p (.bin .add) [.t 35, .t 36], [], none⟩,
      ⟨3, (some 10), .p .mov [.t 37], [], none⟩])
     (.seq (.region false [
      ⟨0, (some 39), .p .mov [.t 7], [], none⟩,
      ⟨1, (some 40), .p .mov [.t 9], [], none⟩,
      ⟨2, (some 41), .p (.bin .add) [.t 39, .t 40], [], none⟩,
      ⟨3, (some 42), .p .mov [.t 7], [], none⟩,
      ⟨4, (some 43), .p .mov [.t 9], [], none⟩,
      ⟨5, (some 44), .p (.bin .add) [.t 42, .t 43], [], none⟩,
      ⟨6, (some 45), .p (.ixa 8 1) [.t 6, .t 44], [], none⟩,
      ⟨7, (some 46), .ld false 1 (.t 45) 0 0, [], none⟩,
      ⟨8, (some 47), .p .mov [.t 11], [], none⟩,
      ⟨9, (some 48), .p .add64 [.t 46, .t 47, .c (.int .u64 0)], [], none⟩,
      ⟨10, (some 38), .p .mov [.t 48], [], none⟩,
      ⟨11, (some 49), .p (.ext 0) [.t 38], [], none⟩,
      ⟨12, (some 50), .p (.ext 1) [.t 38], [], none⟩,
      ⟨13, (some 51), .p (.ixa 8 1) [.t 6, .t 41], [], none⟩,
      ⟨14, none, .c (.store 1) [.t 51, .t 49], [], none⟩,
      ⟨15, (some 12), .p .mov [.t 50], [], none⟩])
     (.region false [
      ⟨0, (some 52), .p .mov [.t 10], [], none⟩,
      ⟨1, (some 53), .p .mov [.t 12], [], none⟩,
      ⟨2, (some 54), .p (.bin .add) [.t 52, .t 53], [], none⟩,
      ⟨3, (some 8), .p .mov [.t 54], [], none⟩]))))))))
   (.region false [
    ⟨0, (some 55), .p (.bin .add) [.t 16, .c (.int .i64 1)], [], none⟩,
    ⟨1, (some 16), .p .mov [.t 55], [], none⟩])))
def c252_l0 : ACode :=
  .seq (.region false [
    ⟨0, (some 14), .p (.bin .lss) [.t 13, .c (.int .i64 4)], [], none⟩])
   (.seq (.cond (.t 14) (.skip)
    (.exit 0))
   (.seq (.block 1 (.seq (.region false [
      ⟨0, (some 15), .p .mov [.t 13], [], none⟩,
      ⟨1, (some 7), .p .mov [.t 15], [], none⟩])
     (.seq (.region false [
      ⟨0, (some 8), .p .mov [.c (.int .u64 0)], [], none⟩])
     (.seq (.seq (.region false [
      ⟨0, (some 16), .p .mov [.c (.int .i64 0)], [], none⟩])
     (.block 2 (.loop [false, false, true, true, true, true, true, true, true, false, false, false, false, true, false, false, true] c252_l1)))
     (.region false [
      ⟨0, (some 56), .p .mov [.t 7], [], none⟩,
      ⟨1, (some 57), .p (.bin .add) [.t 56, .c (.int .i64 4)], [], none⟩,
      ⟨2, (some 58), .p .mov [.t 8], [], none⟩,
      ⟨3, (some 59), .p (.ixa 8 1) [.t 6, .t 57], [], none⟩,
      ⟨4, none, .c (.store 1) [.t 59, .t 58], [], none⟩])))))
   (.region false [
    ⟨0, (some 60), .p (.bin .add) [.t 13, .c (.int .i64 1)], [], none⟩,
    ⟨1, (some 13), .p .mov [.t 60], [], none⟩])))
def c252 : AFun := ⟨false, 69, [.cell 4 true 4, .cell 5 true 4],
  .seq (.region false [
    ⟨0, (some 2), .n (.box 4) [.t 0] 0 0, [], none⟩,
    ⟨1, (some 3), .n (.box 4) [.t 1] 0 0, [], none⟩,
    ⟨2, (some 4), .n (.alloc (.agg [.int .u64 0, .int .u64 0, .int .u64 0, .int .u64 0])) [] 0 0, [], none⟩,
    ⟨3, (some 5), .n (.alloc (.agg [.int .u64 0, .int .u64 0, .int .u64 0, .int .u64 0])) [] 0 0, [], none⟩])
   (.seq (.region false [
    ⟨0, (some 6), .n (.alloc (.agg [.int .u64 0, .int .u64 0, .int .u64 0, .int .u64 0, .int .u64 0, .int .u64 0, .int .u64 0, .int .u64 0])) [] 0 0, [], none⟩])
   (.seq (.seq (.region false [
    ⟨0, (some 13), .p .mov [.c (.int .i64 0)], [], none⟩])
   (.block 0 (.loop [false, false, true, true, true, true, true, false, false, false, false, false, false, true] c252_l0)))
   (.seq (.region true [
    ⟨0, (some 61), .p (.slar 4 1 false false false) [.t 4], [], none⟩,
    ⟨1, (some 62), .p (.slar 8 1 false false true) [.t 6, .c (.int .i64 4)], [], none⟩,
    ⟨2, (some 63), .c (.copy 1) [.t 61, .t 62], [0, 1], none⟩])
   (.seq (.region true [
    ⟨0, (some 64), .p (.slar 4 1 false false false) [.t 5], [], none⟩,
    ⟨1, (some 65), .p (.slar 8 1 false true false) [.t 6, .c (.int .i64 4)], [], none⟩,
    ⟨2, (some 66), .c (.copy 1) [.t 64, .t 65], [0, 1], none⟩])
   (.seq (.region false [
    ⟨0, (some 67), .ld true 4 (.t 4) 0 0, [], none⟩,
    ⟨1, (some 68), .ld true 4 (.t 5) 0 0, [], none⟩,
    ⟨2, none, .c (.store 4) [.t 4, .t 67], [], none⟩,
    ⟨3, none, .c (.store 4) [.t 5, .t 68], [], none⟩])
   (.ret))))))⟩
end Go.PV
