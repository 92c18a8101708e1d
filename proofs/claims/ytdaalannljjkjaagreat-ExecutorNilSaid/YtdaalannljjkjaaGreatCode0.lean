/- The code of functions, as the evaluator has it: printed by gen.py out of the program. -/
import Derived.Test.YtdaalannljjkjaaGreatEv
set_option maxRecDepth 100000
namespace Go.PV
def c5 : AFun := ⟨false, 47, [.tmp 6],
  .seq (.region false [
    ⟨0, (some 3), .n (.box 40) [.t 0] 0 0, [], none⟩,
    ⟨1, (some 6), .p .mov [.c (.bool false)], [], none⟩])
   (.seq (.region false [
    ⟨0, (some 7), .p .mov [.c (.nilp)], [], none⟩])
   (.seq (.region false [
    ⟨0, (some 11), .p .mov [.t 7], [], none⟩,
    ⟨1, (some 12), .p .mov [.t 2], [], none⟩,
    ⟨2, (some 13), .c (.call 15) [.t 11, .t 12], [], none⟩,
    ⟨3, (some 10), .p .mov [.t 13], [], none⟩,
    ⟨4, (some 14), .p (.ext 0) [.t 10], [], none⟩,
    ⟨5, (some 15), .p (.ext 1) [.t 10], [], none⟩,
    ⟨6, (some 8), .n (.alloc (.agg [.int .u64 0, .int .u64 0, .int .u64 0, .int .u64 0, .int .u64 0, .int .u64 0, .int .u64 0, .sl 32 .nil []])) [] 0 0, [], none⟩,
    ⟨7, none, .c (.store 8) [.t 8, .t 14], [], none⟩,
    ⟨8, (some 9), .p .mov [.t 15], [], none⟩])
   (.seq (.region false [
    ⟨0, (some 16), .p .mov [.t 7], [], none⟩,
    ⟨1, (some 17), .ld true 40 (.t 3) 0 0, [], none⟩,
    ⟨2, (some 18), .c (.call 17) [.t 16, .t 17], [], none⟩,
    ⟨3, (some 19), .p (.bld [.int .i64 0, .int .i64 0, .int .u64 0, .int .u64 0, .int .u64 0, .int .u64 0, .bool false, .int .u64 0, .int .u64 0, .int .u64 0, .int .u64 0, .int .u64 0, .int .u64 0, .int .u64 0, .int .u64 0, .int .u64 0, .int .u64 0, .int .u64 0, .int .u64 0, .int .u64 0, .int .u64 0, .int .u64 0, .int .u64 0, .int .u64 0, .int .u64 0, .int .u64 0, .int .u64 0, .int .u64 0, .int .u64 0, .int .u64 0, .int .u64 0, .int .u64 0, .int .u64 0, .int .u64 0, .int .u64 0, .int .u64 0, .int .u64 0, .int .u64 0, .int .u64 0, .int .u64 0, .int .u64 0, .int .u64 0, .int .u64 0, .int .u64 0, .sl 6 .nil []] [(1, 1)]) [.c (.int .i64 1)], [], none⟩,
    ⟨4, (some 20), .c (.call 16) [.t 18, .t 19], [], none⟩,
    ⟨5, (some 21), .p .mov [.t 20], [], none⟩,
    ⟨6, (some 22), .p .mov [.t 7], [], (some (21, true))⟩,
    ⟨7, (some 23), .p .mov [.t 1], [], (some (21, true))⟩,
    ⟨8, (some 24), .c (.call 18) [.t 22, .t 23], [], (some (21, true))⟩,
    ⟨9, (some 25), .p (.bld [.int .i64 0, .int .i64 0, .int .u64 0, .int .u64 0, .int .u64 0, .int .u64 0, .bool false, .int .u64 0, .int .u64 0, .int .u64 0, .int .u64 0, .int .u64 0, .int .u64 0, .int .u64 0, .int .u64 0, .int .u64 0, .int .u64 0, .int .u64 0, .int .u64 0, .int .u64 0, .int .u64 0, .int .u64 0, .int .u64 0, .int .u64 0, .int .u64 0, .int .u64 0, .int .u64 0, .int .u64 0, .int .u64 0, .int .u64 0, .int .u64 0, .int .u64 0, .int .u64 0, .int .u64 0, .int .u64 0, .int .u64 0, .int .u64 0, .int .u64 0, .int .u64 0, .int .u64 0, .int .u64 0, .int .u64 0, .int .u64 0, .int .u64 0, .sl 6 .nil []] [(1, 1)]) [.c (.int .i64 1)], [], (some (21, true))⟩,
    ⟨10, (some 26), .c (.call 16) [.t 24, .t 25], [], (some (21, true))⟩,
    ⟨11, (some 27), .p .pick [.t 21, .t 26, .c (.bool false)], [], none⟩,
    ⟨12, (some 28), .p .mov [.t 27], [], none⟩,
    ⟨13, (some 29), .p .mov [.t 7], [], (some (28, true))⟩,
    ⟨14, (some 30), .c (.call 20) [.t 29], [], (some (28, true))⟩,
    ⟨15, (some 31), .p (.bld [.int .u64 0, .int .u64 0, .int .u64 0, .int .u64 0, .int .u64 0, .int .u64 0, .int .u64 0, .int .u64 0, .int .u64 0, .int .u64 0, .int .u64 0, .int .u64 0, .int .u64 0, .int .u64 0, .int .u64 0, .int .u64 0, .int .u64 0, .int .u64 0, .int .u64 0, .int .u64 0, .int .u64 0, .int .u64 0, .int .u64 0, .int .u64 0, .int .u64 0, .int .u64 0, .int .u64 0, .int .u64 0, .int .u64 0, .int .u64 0, .int .u64 0, .int .u64 0, .int .u64 0, .int .u64 0, .int .u64 0, .int .u64 0, .int .u64 0, .bool false, .int .u64 0, .int .u64 0, .int .u64 0, .int .u64 0, .sl 18 .nil [], .sl 6 .nil [], .int .u64 0, .int .u64 0, .int .u64 0, .int .u64 0, .int .u64 0, .int .u64 0, .int .u64 0, .int .u64 0, .int .u64 0, .int .u64 0, .int .u64 0, .int .u64 0, .int .u64 0, .int .u64 0, .int .u64 0, .int .u64 0, .sl 6 .nil [], .sl 1 .nil [], .int .u64 0, .int .u64 0, .int .u64 0, .int .u64 0, .sl 5 .nil []] []) [], [], (some (28, true))⟩,
    ⟨16, (some 32), .c (.call 19) [.t 30, .t 31], [], (some (28, true))⟩,
    ⟨17, (some 33), .p .pick [.t 28, .t 32, .c (.bool false)], [], none⟩,
    ⟨18, (some 34), .p .mov [.t 33], [], none⟩,
    ⟨19, (some 35), .p .mov [.t 7], [], (some (34, true))⟩,
    ⟨20, (some 36), .c (.call 21) [.t 35], [], (some (34, true))⟩,
    ⟨21, (some 37), .p (.bld [.int .u8 0, .int .u8 0, .int .u8 0, .int .u8 0, .int .u8 0, .int .u8 0, .int .u8 0, .int .u8 0, .int .u8 0, .int .u8 0, .int .u8 0, .int .u8 0, .int .u8 0, .int .u8 0, .int .u8 0, .int .u8 0, .int .u8 0, .int .u8 0, .int .u8 0, .int .u8 0, .int .u8 0, .int .u8 0, .int .u8 0, .int .u8 0, .int .u8 0, .int .u8 0, .int .u8 0, .int .u8 0, .int .u8 0, .int .u8 0, .int .u8 0, .int .u8 0] []) [], [], (some (34, true))⟩,
    ⟨22, (some 38), .p (.eqa false [false, false, false, false, false, false, false, false, false, false, false, false, false, false, false, false, false, false, false, false, false, false, false, false, false, false, false, false, false, false, false, false]) [.t 36, .t 37], [], (some (34, true))⟩,
    ⟨23, (some 39), .p .pick [.t 34, .t 38, .c (.bool false)], [], none⟩,
    ⟨24, (some 40), .p .mov [.t 39], [], none⟩,
    ⟨25, (some 41), .p .mov [.t 9], [], (some (40, true))⟩,
    ⟨26, (some 42), .p (.un .not) [.t 41], [], (some (40, true))⟩,
    ⟨27, (some 43), .p .pick [.t 40, .t 42, .c (.bool false)], [], none⟩,
    ⟨28, (some 44), .p .mov [.t 43], [], none⟩,
    ⟨29, (some 45), .c (.call 22) [], [], (some (44, true))⟩,
    ⟨30, (some 46), .p .pick [.t 44, .t 45, .c (.bool false)], [], none⟩,
    ⟨31, (some 6), .p .mov [.t 46], [], none⟩])
   (.ret))))⟩
def c15 : AFun := ⟨false, 66, [.cell 4 true 8, .tmp 5],
  .seq (.region false [
    ⟨0, (some 4), .n (.alloc (.agg [.int .u64 0, .int .u64 0, .int .u64 0, .int .u64 0, .int .u64 0, .int .u64 0, .int .u64 0, .sl 32 .nil []])) [] 0 0, [], none⟩,
    ⟨1, (some 5), .p .mov [.c (.bool false)], [], none⟩])
   (.seq (.seq (.region false [
    ⟨0, (some 11), .p .mov [.t 0], [], none⟩,
    ⟨1, (some 12), .p (.eqp false) [.t 11, .c (.nilp)], [], none⟩,
    ⟨2, (some 13), .p .mov [.t 12], [], none⟩,
    ⟨3, (some 14), .p .mov [.t 1], [], (some (13, false))⟩,
    ⟨4, (some 15), .p .mov [.t 0], [], (some (13, false))⟩,
    ⟨5, (some 16), .p .nilc [.t 15], [], (some (13, false))⟩,
    ⟨6, (some 17), .p (.fld 44) [.t 16], [], (some (13, false))⟩,
    ⟨7, (some 18), .ld false 1 (.t 17) 0 0, [], (some (13, false))⟩,
    ⟨8, (some 19), .c (.call 31) [.t 18], [], (some (13, false))⟩,
    ⟨9, (some 20), .p (.conv .u64) [.t 19], [], (some (13, false))⟩,
    ⟨10, (some 21), .p (.bin .geq) [.t 14, .t 20], [], (some (13, false))⟩,
    ⟨11, (some 22), .p .pick [.t 13, .c (.bool true), .t 21], [], none⟩])
   (.cond (.t 22) (.seq (.region false [
      ⟨0, (some 23), .p (.bld [.int .u64 0, .int .u64 0, .int .u64 0, .int .u64 0, .int .u64 0, .int .u64 0, .int .u64 0, .sl 32 .nil []] []) [], [], none⟩,
      ⟨1, none, .c (.store 8) [.t 4, .t 23], [], none⟩,
      ⟨2, (some 5), .p .mov [.c (.bool false)], [], none⟩])
     (.ret))
    (.skip)))
   (.seq (.region false [
    ⟨0, (some 24), .p .mov [.t 0], [], none⟩,
    ⟨1, (some 25), .p .nilc [.t 24], [], none⟩,
    ⟨2, (some 26), .p (.fld 44) [.t 25], [], none⟩,
    ⟨3, (some 27), .ld false 1 (.t 26) 0 0, [], none⟩,
    ⟨4, (some 28), .c (.call 31) [.t 27], [], none⟩,
    ⟨5, (some 6), .p .mov [.t 28], [], none⟩])
   (.seq (.region false [
    ⟨0, (some 30), .p .mov [.t 0], [], none⟩,
    ⟨1, (some 31), .p .nilc [.t 30], [], none⟩,
    ⟨2, (some 32), .p (.fld 44) [.t 31], [], none⟩,
    ⟨3, (some 33), .ld false 1 (.t 32) 0 0, [], none⟩,
    ⟨4, (some 34), .p .mov [.t 1], [], none⟩,
    ⟨5, (some 35), .p (.conv .i64) [.t 34], [], none⟩,
    ⟨6, (some 36), .c (.call 32) [.t 33, .t 35], [], none⟩,
    ⟨7, (some 29), .p .mov [.t 36], [], none⟩,
    ⟨8, (some 37), .p (.ext 0) [.t 29], [], none⟩,
    ⟨9, (some 38), .p (.ext 1) [.t 29], [], none⟩,
    ⟨10, (some 7), .n (.alloc (.agg [.int .u64 0, .int .u64 0, .int .u64 0, .int .u64 0, .int .u64 0, .int .u64 0])) [] 0 0, [], none⟩,
    ⟨11, none, .c (.store 6) [.t 7, .t 37], [], none⟩,
    ⟨12, (some 8), .p .mov [.t 38], [], none⟩])
   (.seq (.region false [
    ⟨0, (some 40), .p .mov [.t 0], [], none⟩,
    ⟨1, (some 41), .p .nilc [.t 40], [], none⟩,
    ⟨2, (some 42), .p (.fld 44) [.t 41], [], none⟩,
    ⟨3, (some 43), .ld false 1 (.t 42) 0 0, [], none⟩,
    ⟨4, (some 44), .p .mov [.t 1], [], none⟩,
    ⟨5, (some 45), .p (.conv .i64) [.t 44], [], none⟩,
    ⟨6, (some 46), .p .mov [.t 6], [], none⟩,
    ⟨7, (some 47), .c (.call 33) [.t 43, .t 45, .t 46], [], none⟩,
    ⟨8, (some 39), .p .mov [.t 47], [], none⟩,
    ⟨9, (some 48), .p (.ext 0) [.t 39], [], none⟩,
    ⟨10, (some 49), .p (.ext 1) [.t 39], [], none⟩,
    ⟨11, (some 9), .p .mov [.t 48], [], none⟩,
    ⟨12, (some 10), .p .mov [.t 49], [], none⟩])
   (.seq (.seq (.region false [
    ⟨0, (some 50), .p .mov [.t 8], [], none⟩,
    ⟨1, (some 51), .p (.un .not) [.t 50], [], none⟩,
    ⟨2, (some 52), .p .mov [.t 51], [], none⟩,
    ⟨3, (some 53), .p .mov [.t 10], [], (some (52, false))⟩,
    ⟨4, (some 54), .p (.un .not) [.t 53], [], (some (52, false))⟩,
    ⟨5, (some 55), .p .pick [.t 52, .c (.bool true), .t 54], [], none⟩])
   (.cond (.t 55) (.seq (.region false [
      ⟨0, (some 56), .p (.bld [.int .u64 0, .int .u64 0, .int .u64 0, .int .u64 0, .int .u64 0, .int .u64 0, .int .u64 0, .sl 32 .nil []] []) [], [], none⟩,
      ⟨1, none, .c (.store 8) [.t 4, .t 56], [], none⟩,
      ⟨2, (some 5), .p .mov [.c (.bool false)], [], none⟩])
     (.ret))
    (.skip)))
   (.seq (.region false [
    ⟨0, (some 57), .p .mov [.t 1], [], none⟩,
    ⟨1, (some 58), .p .mov [.t 6], [], none⟩,
    ⟨2, (some 59), .p (.conv .u64) [.t 58], [], none⟩,
    ⟨3, (some 60), .p (.fld 1) [.t 7], [], none⟩,
    ⟨4, (some 61), .ld false 1 (.t 60) 0 0, [], none⟩,
    ⟨5, (some 62), .p (.fld 2) [.t 7], [], none⟩,
    ⟨6, (some 63), .ld true 4 (.t 62) 0 0, [], none⟩,
    ⟨7, (some 64), .p .mov [.t 9], [], none⟩,
    ⟨8, (some 65), .p (.bld [.int .u64 0, .int .u64 0, .int .u64 0, .int .u64 0, .int .u64 0, .int .u64 0, .int .u64 0, .sl 32 .nil []] [(0, 1), (1, 1), (2, 1), (3, 4), (7, 1)]) [.t 57, .t 59, .t 61, .t 63, .t 64], [], none⟩,
    ⟨9, none, .c (.store 8) [.t 4, .t 65], [], none⟩,
    ⟨10, (some 5), .p .mov [.c (.bool true)], [], none⟩])
   (.ret)))))))⟩
def c16 : AFun := ⟨false, 66, [.tmp 4],
  .seq (.region false [
    ⟨0, (some 2), .n (.box 45) [.t 0] 0 0, [], none⟩,
    ⟨1, (some 3), .n (.box 45) [.t 1] 0 0, [], none⟩,
    ⟨2, (some 4), .p .mov [.c (.bool false)], [], none⟩])
   (.seq (.region false [
    ⟨0, (some 5), .p (.fld 0) [.t 2], [], none⟩,
    ⟨1, (some 6), .ld false 1 (.t 5) 0 0, [], none⟩,
    ⟨2, (some 7), .p (.fld 0) [.t 3], [], none⟩,
    ⟨3, (some 8), .ld false 1 (.t 7) 0 0, [], none⟩,
    ⟨4, (some 9), .p (.bin .eql) [.t 6, .t 8], [], none⟩,
    ⟨5, (some 10), .p .mov [.t 9], [], none⟩,
    ⟨6, (some 11), .p (.fld 1) [.t 2], [], (some (10, true))⟩,
    ⟨7, (some 12), .ld false 1 (.t 11) 0 0, [], (some (10, true))⟩,
    ⟨8, (some 13), .p (.fld 1) [.t 3], [], (some (10, true))⟩,
    ⟨9, (some 14), .ld false 1 (.t 13) 0 0, [], (some (10, true))⟩,
    ⟨10, (some 15), .p (.bin .eql) [.t 12, .t 14], [], (some (10, true))⟩,
    ⟨11, (some 16), .p .pick [.t 10, .t 15, .c (.bool false)], [], none⟩,
    ⟨12, (some 17), .p .mov [.t 16], [], none⟩,
    ⟨13, (some 18), .p (.fld 2) [.t 2], [], (some (17, true))⟩,
    ⟨14, (some 19), .ld true 25 (.t 18) 0 0, [], (some (17, true))⟩,
    ⟨15, (some 20), .p (.fld 2) [.t 3], [], (some (17, true))⟩,
    ⟨16, (some 21), .ld true 25 (.t 20) 0 0, [], (some (17, true))⟩,
    ⟨17, (some 22), .p (.eqa false [false, false, false, false, true, false, false, false, false, false, false, false, false, false, false, false, false, false, false, false, false, false, false, false, false]) [.t 19, .t 21], [], (some (17, true))⟩,
    ⟨18, (some 23), .p .pick [.t 17, .t 22, .c (.bool false)], [], none⟩,
    ⟨19, (some 24), .p .mov [.t 23], [], none⟩,
    ⟨20, (some 25), .p (.fld 27) [.t 2], [], (some (24, true))⟩,
    ⟨21, (some 26), .ld true 4 (.t 25) 0 0, [], (some (24, true))⟩,
    ⟨22, (some 27), .p (.fld 27) [.t 3], [], (some (24, true))⟩,
    ⟨23, (some 28), .ld true 4 (.t 27) 0 0, [], (some (24, true))⟩,
    ⟨24, (some 29), .p (.eqa false [false, false, false, false]) [.t 26, .t 28], [], (some (24, true))⟩,
    ⟨25, (some 30), .p .pick [.t 24, .t 29, .c (.bool false)], [], none⟩,
    ⟨26, (some 31), .p .mov [.t 30], [], none⟩,
    ⟨27, (some 32), .p (.fld 31) [.t 2], [], (some (31, true))⟩,
    ⟨28, (some 33), .ld true 4 (.t 32) 0 0, [], (some (31, true))⟩,
    ⟨29, (some 34), .p (.fld 31) [.t 3], [], (some (31, true))⟩,
    ⟨30, (some 35), .ld true 4 (.t 34) 0 0, [], (some (31, true))⟩,
    ⟨31, (some 36), .p (.eqa false [false, false, false, false]) [.t 33, .t 35], [], (some (31, true))⟩,
    ⟨32, (some 37), .p .pick [.t 31, .t 36, .c (.bool false)], [], none⟩,
    ⟨33, (some 38), .p .mov [.t 37], [], none⟩,
    ⟨34, (some 39), .p (.fld 35) [.t 2], [], (some (38, true))⟩,
    ⟨35, (some 40), .ld false 1 (.t 39) 0 0, [], (some (38, true))⟩,
    ⟨36, (some 41), .p (.fld 35) [.t 3], [], (some (38, true))⟩,
    ⟨37, (some 42), .ld false 1 (.t 41) 0 0, [], (some (38, true))⟩,
    ⟨38, (some 43), .p (.bin .eql) [.t 40, .t 42], [], (some (38, true))⟩,
    ⟨39, (some 44), .p .pick [.t 38, .t 43, .c (.bool false)], [], none⟩,
    ⟨40, (some 45), .p .mov [.t 44], [], none⟩,
    ⟨41, (some 46), .p (.fld 36) [.t 2], [], (some (45, true))⟩,
    ⟨42, (some 47), .ld true 4 (.t 46) 0 0, [], (some (45, true))⟩,
    ⟨43, (some 48), .p (.fld 36) [.t 3], [], (some (45, true))⟩,
    ⟨44, (some 49), .ld true 4 (.t 48) 0 0, [], (some (45, true))⟩,
    ⟨45, (some 50), .p (.eqa false [false, false, false, false]) [.t 47, .t 49], [], (some (45, true))⟩,
    ⟨46, (some 51), .p .pick [.t 45, .t 50, .c (.bool false)], [], none⟩,
    ⟨47, (some 52), .p .mov [.t 51], [], none⟩,
    ⟨48, (some 53), .p (.fld 40) [.t 2], [], (some (52, true))⟩,
    ⟨49, (some 54), .ld true 4 (.t 53) 0 0, [], (some (52, true))⟩,
    ⟨50, (some 55), .p (.fld 40) [.t 3], [], (some (52, true))⟩,
    ⟨51, (some 56), .ld true 4 (.t 55) 0 0, [], (some (52, true))⟩,
    ⟨52, (some 57), .p (.eqa false [false, false, false, false]) [.t 54, .t 56], [], (some (52, true))⟩,
    ⟨53, (some 58), .p .pick [.t 52, .t 57, .c (.bool false)], [], none⟩,
    ⟨54, (some 59), .p .mov [.t 58], [], none⟩,
    ⟨55, (some 60), .p (.fld 44) [.t 2], [], (some (59, true))⟩,
    ⟨56, (some 61), .ld false 1 (.t 60) 0 0, [], (some (59, true))⟩,
    ⟨57, (some 62), .p (.fld 44) [.t 3], [], (some (59, true))⟩,
    ⟨58, (some 63), .ld false 1 (.t 62) 0 0, [], (some (59, true))⟩,
    ⟨59, (some 64), .c (.call 34) [.t 61, .t 63], [], (some (59, true))⟩,
    ⟨60, (some 65), .p .pick [.t 59, .t 64, .c (.bool false)], [], none⟩,
    ⟨61, (some 4), .p .mov [.t 65], [], none⟩])
   (.ret))⟩
def c17 : AFun := ⟨false, 46, [.cell 4 true 45],
  .seq (.region false [
    ⟨0, (some 3), .n (.box 40) [.t 1] 0 0, [], none⟩,
    ⟨1, (some 4), .n (.alloc (.agg [.int .i64 0, .int .i64 0, .int .u64 0, .int .u64 0, .int .u64 0, .int .u64 0, .bool false, .int .u64 0, .int .u64 0, .int .u64 0, .int .u64 0, .int .u64 0, .int .u64 0, .int .u64 0, .int .u64 0, .int .u64 0, .int .u64 0, .int .u64 0, .int .u64 0, .int .u64 0, .int .u64 0, .int .u64 0, .int .u64 0, .int .u64 0, .int .u64 0, .int .u64 0, .int .u64 0, .int .u64 0, .int .u64 0, .int .u64 0, .int .u64 0, .int .u64 0, .int .u64 0, .int .u64 0, .int .u64 0, .int .u64 0, .int .u64 0, .int .u64 0, .int .u64 0, .int .u64 0, .int .u64 0, .int .u64 0, .int .u64 0, .int .u64 0, .sl 6 .nil []])) [] 0 0, [], none⟩])
   (.seq (.seq (.region false [
    ⟨0, (some 8), .p .mov [.t 0], [], none⟩,
    ⟨1, (some 9), .p (.eqp false) [.t 8, .c (.nilp)], [], none⟩])
   (.cond (.t 9) (.seq (.region false [
      ⟨0, (some 10), .p (.bld [.int .i64 0, .int .i64 0, .int .u64 0, .int .u64 0, .int .u64 0, .int .u64 0, .bool false, .int .u64 0, .int .u64 0, .int .u64 0, .int .u64 0, .int .u64 0, .int .u64 0, .int .u64 0, .int .u64 0, .int .u64 0, .int .u64 0, .int .u64 0, .int .u64 0, .int .u64 0, .int .u64 0, .int .u64 0, .int .u64 0, .int .u64 0, .int .u64 0, .int .u64 0, .int .u64 0, .int .u64 0, .int .u64 0, .int .u64 0, .int .u64 0, .int .u64 0, .int .u64 0, .int .u64 0, .int .u64 0, .int .u64 0, .int .u64 0, .int .u64 0, .int .u64 0, .int .u64 0, .int .u64 0, .int .u64 0, .int .u64 0, .int .u64 0, .sl 6 .nil []] [(1, 1)]) [.c (.int .i64 1)], [], none⟩,
      ⟨1, none, .c (.store 45) [.t 4, .t 10], [], none⟩])
     (.ret))
    (.skip)))
   (.seq (.region false [
    ⟨0, (some 11), .p .mov [.t 0], [], none⟩,
    ⟨1, (some 12), .c (.call 35) [.t 11], [], none⟩])
   (.seq (.region false [
    ⟨0, (some 13), .c (.call 36) [], [], none⟩,
    ⟨1, (some 5), .p .mov [.t 13], [], none⟩])
   (.seq (.seq (.region false [
    ⟨0, (some 14), .p (.fld 0) [.t 3], [], none⟩,
    ⟨1, (some 15), .ld false 1 (.t 14) 0 0, [], none⟩,
    ⟨2, (some 16), .p (.bin .lss) [.t 15, .c (.int .i64 1)], [], none⟩,
    ⟨3, (some 17), .p .mov [.t 16], [], none⟩,
    ⟨4, (some 18), .p (.fld 0) [.t 3], [], (some (17, false))⟩,
    ⟨5, (some 19), .ld false 1 (.t 18) 0 0, [], (some (17, false))⟩,
    ⟨6, (some 20), .p .mov [.t 5], [], (some (17, false))⟩,
    ⟨7, (some 21), .p .len [.t 20], [], (some (17, false))⟩,
    ⟨8, (some 22), .p (.bin .geq) [.t 19, .t 21], [], (some (17, false))⟩,
    ⟨9, (some 23), .p .pick [.t 17, .c (.bool true), .t 22], [], none⟩])
   (.cond (.t 23) (.seq (.region false [
      ⟨0, (some 24), .p (.bld [.int .i64 0, .int .i64 0, .int .u64 0, .int .u64 0, .int .u64 0, .int .u64 0, .bool false, .int .u64 0, .int .u64 0, .int .u64 0, .int .u64 0, .int .u64 0, .int .u64 0, .int .u64 0, .int .u64 0, .int .u64 0, .int .u64 0, .int .u64 0, .int .u64 0, .int .u64 0, .int .u64 0, .int .u64 0, .int .u64 0, .int .u64 0, .int .u64 0, .int .u64 0, .int .u64 0, .int .u64 0, .int .u64 0, .int .u64 0, .int .u64 0, .int .u64 0, .int .u64 0, .int .u64 0, .int .u64 0, .int .u64 0, .int .u64 0, .int .u64 0, .int .u64 0, .int .u64 0, .int .u64 0, .int .u64 0, .int .u64 0, .int .u64 0, .sl 6 .nil []] [(1, 1)]) [.c (.int .i64 17)], [], none⟩,
      ⟨1, none, .c (.store 45) [.t 4, .t 24], [], none⟩])
     (.ret))
    (.skip)))
   (.seq (.region true [
    ⟨0, (some 26), .p .mov [.t 5], [], none⟩,
    ⟨1, (some 27), .p (.fld 0) [.t 3], [], none⟩,
    ⟨2, (some 28), .ld false 1 (.t 27) 0 0, [1], none⟩,
    ⟨3, (some 29), .p (.ixs 1) [.t 26, .t 28], [0, 2], none⟩,
    ⟨4, (some 30), .ld false 1 (.t 29) 0 0, [3], none⟩,
    ⟨5, (some 31), .p .mov [.t 0], [], none⟩,
    ⟨6, (some 32), .ld true 40 (.t 3) 0 0, [], none⟩,
    ⟨11, (some 6), .n (.alloc (.agg [.int .i64 0, .int .i64 0, .int .u64 0, .int .u64 0, .int .u64 0, .int .u64 0, .bool false, .int .u64 0, .int .u64 0, .int .u64 0, .int .u64 0, .int .u64 0, .int .u64 0, .int .u64 0, .int .u64 0, .int .u64 0, .int .u64 0, .int .u64 0, .int .u64 0, .int .u64 0, .int .u64 0, .int .u64 0, .int .u64 0, .int .u64 0, .int .u64 0, .int .u64 0, .int .u64 0, .int .u64 0, .int .u64 0, .int .u64 0, .int .u64 0, .int .u64 0, .int .u64 0, .int .u64 0, .int .u64 0, .int .u64 0, .int .u64 0, .int .u64 0, .int .u64 0, .int .u64 0, .int .u64 0, .int .u64 0, .int .u64 0, .int .u64 0, .sl 6 .nil []])) [] 0 1, [], none⟩,
    ⟨7, (some 33), .c .callv [.t 30, .t 31, .t 32], [4, 5, 6], none⟩,
    ⟨8, (some 25), .p .mov [.t 33], [8], none⟩,
    ⟨9, (some 34), .p (.ext 0) [.t 25], [9], none⟩,
    ⟨10, (some 35), .p (.ext 1) [.t 25], [9], none⟩,
    ⟨12, none, .c (.store 45) [.t 6, .t 34], [7, 10, 8, 0, 1, 2, 3, 4, 5, 6, 9], none⟩,
    ⟨13, (some 7), .p .mov [.t 35], [11, 12, 0, 1, 2, 3, 4, 5, 6, 8, 9, 10, 7], none⟩])
   (.seq (.seq (.region false [
    ⟨0, (some 36), .p .mov [.t 7], [], none⟩,
    ⟨1, (some 37), .p (.bin .neq) [.t 36, .c (.int .i64 0)], [], none⟩])
   (.cond (.t 37) (.seq (.region false [
      ⟨0, (some 38), .p (.fld 0) [.t 3], [], none⟩,
      ⟨1, (some 39), .ld false 1 (.t 38) 0 0, [], none⟩,
      ⟨2, (some 40), .p .mov [.t 7], [], none⟩,
      ⟨3, (some 41), .p (.bld [.int .i64 0, .int .i64 0, .int .u64 0, .int .u64 0, .int .u64 0, .int .u64 0, .bool false, .int .u64 0, .int .u64 0, .int .u64 0, .int .u64 0, .int .u64 0, .int .u64 0, .int .u64 0, .int .u64 0, .int .u64 0, .int .u64 0, .int .u64 0, .int .u64 0, .int .u64 0, .int .u64 0, .int .u64 0, .int .u64 0, .int .u64 0, .int .u64 0, .int .u64 0, .int .u64 0, .int .u64 0, .int .u64 0, .int .u64 0, .int .u64 0, .int .u64 0, .int .u64 0, .int .u64 0, .int .u64 0, .int .u64 0, .int .u64 0, .int .u64 0, .int .u64 0, .int .u64 0, .int .u64 0, .int .u64 0, .int .u64 0, .int .u64 0, .sl 6 .nil []] [(0, 1), (1, 1)]) [.t 39, .t 40], [], none⟩,
      ⟨4, none, .c (.store 45) [.t 4, .t 41], [], none⟩])
     (.ret))
    (.skip)))
   (.seq (.region false [
    ⟨0, (some 42), .p (.fld 0) [.t 3], [], none⟩,
    ⟨1, (some 43), .ld false 1 (.t 42) 0 0, [], none⟩,
    ⟨2, (some 44), .p (.fld 0) [.t 6], [], none⟩,
    ⟨3, none, .c (.store 1) [.t 44, .t 43], [], none⟩])
   (.seq (.region false [
    ⟨0, (some 45), .ld true 45 (.t 6) 0 0, [], none⟩,
    ⟨1, none, .c (.store 45) [.t 4, .t 45], [], none⟩])
   (.ret)))))))))⟩
def c18 : AFun := ⟨false, 24, [.cell 4 true 45],
  .seq (.region false [
    ⟨0, (some 4), .n (.alloc (.agg [.int .i64 0, .int .i64 0, .int .u64 0, .int .u64 0, .int .u64 0, .int .u64 0, .bool false, .int .u64 0, .int .u64 0, .int .u64 0, .int .u64 0, .int .u64 0, .int .u64 0, .int .u64 0, .int .u64 0, .int .u64 0, .int .u64 0, .int .u64 0, .int .u64 0, .int .u64 0, .int .u64 0, .int .u64 0, .int .u64 0, .int .u64 0, .int .u64 0, .int .u64 0, .int .u64 0, .int .u64 0, .int .u64 0, .int .u64 0, .int .u64 0, .int .u64 0, .int .u64 0, .int .u64 0, .int .u64 0, .int .u64 0, .int .u64 0, .int .u64 0, .int .u64 0, .int .u64 0, .int .u64 0, .int .u64 0, .int .u64 0, .int .u64 0, .sl 6 .nil []])) [] 0 0, [], none⟩])
   (.seq (.seq (.region false [
    ⟨0, (some 7), .p .mov [.t 0], [], none⟩,
    ⟨1, (some 8), .p (.eqp false) [.t 7, .c (.nilp)], [], none⟩])
   (.cond (.t 8) (.seq (.region false [
      ⟨0, (some 9), .p (.bld [.int .i64 0, .int .i64 0, .int .u64 0, .int .u64 0, .int .u64 0, .int .u64 0, .bool false, .int .u64 0, .int .u64 0, .int .u64 0, .int .u64 0, .int .u64 0, .int .u64 0, .int .u64 0, .int .u64 0, .int .u64 0, .int .u64 0, .int .u64 0, .int .u64 0, .int .u64 0, .int .u64 0, .int .u64 0, .int .u64 0, .int .u64 0, .int .u64 0, .int .u64 0, .int .u64 0, .int .u64 0, .int .u64 0, .int .u64 0, .int .u64 0, .int .u64 0, .int .u64 0, .int .u64 0, .int .u64 0, .int .u64 0, .int .u64 0, .int .u64 0, .int .u64 0, .int .u64 0, .int .u64 0, .int .u64 0, .int .u64 0, .int .u64 0, .sl 6 .nil []] [(1, 1)]) [.c (.int .i64 1)], [], none⟩,
      ⟨1, none, .c (.store 45) [.t 4, .t 9], [], none⟩])
     (.ret))
    (.skip)))
   (.seq (.region false [
    ⟨0, (some 11), .p .mov [.t 1], [], none⟩,
    ⟨1, (some 12), .c (.call 37) [.t 11], [], none⟩,
    ⟨2, (some 10), .p .mov [.t 12], [], none⟩,
    ⟨3, (some 13), .p (.ext 0) [.t 10], [], none⟩,
    ⟨4, (some 14), .p (.ext 1) [.t 10], [], none⟩,
    ⟨5, (some 5), .n (.alloc (.agg [.int .i64 0, .int .u64 0, .int .u64 0, .int .u64 0, .int .u64 0, .int .u64 0, .int .u64 0, .int .u64 0, .int .u64 0, .int .u64 0, .int .u64 0, .int .u64 0, .int .u64 0, .int .u64 0, .int .u64 0, .int .u64 0, .int .u64 0, .int .u64 0, .sl 1 .nil [], .int .u64 0, .int .u64 0, .int .u64 0, .int .u64 0, .int .u64 0, .int .u64 0, .int .u64 0, .int .i64 0, .int .u64 0, .int .u64 0, .int .u64 0, .int .u64 0, .int .u64 0, .int .u64 0, .int .u64 0, .int .u64 0, .int .u64 0, .int .u64 0, .int .u64 0, .int .u64 0, .sl 32 .nil []])) [] 0 0, [], none⟩,
    ⟨6, none, .c (.store 40) [.t 5, .t 13], [], none⟩,
    ⟨7, (some 6), .p .mov [.t 14], [], none⟩])
   (.seq (.seq (.region false [
    ⟨0, (some 15), .p .mov [.t 6], [], none⟩,
    ⟨1, (some 16), .p (.bin .neq) [.t 15, .c (.int .i64 0)], [], none⟩])
   (.cond (.t 16) (.seq (.region false [
      ⟨0, (some 17), .p .mov [.t 0], [], none⟩,
      ⟨1, (some 18), .c (.call 35) [.t 17], [], none⟩])
     (.seq (.region false [
      ⟨0, (some 19), .p .mov [.t 6], [], none⟩,
      ⟨1, (some 20), .p (.bld [.int .i64 0, .int .i64 0, .int .u64 0, .int .u64 0, .int .u64 0, .int .u64 0, .bool false, .int .u64 0, .int .u64 0, .int .u64 0, .int .u64 0, .int .u64 0, .int .u64 0, .int .u64 0, .int .u64 0, .int .u64 0, .int .u64 0, .int .u64 0, .int .u64 0, .int .u64 0, .int .u64 0, .int .u64 0, .int .u64 0, .int .u64 0, .int .u64 0, .int .u64 0, .int .u64 0, .int .u64 0, .int .u64 0, .int .u64 0, .int .u64 0, .int .u64 0, .int .u64 0, .int .u64 0, .int .u64 0, .int .u64 0, .int .u64 0, .int .u64 0, .int .u64 0, .int .u64 0, .int .u64 0, .int .u64 0, .int .u64 0, .int .u64 0, .sl 6 .nil []] [(1, 1)]) [.t 19], [], none⟩,
      ⟨2, none, .c (.store 45) [.t 4, .t 20], [], none⟩])
     (.ret)))
    (.skip)))
   (.seq (.region false [
    ⟨0, (some 21), .p .mov [.t 0], [], none⟩,
    ⟨1, (some 22), .ld true 40 (.t 5) 0 0, [], none⟩,
    ⟨2, (some 23), .c (.call 17) [.t 21, .t 22], [], none⟩,
    ⟨3, none, .c (.store 45) [.t 4, .t 23], [], none⟩])
   (.ret)))))⟩
def c19 : AFun := ⟨false, 80, [.tmp 4],
  .seq (.region false [
    ⟨0, (some 2), .n (.box 67) [.t 0] 0 0, [], none⟩,
    ⟨1, (some 3), .n (.box 67) [.t 1] 0 0, [], none⟩,
    ⟨2, (some 4), .p .mov [.c (.bool false)], [], none⟩])
   (.seq (.region false [
    ⟨0, (some 5), .p (.fld 0) [.t 2], [], none⟩,
    ⟨1, (some 6), .ld false 1 (.t 5) 0 0, [], none⟩,
    ⟨2, (some 7), .p (.fld 0) [.t 3], [], none⟩,
    ⟨3, (some 8), .ld false 1 (.t 7) 0 0, [], none⟩,
    ⟨4, (some 9), .p (.bin .eql) [.t 6, .t 8], [], none⟩,
    ⟨5, (some 10), .p .mov [.t 9], [], none⟩,
    ⟨6, (some 11), .p (.fld 1) [.t 2], [], (some (10, true))⟩,
    ⟨7, (some 12), .ld true 21 (.t 11) 0 0, [], (some (10, true))⟩,
    ⟨8, (some 13), .p (.fld 1) [.t 3], [], (some (10, true))⟩,
    ⟨9, (some 14), .ld true 21 (.t 13) 0 0, [], (some (10, true))⟩,
    ⟨10, (some 15), .p (.eqa false [false, false, false, false, false, false, false, false, false, false, false, false, false, false, false, false, false, false, false, false, false]) [.t 12, .t 14], [], (some (10, true))⟩,
    ⟨11, (some 16), .p .pick [.t 10, .t 15, .c (.bool false)], [], none⟩,
    ⟨12, (some 17), .p .mov [.t 16], [], none⟩,
    ⟨13, (some 18), .p (.fld 22) [.t 2], [], (some (17, true))⟩,
    ⟨14, (some 19), .ld true 7 (.t 18) 0 0, [], (some (17, true))⟩,
    ⟨15, (some 20), .p (.fld 22) [.t 3], [], (some (17, true))⟩,
    ⟨16, (some 21), .ld true 7 (.t 20) 0 0, [], (some (17, true))⟩,
    ⟨17, (some 22), .p (.eqa false [false, false, false, false, false, false, false]) [.t 19, .t 21], [], (some (17, true))⟩,
    ⟨18, (some 23), .p .pick [.t 17, .t 22, .c (.bool false)], [], none⟩,
    ⟨19, (some 24), .p .mov [.t 23], [], none⟩,
    ⟨20, (some 25), .p (.fld 29) [.t 2], [], (some (24, true))⟩,
    ⟨21, (some 26), .ld false 1 (.t 25) 0 0, [], (some (24, true))⟩,
    ⟨22, (some 27), .p (.fld 29) [.t 3], [], (some (24, true))⟩,
    ⟨23, (some 28), .ld false 1 (.t 27) 0 0, [], (some (24, true))⟩,
    ⟨24, (some 29), .p (.bin .eql) [.t 26, .t 28], [], (some (24, true))⟩,
    ⟨25, (some 30), .p .pick [.t 24, .t 29, .c (.bool false)], [], none⟩,
    ⟨26, (some 31), .p .mov [.t 30], [], none⟩,
    ⟨27, (some 32), .p (.fld 30) [.t 2], [], (some (31, true))⟩,
    ⟨28, (some 33), .ld true 13 (.t 32) 0 0, [], (some (31, true))⟩,
    ⟨29, (some 34), .p (.fld 30) [.t 3], [], (some (31, true))⟩,
    ⟨30, (some 35), .ld true 13 (.t 34) 0 0, [], (some (31, true))⟩,
    ⟨31, (some 36), .c (.call 38) [.t 33, .t 35], [], (some (31, true))⟩,
    ⟨32, (some 37), .p .pick [.t 31, .t 36, .c (.bool false)], [], none⟩,
    ⟨33, (some 38), .p .mov [.t 37], [], none⟩,
    ⟨34, (some 39), .p (.fld 43) [.t 2], [], (some (38, true))⟩,
    ⟨35, (some 40), .ld false 1 (.t 39) 0 0, [], (some (38, true))⟩,
    ⟨36, (some 41), .p (.fld 43) [.t 3], [], (some (38, true))⟩,
    ⟨37, (some 42), .ld false 1 (.t 41) 0 0, [], (some (38, true))⟩,
    ⟨38, (some 43), .c (.call 39) [.t 40, .t 42], [], (some (38, true))⟩,
    ⟨39, (some 44), .p .pick [.t 38, .t 43, .c (.bool false)], [], none⟩,
    ⟨40, (some 45), .p .mov [.t 44], [], none⟩,
    ⟨41, (some 46), .p (.fld 44) [.t 2], [], (some (45, true))⟩,
    ⟨42, (some 47), .ld true 16 (.t 46) 0 0, [], (some (45, true))⟩,
    ⟨43, (some 48), .p (.fld 44) [.t 3], [], (some (45, true))⟩,
    ⟨44, (some 49), .ld true 16 (.t 48) 0 0, [], (some (45, true))⟩,
    ⟨45, (some 50), .p (.eqa false [false, false, false, false, false, false, false, false, false, false, false, false, false, false, false, false]) [.t 47, .t 49], [], (some (45, true))⟩,
    ⟨46, (some 51), .p .pick [.t 45, .t 50, .c (.bool false)], [], none⟩,
    ⟨47, (some 52), .p .mov [.t 51], [], none⟩,
    ⟨48, (some 53), .p (.fld 60) [.t 2], [], (some (52, true))⟩,
    ⟨49, (some 54), .ld false 1 (.t 53) 0 0, [], (some (52, true))⟩,
    ⟨50, (some 55), .p (.fld 60) [.t 3], [], (some (52, true))⟩,
    ⟨51, (some 56), .ld false 1 (.t 55) 0 0, [], (some (52, true))⟩,
    ⟨52, (some 57), .c (.call 34) [.t 54, .t 56], [], (some (52, true))⟩,
    ⟨53, (some 58), .p .pick [.t 52, .t 57, .c (.bool false)], [], none⟩,
    ⟨54, (some 59), .p .mov [.t 58], [], none⟩,
    ⟨55, (some 60), .p (.fld 61) [.t 2], [], (some (59, true))⟩,
    ⟨56, (some 61), .ld false 1 (.t 60) 0 0, [], (some (59, true))⟩,
    ⟨57, (some 62), .p (.fld 61) [.t 3], [], (some (59, true))⟩,
    ⟨58, (some 63), .ld false 1 (.t 62) 0 0, [], (some (59, true))⟩,
    ⟨59, (some 64), .c (.call 40) [.t 61, .t 63], [], (some (59, true))⟩,
    ⟨60, (some 65), .p .pick [.t 59, .t 64, .c (.bool false)], [], none⟩,
    ⟨61, (some 66), .p .mov [.t 65], [], none⟩,
    ⟨62, (some 67), .p (.fld 62) [.t 2], [], (some (66, true))⟩,
    ⟨63, (some 68), .ld true 4 (.t 67) 0 0, [], (some (66, true))⟩,
    ⟨64, (some 69), .p (.fld 62) [.t 3], [], (some (66, true))⟩,
    ⟨65, (some 70), .ld true 4 (.t 69) 0 0, [], (some (66, true))⟩,
    ⟨66, (some 71), .p (.eqa false [false, false, false, false]) [.t 68, .t 70], [], (some (66, true))⟩,
    ⟨67, (some 72), .p .pick [.t 66, .t 71, .c (.bool false)], [], none⟩,
    ⟨68, (some 73), .p .mov [.t 72], [], none⟩,
    ⟨69, (some 74), .p (.fld 66) [.t 2], [], (some (73, true))⟩,
    ⟨70, (some 75), .ld false 1 (.t 74) 0 0, [], (some (73, true))⟩,
    ⟨71, (some 76), .p (.fld 66) [.t 3], [], (some (73, true))⟩,
    ⟨72, (some 77), .ld false 1 (.t 76) 0 0, [], (some (73, true))⟩,
    ⟨73, (some 78), .c (.call 41) [.t 75, .t 77], [], (some (73, true))⟩,
    ⟨74, (some 79), .p .pick [.t 73, .t 78, .c (.bool false)], [], none⟩,
    ⟨75, (some 4), .p .mov [.t 79], [], none⟩])
   (.ret))⟩
def c20 : AFun := ⟨false, 80, [.cell 2 true 67],
  .seq (.region false [
    ⟨0, (some 2), .n (.alloc (.agg [.int .u64 0, .int .u64 0, .int .u64 0, .int .u64 0, .int .u64 0, .int .u64 0, .int .u64 0, .int .u64 0, .int .u64 0, .int .u64 0, .int .u64 0, .int .u64 0, .int .u64 0, .int .u64 0, .int .u64 0, .int .u64 0, .int .u64 0, .int .u64 0, .int .u64 0, .int .u64 0, .int .u64 0, .int .u64 0, .int .u64 0, .int .u64 0, .int .u64 0, .int .u64 0, .int .u64 0, .int .u64 0, .int .u64 0, .int .u64 0, .int .u64 0, .int .u64 0, .int .u64 0, .int .u64 0, .int .u64 0, .int .u64 0, .int .u64 0, .bool false, .int .u64 0, .int .u64 0, .int .u64 0, .int .u64 0, .sl 18 .nil [], .sl 6 .nil [], .int .u64 0, .int .u64 0, .int .u64 0, .int .u64 0, .int .u64 0, .int .u64 0, .int .u64 0, .int .u64 0, .int .u64 0, .int .u64 0, .int .u64 0, .int .u64 0, .int .u64 0, .int .u64 0, .int .u64 0, .int .u64 0, .sl 6 .nil [], .sl 1 .nil [], .int .u64 0, .int .u64 0, .int .u64 0, .int .u64 0, .sl 5 .nil []])) [] 0 0, [], none⟩])
   (.seq (.seq (.region false [
    ⟨0, (some 5), .p .mov [.t 0], [], none⟩,
    ⟨1, (some 6), .p (.eqp false) [.t 5, .c (.nilp)], [], none⟩])
   (.cond (.t 6) (.seq (.region false [
      ⟨0, (some 7), .p (.bld [.int .u64 0, .int .u64 0, .int .u64 0, .int .u64 0, .int .u64 0, .int .u64 0, .int .u64 0, .int .u64 0, .int .u64 0, .int .u64 0, .int .u64 0, .int .u64 0, .int .u64 0, .int .u64 0, .int .u64 0, .int .u64 0, .int .u64 0, .int .u64 0, .int .u64 0, .int .u64 0, .int .u64 0, .int .u64 0, .int .u64 0, .int .u64 0, .int .u64 0, .int .u64 0, .int .u64 0, .int .u64 0, .int .u64 0, .int .u64 0, .int .u64 0, .int .u64 0, .int .u64 0, .int .u64 0, .int .u64 0, .int .u64 0, .int .u64 0, .bool false, .int .u64 0, .int .u64 0, .int .u64 0, .int .u64 0, .sl 18 .nil [], .sl 6 .nil [], .int .u64 0, .int .u64 0, .int .u64 0, .int .u64 0, .int .u64 0, .int .u64 0, .int .u64 0, .int .u64 0, .int .u64 0, .int .u64 0, .int .u64 0, .int .u64 0, .int .u64 0, .int .u64 0, .int .u64 0, .int .u64 0, .sl 6 .nil [], .sl 1 .nil [], .int .u64 0, .int .u64 0, .int .u64 0, .int .u64 0, .sl 5 .nil []] []) [], [], none⟩,
      ⟨1, none, .c (.store 67) [.t 2, .t 7], [], none⟩])
     (.ret))
    (.skip)))
   (.seq (.region true [
    ⟨0, (some 8), .p .mov [.t 0], [], none⟩,
    ⟨1, (some 9), .p .nilc [.t 8], [0], none⟩,
    ⟨2, (some 10), .p (.fld 0) [.t 9], [1], none⟩,
    ⟨3, (some 11), .ld false 1 (.t 10) 0 5, [2], none⟩,
    ⟨4, (some 12), .p .mov [.t 0], [], none⟩,
    ⟨5, (some 13), .p .nilc [.t 12], [4], none⟩,
    ⟨6, (some 14), .p (.fld 1) [.t 13], [5], none⟩,
    ⟨7, (some 15), .ld true 21 (.t 14) 0 5, [6], none⟩,
    ⟨8, (some 16), .p .mov [.t 0], [], none⟩,
    ⟨9, (some 17), .p .nilc [.t 16], [8], none⟩,
    ⟨10, (some 18), .p (.fld 22) [.t 17], [9], none⟩,
    ⟨11, (some 19), .ld true 7 (.t 18) 0 5, [10], none⟩,
    ⟨12, (some 20), .p .mov [.t 0], [], none⟩,
    ⟨13, (some 21), .p .nilc [.t 20], [12], none⟩,
    ⟨14, (some 22), .p (.fld 29) [.t 21], [13], none⟩,
    ⟨15, (some 23), .ld false 1 (.t 22) 0 5, [14], none⟩,
    ⟨16, (some 24), .p .mov [.t 0], [], none⟩,
    ⟨17, (some 25), .p .nilc [.t 24], [16], none⟩,
    ⟨18, (some 26), .p (.fld 30) [.t 25], [17], none⟩,
    ⟨19, (some 27), .ld true 13 (.t 26) 0 5, [18], none⟩,
    ⟨20, (some 28), .p .mov [.t 0], [], none⟩,
    ⟨21, (some 29), .p .nilc [.t 28], [20], none⟩,
    ⟨22, (some 30), .p (.fld 43) [.t 29], [21], none⟩,
    ⟨23, (some 31), .ld false 1 (.t 30) 0 0, [22], none⟩,
    ⟨25, (some 33), .p .mov [.t 0], [], none⟩,
    ⟨26, (some 34), .p .nilc [.t 33], [24], none⟩,
    ⟨27, (some 35), .p (.fld 43) [.t 34], [25], none⟩,
    ⟨28, (some 36), .ld false 1 (.t 35) 0 1, [26], none⟩,
    ⟨30, (some 38), .p .mov [.t 0], [], none⟩,
    ⟨31, (some 39), .p .nilc [.t 38], [28], none⟩,
    ⟨32, (some 40), .p (.fld 44) [.t 39], [29], none⟩,
    ⟨33, (some 41), .ld false 1 (.t 40) 0 2, [30], none⟩,
    ⟨35, (some 43), .p .mov [.t 0], [], none⟩,
    ⟨36, (some 44), .p .nilc [.t 43], [32], none⟩,
    ⟨37, (some 45), .p (.fld 45) [.t 44], [33], none⟩,
    ⟨38, (some 46), .ld false 1 (.t 45) 0 3, [34], none⟩,
    ⟨40, (some 48), .p .mov [.t 0], [], none⟩,
    ⟨41, (some 49), .p .nilc [.t 48], [36], none⟩,
    ⟨42, (some 50), .p (.fld 45) [.t 49], [37], none⟩,
    ⟨43, (some 51), .ld false 1 (.t 50) 0 4, [38], none⟩,
    ⟨46, (some 3), .n (.alloc (.agg [.int .u64 0, .int .u64 0, .int .u64 0, .int .u64 0, .int .u64 0, .int .u64 0, .int .u64 0, .int .u64 0, .int .u64 0, .int .u64 0, .int .u64 0, .int .u64 0, .int .u64 0, .int .u64 0, .int .u64 0, .int .u64 0, .int .u64 0, .int .u64 0, .int .u64 0, .int .u64 0, .int .u64 0, .int .u64 0, .int .u64 0, .int .u64 0, .int .u64 0, .int .u64 0, .int .u64 0, .int .u64 0, .int .u64 0, .int .u64 0, .int .u64 0, .int .u64 0, .int .u64 0, .int .u64 0, .int .u64 0, .int .u64 0, .int .u64 0, .bool false, .int .u64 0, .int .u64 0, .int .u64 0, .int .u64 0, .sl 18 .nil [], .sl 6 .nil [], .int .u64 0, .int .u64 0, .int .u64 0, .int .u64 0, .int .u64 0, .int .u64 0, .int .u64 0, .int .u64 0, .int .u64 0, .int .u64 0, .int .u64 0, .int .u64 0, .int .u64 0, .int .u64 0, .int .u64 0, .int .u64 0, .sl 6 .nil [], .sl 1 .nil [], .int .u64 0, .int .u64 0, .int .u64 0, .int .u64 0, .sl 5 .nil []])) [] 0 5, [], none⟩,
    ⟨24, (some 32), .c (.call 42) [.t 31], [23], none⟩,
    ⟨29, (some 37), .c (.call 43) [.t 36], [27, 41], none⟩,
    ⟨34, (some 42), .c (.call 44) [.t 41], [31, 42], none⟩,
    ⟨39, (some 47), .c (.call 45) [.t 46], [35, 43], none⟩,
    ⟨44, (some 52), .c (.call 46) [.t 51], [39, 44], none⟩,
    ⟨45, (some 53), .p (.bld [.int .u64 0, .int .u64 0, .int .u64 0, .int .u64 0, .int .u64 0, .int .u64 0, .int .u64 0, .int .u64 0, .int .u64 0, .int .u64 0, .int .u64 0, .int .u64 0, .int .u64 0, .int .u64 0, .int .u64 0, .int .u64 0, .int .u64 0, .int .u64 0, .int .u64 0, .int .u64 0, .int .u64 0, .int .u64 0, .int .u64 0, .int .u64 0, .int .u64 0, .int .u64 0, .int .u64 0, .int .u64 0, .int .u64 0, .int .u64 0, .int .u64 0, .int .u64 0, .int .u64 0, .int .u64 0, .int .u64 0, .int .u64 0, .int .u64 0, .bool false, .int .u64 0, .int .u64 0, .int .u64 0, .int .u64 0, .sl 18 .nil [], .sl 6 .nil [], .int .u64 0, .int .u64 0, .int .u64 0, .int .u64 0, .int .u64 0, .int .u64 0, .int .u64 0, .int .u64 0, .int .u64 0, .int .u64 0, .int .u64 0, .int .u64 0, .int .u64 0, .int .u64 0, .int .u64 0, .int .u64 0, .sl 6 .nil [], .sl 1 .nil [], .int .u64 0, .int .u64 0, .int .u64 0, .int .u64 0, .sl 5 .nil []] [(0, 1), (1, 21), (22, 7), (29, 1), (30, 13), (43, 1), (44, 16), (60, 1), (62, 4), (66, 1)]) [.t 11, .t 15, .t 19, .t 23, .t 27, .t 32, .t 37, .t 42, .t 47, .t 52], [3, 7, 11, 15, 19, 41, 42, 43, 44, 45], none⟩,
    ⟨47, none, .c (.store 67) [.t 3, .t 53], [40, 46, 45, 0, 1, 2, 3, 4, 5, 6, 7, 8, 9, 10, 11, 12, 13, 14, 15, 16, 17, 18, 19, 20, 21, 22, 23, 41, 24, 25, 26, 27, 42, 28, 29, 30, 31, 43, 32, 33, 34, 35, 44, 36, 37, 38, 39], none⟩])
   (.seq (.region false [
    ⟨0, (some 54), .p (.fld 30) [.t 3], [], none⟩,
    ⟨1, (some 55), .p (.fld 12) [.t 54], [], none⟩,
    ⟨2, (some 56), .ld false 1 (.t 55) 0 0, [], none⟩,
    ⟨3, (some 57), .c (.call 47) [.t 56], [], none⟩,
    ⟨4, (some 58), .p (.fld 30) [.t 3], [], none⟩,
    ⟨5, (some 59), .p (.fld 12) [.t 58], [], none⟩,
    ⟨6, none, .c (.store 1) [.t 59, .t 57], [], none⟩])
   (.seq (.seq (.region false [
    ⟨0, (some 60), .p (.fld 60) [.t 3], [], none⟩,
    ⟨1, (some 61), .ld false 1 (.t 60) 0 0, [], none⟩,
    ⟨2, (some 62), .p .len [.t 61], [], none⟩,
    ⟨3, (some 63), .p .mov [.c (.int .i64 0)], [], none⟩])
   (.block 0 (.loop [true, false, true, true, false, false, false, false, false, false, false, false, false, false, false, false, false, false, false, false, false, false, false, false, false, false, false, false, false, false, false, false, false, false, false, false, false, false, false, false, false, false, false, false, false, false, false, false, false, false, false, false, false, false, false, false, false, false, false, false, false, false, true, true] (.seq (.region false [
        ⟨0, (some 64), .p (.bin .lss) [.t 63, .t 62], [], none⟩])
       (.seq (.cond (.t 64) (.skip)
        (.exit 0))
       (.seq (.block 1 (.seq (.region false [
          ⟨0, (some 65), .p .mov [.t 63], [], none⟩,
          ⟨1, (some 4), .p .mov [.t 65], [], none⟩])
         (.region true [
          ⟨0, (some 66), .p (.fld 61) [.t 3], [], none⟩,
          ⟨1, (some 67), .ld false 1 (.t 66) 0 1, [0], none⟩,
          ⟨2, (some 68), .p .mov [.t 0], [], none⟩,
          ⟨3, (some 69), .p .nilc [.t 68], [2], none⟩,
          ⟨4, (some 70), .p (.fld 45) [.t 69], [3], none⟩,
          ⟨5, (some 71), .ld false 1 (.t 70) 0 0, [4], none⟩,
          ⟨6, (some 72), .p .mov [.t 4], [], none⟩,
          ⟨7, (some 73), .p (.conv .u64) [.t 72], [6], none⟩,
          ⟨8, (some 74), .c (.call 48) [.t 71, .t 73], [5, 7], none⟩,
          ⟨9, (some 75), .n (.bsl 1 (.bool false) 1 [0]) [.t 74] 1 1, [8], none⟩,
          ⟨10, (some 76), .c (.app 1 1) [.t 67, .t 75], [1, 9, 8], none⟩,
          ⟨11, (some 77), .p (.fld 61) [.t 3], [0, 1, 2, 3, 4, 5, 6, 7, 8, 9, 10], none⟩,
          ⟨12, none, .c (.store 1) [.t 77, .t 76], [11, 10, 0, 1, 2, 3, 4, 5, 6, 7, 8, 9], none⟩])))
       (.region false [
        ⟨0, (some 78), .p (.bin .add) [.t 63, .c (.int .i64 1)], [], none⟩,
        ⟨1, (some 63), .p .mov [.t 78], [], none⟩])))))))
   (.seq (.region false [
    ⟨0, (some 79), .ld true 67 (.t 3) 0 0, [], none⟩,
    ⟨1, none, .c (.store 67) [.t 2, .t 79], [], none⟩])
   (.ret))))))⟩
def c21 : AFun := ⟨false, 15, [.cell 2 true 32],
  .seq (.region false [
    ⟨0, (some 2), .n (.alloc (.agg [.int .u8 0, .int .u8 0, .int .u8 0, .int .u8 0, .int .u8 0, .int .u8 0, .int .u8 0, .int .u8 0, .int .u8 0, .int .u8 0, .int .u8 0, .int .u8 0, .int .u8 0, .int .u8 0, .int .u8 0, .int .u8 0, .int .u8 0, .int .u8 0, .int .u8 0, .int .u8 0, .int .u8 0, .int .u8 0, .int .u8 0, .int .u8 0, .int .u8 0, .int .u8 0, .int .u8 0, .int .u8 0, .int .u8 0, .int .u8 0, .int .u8 0, .int .u8 0])) [] 0 0, [], none⟩])
   (.seq (.seq (.region false [
    ⟨0, (some 5), .p .mov [.t 0], [], none⟩,
    ⟨1, (some 6), .p (.eqp false) [.t 5, .c (.nilp)], [], none⟩])
   (.cond (.t 6) (.seq (.region false [
      ⟨0, (some 7), .p (.bld [.int .u8 0, .int .u8 0, .int .u8 0, .int .u8 0, .int .u8 0, .int .u8 0, .int .u8 0, .int .u8 0, .int .u8 0, .int .u8 0, .int .u8 0, .int .u8 0, .int .u8 0, .int .u8 0, .int .u8 0, .int .u8 0, .int .u8 0, .int .u8 0, .int .u8 0, .int .u8 0, .int .u8 0, .int .u8 0, .int .u8 0, .int .u8 0, .int .u8 0, .int .u8 0, .int .u8 0, .int .u8 0, .int .u8 0, .int .u8 0, .int .u8 0, .int .u8 0] []) [], [], none⟩,
      ⟨1, none, .c (.store 32) [.t 2, .t 7], [], none⟩])
     (.ret))
    (.skip)))
   (.seq (.region false [
    ⟨0, (some 9), .p .mov [.t 0], [], none⟩,
    ⟨1, (some 10), .c (.call 20) [.t 9], [], none⟩,
    ⟨2, (some 11), .c (.call 49) [.t 10], [], none⟩,
    ⟨3, (some 8), .p .mov [.t 11], [], none⟩,
    ⟨4, (some 12), .p (.ext 0) [.t 8], [], none⟩,
    ⟨5, (some 13), .p (.ext 1) [.t 8], [], none⟩,
    ⟨6, (some 3), .n (.alloc (.agg [.int .u8 0, .int .u8 0, .int .u8 0, .int .u8 0, .int .u8 0, .int .u8 0, .int .u8 0, .int .u8 0, .int .u8 0, .int .u8 0, .int .u8 0, .int .u8 0, .int .u8 0, .int .u8 0, .int .u8 0, .int .u8 0, .int .u8 0, .int .u8 0, .int .u8 0, .int .u8 0, .int .u8 0, .int .u8 0, .int .u8 0, .int .u8 0, .int .u8 0, .int .u8 0, .int .u8 0, .int .u8 0, .int .u8 0, .int .u8 0, .int .u8 0, .int .u8 0])) [] 0 0, [], none⟩,
    ⟨7, none, .c (.store 32) [.t 3, .t 12], [], none⟩,
    ⟨8, (some 4), .p .mov [.t 13], [], none⟩])
   (.seq (.region false [
    ⟨0, (some 14), .ld true 32 (.t 3) 0 0, [], none⟩,
    ⟨1, none, .c (.store 32) [.t 2, .t 14], [], none⟩])
   (.ret))))⟩
def c22 : AFun := ⟨false, 71, [.tmp 0],
  .seq (.region false [
    ⟨0, (some 0), .p .mov [.c (.bool false)], [], none⟩])
   (.seq (.region false [
    ⟨0, (some 6), .c (.call 50) [], [], none⟩,
    ⟨1, (some 1), .p .mov [.t 6], [], none⟩])
   (.seq (.seq (.region false [
    ⟨0, (some 7), .p .mov [.t 1], [], none⟩,
    ⟨1, (some 8), .p (.eqp false) [.t 7, .c (.nilp)], [], none⟩])
   (.cond (.t 8) (.seq (.region false [
      ⟨0, (some 0), .p .mov [.c (.bool false)], [], none⟩])
     (.ret))
    (.skip)))
   (.seq (.region false [
    ⟨0, (some 9), .p .mov [.t 1], [], none⟩,
    ⟨1, (some 10), .p (.bld [.int .u64 0, .int .u64 0, .int .u64 0, .int .u64 0] [(0, 1)]) [.c (.int .u64 100)], [], none⟩,
    ⟨2, (some 11), .p (.bld [.int .i64 0, .int .u64 0, .int .u64 0, .int .u64 0, .int .u64 0, .int .u64 0, .int .u64 0, .int .u64 0, .int .u64 0, .int .u64 0, .int .u64 0, .int .u64 0, .int .u64 0, .int .u64 0, .int .u64 0, .int .u64 0, .int .u64 0, .int .u64 0, .sl 1 .nil [], .int .u64 0, .int .u64 0, .int .u64 0, .int .u64 0, .int .u64 0, .int .u64 0, .int .u64 0, .int .i64 0, .int .u64 0, .int .u64 0, .int .u64 0, .int .u64 0, .int .u64 0, .int .u64 0, .int .u64 0, .int .u64 0, .int .u64 0, .int .u64 0, .int .u64 0, .int .u64 0, .sl 32 .nil []] [(0, 1), (31, 1), (27, 4)]) [.c (.int .i64 6), .c (.int .u64 5), .t 10], [], none⟩,
    ⟨3, (some 12), .c (.call 17) [.t 9, .t 11], [], none⟩,
    ⟨4, (some 2), .n (.alloc (.agg [.int .i64 0, .int .i64 0, .int .u64 0, .int .u64 0, .int .u64 0, .int .u64 0, .bool false, .int .u64 0, .int .u64 0, .int .u64 0, .int .u64 0, .int .u64 0, .int .u64 0, .int .u64 0, .int .u64 0, .int .u64 0, .int .u64 0, .int .u64 0, .int .u64 0, .int .u64 0, .int .u64 0, .int .u64 0, .int .u64 0, .int .u64 0, .int .u64 0, .int .u64 0, .int .u64 0, .int .u64 0, .int .u64 0, .int .u64 0, .int .u64 0, .int .u64 0, .int .u64 0, .int .u64 0, .int .u64 0, .int .u64 0, .int .u64 0, .int .u64 0, .int .u64 0, .int .u64 0, .int .u64 0, .int .u64 0, .int .u64 0, .int .u64 0, .sl 6 .nil []])) [] 0 0, [], none⟩,
    ⟨5, none, .c (.store 45) [.t 2, .t 12], [], none⟩])
   (.seq (.region false [
    ⟨0, (some 13), .p .mov [.t 1], [], none⟩,
    ⟨1, (some 14), .p (.bld [.int .u64 0, .int .u64 0, .int .u64 0, .int .u64 0] [(0, 1)]) [.c (.int .u64 1)], [], none⟩,
    ⟨2, (some 15), .p (.bld [.int .u64 0, .int .u64 0, .int .u64 0, .int .u64 0, .int .u64 0, .int .u64 0, .int .u64 0, .sl 32 .nil []] [(1, 1), (2, 1), (3, 4)]) [.c (.int .u64 1), .c (.int .u64 1), .t 14], [], none⟩,
    ⟨3, (some 16), .p (.bld [.int .i64 0, .int .u64 0, .int .u64 0, .int .u64 0, .int .u64 0, .int .u64 0, .int .u64 0, .int .u64 0, .int .u64 0, .int .u64 0, .int .u64 0, .int .u64 0, .int .u64 0, .int .u64 0, .int .u64 0, .int .u64 0, .int .u64 0, .int .u64 0, .sl 1 .nil [], .int .u64 0, .int .u64 0, .int .u64 0, .int .u64 0, .int .u64 0, .int .u64 0, .int .u64 0, .int .i64 0, .int .u64 0, .int .u64 0, .int .u64 0, .int .u64 0, .int .u64 0, .int .u64 0, .int .u64 0, .int .u64 0, .int .u64 0, .int .u64 0, .int .u64 0, .int .u64 0, .sl 32 .nil []] [(0, 1), (32, 8)]) [.c (.int .i64 7), .t 15], [], none⟩,
    ⟨4, (some 17), .c (.call 17) [.t 13, .t 16], [], none⟩,
    ⟨5, (some 3), .n (.alloc (.agg [.int .i64 0, .int .i64 0, .int .u64 0, .int .u64 0, .int .u64 0, .int .u64 0, .bool false, .int .u64 0, .int .u64 0, .int .u64 0, .int .u64 0, .int .u64 0, .int .u64 0, .int .u64 0, .int .u64 0, .int .u64 0, .int .u64 0, .int .u64 0, .int .u64 0, .int .u64 0, .int .u64 0, .int .u64 0, .int .u64 0, .int .u64 0, .int .u64 0, .int .u64 0, .int .u64 0, .int .u64 0, .int .u64 0, .int .u64 0, .int .u64 0, .int .u64 0, .int .u64 0, .int .u64 0, .int .u64 0, .int .u64 0, .int .u64 0, .int .u64 0, .int .u64 0, .int .u64 0, .int .u64 0, .int .u64 0, .int .u64 0, .int .u64 0, .sl 6 .nil []])) [] 0 0, [], none⟩,
    ⟨6, none, .c (.store 45) [.t 3, .t 17], [], none⟩])
   (.seq (.region false [
    ⟨0, (some 18), .p .mov [.t 1], [], none⟩,
    ⟨1, (some 19), .c (.call 18) [.t 18, .c (.sl 1 .nil [])], [], none⟩,
    ⟨2, (some 4), .n (.alloc (.agg [.int .i64 0, .int .i64 0, .int .u64 0, .int .u64 0, .int .u64 0, .int .u64 0, .bool false, .int .u64 0, .int .u64 0, .int .u64 0, .int .u64 0, .int .u64 0, .int .u64 0, .int .u64 0, .int .u64 0, .int .u64 0, .int .u64 0, .int .u64 0, .int .u64 0, .int .u64 0, .int .u64 0, .int .u64 0, .int .u64 0, .int .u64 0, .int .u64 0, .int .u64 0, .int .u64 0, .int .u64 0, .int .u64 0, .int .u64 0, .int .u64 0, .int .u64 0, .int .u64 0, .int .u64 0, .int .u64 0, .int .u64 0, .int .u64 0, .int .u64 0, .int .u64 0, .int .u64 0, .int .u64 0, .int .u64 0, .int .u64 0, .int .u64 0, .sl 6 .nil []])) [] 0 0, [], none⟩,
    ⟨3, none, .c (.store 45) [.t 4, .t 19], [], none⟩])
   (.seq (.region false [
    ⟨0, (some 20), .p .mov [.t 1], [], none⟩,
    ⟨1, (some 21), .c (.call 20) [.t 20], [], none⟩,
    ⟨2, (some 5), .n (.alloc (.agg [.int .u64 0, .int .u64 0, .int .u64 0, .int .u64 0, .int .u64 0, .int .u64 0, .int .u64 0, .int .u64 0, .int .u64 0, .int .u64 0, .int .u64 0, .int .u64 0, .int .u64 0, .int .u64 0, .int .u64 0, .int .u64 0, .int .u64 0, .int .u64 0, .int .u64 0, .int .u64 0, .int .u64 0, .int .u64 0, .int .u64 0, .int .u64 0, .int .u64 0, .int .u64 0, .int .u64 0, .int .u64 0, .int .u64 0, .int .u64 0, .int .u64 0, .int .u64 0, .int .u64 0, .int .u64 0, .int .u64 0, .int .u64 0, .int .u64 0, .bool false, .int .u64 0, .int .u64 0, .int .u64 0, .int .u64 0, .sl 18 .nil [], .sl 6 .nil [], .int .u64 0, .int .u64 0, .int .u64 0, .int .u64 0, .int .u64 0, .int .u64 0, .int .u64 0, .int .u64 0, .int .u64 0, .int .u64 0, .int .u64 0, .int .u64 0, .int .u64 0, .int .u64 0, .int .u64 0, .int .u64 0, .sl 6 .nil [], .sl 1 .nil [], .int .u64 0, .int .u64 0, .int .u64 0, .int .u64 0, .sl 5 .nil []])) [] 0 0, [], none⟩,
    ⟨3, none, .c (.store 67) [.t 5, .t 21], [], none⟩])
   (.seq (.region false [
    ⟨0, (some 22), .p (.fld 1) [.t 2], [], none⟩,
    ⟨1, (some 23), .ld false 1 (.t 22) 0 0, [], none⟩,
    ⟨2, (some 24), .p (.bin .eql) [.t 23, .c (.int .i64 0)], [], none⟩,
    ⟨3, (some 25), .p .mov [.t 24], [], none⟩,
    ⟨4, (some 26), .p (.fld 0) [.t 2], [], (some (25, true))⟩,
    ⟨5, (some 27), .ld false 1 (.t 26) 0 0, [], (some (25, true))⟩,
    ⟨6, (some 28), .p (.bin .eql) [.t 27, .c (.int .i64 6)], [], (some (25, true))⟩,
    ⟨7, (some 29), .p .pick [.t 25, .t 28, .c (.bool false)], [], none⟩,
    ⟨8, (some 30), .p .mov [.t 29], [], none⟩,
    ⟨9, (some 31), .p (.fld 1) [.t 3], [], (some (30, true))⟩,
    ⟨10, (some 32), .ld false 1 (.t 31) 0 0, [], (some (30, true))⟩,
    ⟨11, (some 33), .p (.bin .eql) [.t 32, .c (.int .i64 8)], [], (some (30, true))⟩,
    ⟨12, (some 34), .p .pick [.t 30, .t 33, .c (.bool false)], [], none⟩,
    ⟨13, (some 35), .p .mov [.t 34], [], none⟩,
    ⟨14, (some 36), .p (.fld 1) [.t 4], [], (some (35, true))⟩,
    ⟨15, (some 37), .ld false 1 (.t 36) 0 0, [], (some (35, true))⟩,
    ⟨16, (some 38), .p (.bin .eql) [.t 37, .c (.int .i64 3)], [], (some (35, true))⟩,
    ⟨17, (some 39), .p .pick [.t 35, .t 38, .c (.bool false)], [], none⟩,
    ⟨18, (some 40), .p .mov [.t 39], [], none⟩,
    ⟨19, (some 41), .p (.fld 0) [.t 4], [], (some (40, true))⟩,
    ⟨20, (some 42), .ld false 1 (.t 41) 0 0, [], (some (40, true))⟩,
    ⟨21, (some 43), .p (.bin .eql) [.t 42, .c (.int .i64 0)], [], (some (40, true))⟩,
    ⟨22, (some 44), .p .pick [.t 40, .t 43, .c (.bool false)], [], none⟩,
    ⟨23, (some 45), .p .mov [.t 44], [], none⟩,
    ⟨24, (some 46), .p (.fld 0) [.t 5], [], (some (45, true))⟩,
    ⟨25, (some 47), .ld false 1 (.t 46) 0 0, [], (some (45, true))⟩,
    ⟨26, (some 48), .p (.bin .eql) [.t 47, .c (.int .u64 3)], [], (some (45, true))⟩,
    ⟨27, (some 49), .p .pick [.t 45, .t 48, .c (.bool false)], [], none⟩,
    ⟨28, (some 50), .p .mov [.t 49], [], none⟩,
    ⟨29, (some 51), .p (.fld 62) [.t 5], [], (some (50, true))⟩,
    ⟨30, (some 52), .ld true 4 (.t 51) 0 0, [], (some (50, true))⟩,
    ⟨31, (some 53), .p (.bld [.int .u64 0, .int .u64 0, .int .u64 0, .int .u64 0] [(0, 1)]) [.c (.int .u64 100)], [], (some (50, true))⟩,
    ⟨32, (some 54), .p (.eqa false [false, false, false, false]) [.t 52, .t 53], [], (some (50, true))⟩,
    ⟨33, (some 55), .p .pick [.t 50, .t 54, .c (.bool false)], [], none⟩,
    ⟨34, (some 56), .p .mov [.t 55], [], none⟩,
    ⟨35, (some 57), .p (.fld 43) [.t 5], [], (some (56, true))⟩,
    ⟨36, (some 58), .ld false 1 (.t 57) 0 0, [], (some (56, true))⟩,
    ⟨37, (some 59), .p .len [.t 58], [], (some (56, true))⟩,
    ⟨38, (some 60), .p (.bin .eql) [.t 59, .c (.int .i64 1)], [], (some (56, true))⟩,
    ⟨39, (some 61), .p .pick [.t 56, .t 60, .c (.bool false)], [], none⟩,
    ⟨40, (some 62), .p .mov [.t 61], [], none⟩,
    ⟨41, (some 63), .p (.fld 43) [.t 5], [], (some (62, true))⟩,
    ⟨42, (some 64), .ld false 1 (.t 63) 0 0, [], (some (62, true))⟩,
    ⟨43, (some 65), .p (.ixs 6) [.t 64, .c (.int .i64 0)], [], (some (62, true))⟩,
    ⟨44, (some 66), .p (.fld 1) [.t 65], [], (some (62, true))⟩,
    ⟨45, (some 67), .ld true 4 (.t 66) 0 0, [], (some (62, true))⟩,
    ⟨46, (some 68), .p (.bld [.int .u64 0, .int .u64 0, .int .u64 0, .int .u64 0] [(0, 1)]) [.c (.int .u64 100)], [], (some (62, true))⟩,
    ⟨47, (some 69), .p (.eqa false [false, false, false, false]) [.t 67, .t 68], [], (some (62, true))⟩,
    ⟨48, (some 70), .p .pick [.t 62, .t 69, .c (.bool false)], [], none⟩,
    ⟨49, (some 0), .p .mov [.t 70], [], none⟩])
   (.ret))))))))⟩
def c25 : AFun := ⟨false, 6, [.tmp 2],
  .seq (.region false [
    ⟨0, (some 2), .p .mov [.c (.nilp)], [], none⟩])
   (.seq (.region false [
    ⟨0, (some 3), .p .mov [.t 0], [], none⟩,
    ⟨1, (some 4), .p (.bld [.sl 1 .nil [], .int .i64 0, .bool false] [(0, 1)]) [.t 3], [], none⟩,
    ⟨2, (some 5), .n (.box 3) [.t 4] 0 0, [], none⟩,
    ⟨3, (some 2), .p .mov [.t 5], [], none⟩])
   (.ret))⟩
def c34 : AFun := ⟨false, 26, [.tmp 4],
  .seq (.region false [
    ⟨0, (some 4), .p .mov [.c (.bool false)], [], none⟩])
   (.seq (.seq (.region false [
    ⟨0, (some 6), .p .mov [.t 0], [], none⟩,
    ⟨1, (some 7), .p .len [.t 6], [], none⟩,
    ⟨2, (some 8), .p .mov [.t 1], [], none⟩,
    ⟨3, (some 9), .p .len [.t 8], [], none⟩,
    ⟨4, (some 10), .p (.bin .neq) [.t 7, .t 9], [], none⟩])
   (.cond (.t 10) (.seq (.region false [
      ⟨0, (some 4), .p .mov [.c (.bool false)], [], none⟩])
     (.ret))
    (.skip)))
   (.seq (.seq (.region false [
    ⟨0, (some 5), .p .mov [.c (.int .i64 0)], [], none⟩])
   (.block 0 (.loop [true, true, false, false, false, true] (.seq (.seq (.region false [
        ⟨0, (some 11), .p .mov [.t 5], [], none⟩,
        ⟨1, (some 12), .p .mov [.t 0], [], none⟩,
        ⟨2, (some 13), .p .len [.t 12], [], none⟩,
        ⟨3, (some 14), .p (.bin .lss) [.t 11, .t 13], [], none⟩])
       (.cond (.t 14) (.skip)
        (.exit 0)))
       (.seq (.block 1 (.seq (.region true [
          ⟨0, (some 17), .p .mov [.t 0], [], none⟩,
          ⟨1, (some 18), .p .mov [.t 5], [], none⟩,
          ⟨2, (some 19), .p (.ixs 6) [.t 17, .t 18], [0, 1], none⟩,
          ⟨3, (some 20), .ld true 6 (.t 19) 0 0, [2], none⟩,
          ⟨4, (some 21), .p .mov [.t 1], [], none⟩,
          ⟨5, (some 22), .p .mov [.t 5], [], none⟩,
          ⟨6, (some 23), .p (.ixs 6) [.t 21, .t 22], [4, 5], none⟩,
          ⟨7, (some 24), .ld true 6 (.t 23) 0 0, [6], none⟩,
          ⟨8, (some 25), .p (.eqa true [false, false, false, false, false, false]) [.t 20, .t 24], [3, 7], none⟩])
         (.cond (.t 25) (.seq (.region false [
            ⟨0, (some 4), .p .mov [.c (.bool false)], [], none⟩])
           (.ret))
          (.skip))))
       (.region false [
        ⟨0, (some 15), .p .mov [.t 5], [], none⟩,
        ⟨1, (some 16), .p (.bin .add) [.t 15, .c (.int .i64 1)], [], none⟩,
        ⟨2, (some 5), .p .mov [.t 16], [], none⟩]))))))
   (.seq (.region false [
    ⟨0, (some 4), .p .mov [.c (.bool true)], [], none⟩])
   (.ret))))⟩
def c35 : AFun := ⟨false, 14, [],
  .seq (.region false [
    ⟨0, (some 2), .p .mov [.t 0], [], none⟩,
    ⟨1, (some 3), .p .nilc [.t 2], [], none⟩,
    ⟨2, (some 4), .p (.fld 0) [.t 3], [], none⟩,
    ⟨3, (some 5), .ld false 1 (.t 4) 0 0, [], none⟩,
    ⟨4, (some 6), .p (.bin .lss) [.t 5, .c (.int .u64 18446744073709551615)], [], none⟩])
   (.cond (.t 6) (.region false [
      ⟨0, (some 7), .p .mov [.t 0], [], none⟩,
      ⟨1, (some 8), .p .nilc [.t 7], [], none⟩,
      ⟨2, (some 9), .p (.fld 0) [.t 8], [], none⟩,
      ⟨3, (some 10), .ld false 1 (.t 9) 0 0, [], none⟩,
      ⟨4, (some 11), .p (.bin .add) [.t 10, .c (.int .u64 1)], [], none⟩,
      ⟨5, (some 12), .p .nilc [.t 7], [], none⟩,
      ⟨6, (some 13), .p (.fld 0) [.t 12], [], none⟩,
      ⟨7, none, .c (.store 1) [.t 13, .t 11], [], none⟩])
    (.skip))⟩
def c36 : AFun := ⟨false, 2, [.tmp 0],
  .seq (.region false [
    ⟨0, (some 0), .p .mov [.c (.sl 1 .nil [])], [], none⟩])
   (.seq (.region false [
    ⟨0, (some 1), .n (.bsl 1 (.nilf) 8 [1, 2, 3, 4, 5, 6, 7]) [.c (.fn 60), .c (.fn 61), .c (.fn 62), .c (.fn 63), .c (.fn 64), .c (.fn 65), .c (.fn 66)] 0 0, [], none⟩,
    ⟨1, (some 0), .p .mov [.t 1], [], none⟩])
   (.ret))⟩
def c37 : AFun := ⟨false, 26, [.cell 2 true 40, .tmp 3],
  .seq (.region false [
    ⟨0, (some 2), .n (.alloc (.agg [.int .i64 0, .int .u64 0, .int .u64 0, .int .u64 0, .int .u64 0, .int .u64 0, .int .u64 0, .int .u64 0, .int .u64 0, .int .u64 0, .int .u64 0, .int .u64 0, .int .u64 0, .int .u64 0, .int .u64 0, .int .u64 0, .int .u64 0, .int .u64 0, .sl 1 .nil [], .int .u64 0, .int .u64 0, .int .u64 0, .int .u64 0, .int .u64 0, .int .u64 0, .int .u64 0, .int .i64 0, .int .u64 0, .int .u64 0, .int .u64 0, .int .u64 0, .int .u64 0, .int .u64 0, .int .u64 0, .int .u64 0, .int .u64 0, .int .u64 0, .int .u64 0, .int .u64 0, .sl 32 .nil []])) [] 0 0, [], none⟩,
    ⟨1, (some 3), .p .mov [.c (.int .i64 0)], [], none⟩])
   (.seq (.seq (.region false [
    ⟨0, (some 6), .p .mov [.t 0], [], none⟩,
    ⟨1, (some 7), .p .len [.t 6], [], none⟩,
    ⟨2, (some 8), .p (.bin .gtr) [.t 7, .c (.int .i64 8192)], [], none⟩])
   (.cond (.t 8) (.seq (.region false [
      ⟨0, (some 9), .p (.bld [.int .i64 0, .int .u64 0, .int .u64 0, .int .u64 0, .int .u64 0, .int .u64 0, .int .u64 0, .int .u64 0, .int .u64 0, .int .u64 0, .int .u64 0, .int .u64 0, .int .u64 0, .int .u64 0, .int .u64 0, .int .u64 0, .int .u64 0, .int .u64 0, .sl 1 .nil [], .int .u64 0, .int .u64 0, .int .u64 0, .int .u64 0, .int .u64 0, .int .u64 0, .int .u64 0, .int .i64 0, .int .u64 0, .int .u64 0, .int .u64 0, .int .u64 0, .int .u64 0, .int .u64 0, .int .u64 0, .int .u64 0, .int .u64 0, .int .u64 0, .int .u64 0, .int .u64 0, .sl 32 .nil []] []) [], [], none⟩,
      ⟨1, none, .c (.store 40) [.t 2, .t 9], [], none⟩,
      ⟨2, (some 3), .p .mov [.c (.int .i64 6)], [], none⟩])
     (.ret))
    (.skip)))
   (.seq (.region false [
    ⟨0, (some 10), .p .mov [.t 0], [], none⟩,
    ⟨1, (some 11), .c (.call 25) [.t 10], [], none⟩,
    ⟨2, (some 4), .p .mov [.t 11], [], none⟩])
   (.seq (.region false [
    ⟨0, (some 12), .p .mov [.t 4], [], none⟩,
    ⟨1, (some 13), .c (.call 67) [.t 12], [], none⟩,
    ⟨2, (some 14), .p (.conv .i64) [.t 13], [], none⟩,
    ⟨3, (some 15), .p (.bld [.int .i64 0, .int .u64 0, .int .u64 0, .int .u64 0, .int .u64 0, .int .u64 0, .int .u64 0, .int .u64 0, .int .u64 0, .int .u64 0, .int .u64 0, .int .u64 0, .int .u64 0, .int .u64 0, .int .u64 0, .int .u64 0, .int .u64 0, .int .u64 0, .sl 1 .nil [], .int .u64 0, .int .u64 0, .int .u64 0, .int .u64 0, .int .u64 0, .int .u64 0, .int .u64 0, .int .i64 0, .int .u64 0, .int .u64 0, .int .u64 0, .int .u64 0, .int .u64 0, .int .u64 0, .int .u64 0, .int .u64 0, .int .u64 0, .int .u64 0, .int .u64 0, .int .u64 0, .sl 32 .nil []] [(0, 1)]) [.t 14], [], none⟩,
    ⟨4, (some 5), .n (.alloc (.agg [.int .i64 0, .int .u64 0, .int .u64 0, .int .u64 0, .int .u64 0, .int .u64 0, .int .u64 0, .int .u64 0, .int .u64 0, .int .u64 0, .int .u64 0, .int .u64 0, .int .u64 0, .int .u64 0, .int .u64 0, .int .u64 0, .int .u64 0, .int .u64 0, .sl 1 .nil [], .int .u64 0, .int .u64 0, .int .u64 0, .int .u64 0, .int .u64 0, .int .u64 0, .int .u64 0, .int .i64 0, .int .u64 0, .int .u64 0, .int .u64 0, .int .u64 0, .int .u64 0, .int .u64 0, .int .u64 0, .int .u64 0, .int .u64 0, .int .u64 0, .int .u64 0, .int .u64 0, .sl 32 .nil []])) [] 0 0, [], none⟩,
    ⟨5, none, .c (.store 40) [.t 5, .t 15], [], none⟩])
   (.seq (.seq (.region false [
    ⟨0, (some 16), .p .mov [.t 4], [], none⟩,
    ⟨1, (some 17), .c (.call 68) [.t 5, .t 16], [], none⟩,
    ⟨2, (some 18), .p (.un .not) [.t 17], [], none⟩,
    ⟨3, (some 19), .p .mov [.t 18], [], none⟩,
    ⟨4, (some 20), .p .mov [.t 4], [], (some (19, false))⟩,
    ⟨5, (some 21), .c (.call 26) [.t 20], [], (some (19, false))⟩,
    ⟨6, (some 22), .p (.un .not) [.t 21], [], (some (19, false))⟩,
    ⟨7, (some 23), .p .pick [.t 19, .c (.bool true), .t 22], [], none⟩])
   (.cond (.t 23) (.seq (.region false [
      ⟨0, (some 24), .p (.bld [.int .i64 0, .int .u64 0, .int .u64 0, .int .u64 0, .int .u64 0, .int .u64 0, .int .u64 0, .int .u64 0, .int .u64 0, .int .u64 0, .int .u64 0, .int .u64 0, .int .u64 0, .int .u64 0, .int .u64 0, .int .u64 0, .int .u64 0, .int .u64 0, .sl 1 .nil [], .int .u64 0, .int .u64 0, .int .u64 0, .int .u64 0, .int .u64 0, .int .u64 0, .int .u64 0, .int .i64 0, .int .u64 0, .int .u64 0, .int .u64 0, .int .u64 0, .int .u64 0, .int .u64 0, .int .u64 0, .int .u64 0, .int .u64 0, .int .u64 0, .int .u64 0, .int .u64 0, .sl 32 .nil []] []) [], [], none⟩,
      ⟨1, none, .c (.store 40) [.t 2, .t 24], [], none⟩,
      ⟨2, (some 3), .p .mov [.c (.int .i64 3)], [], none⟩])
     (.ret))
    (.skip)))
   (.seq (.region false [
    ⟨0, (some 25), .ld true 40 (.t 5) 0 0, [], none⟩,
    ⟨1, none, .c (.store 40) [.t 2, .t 25], [], none⟩,
    ⟨2, (some 3), .p .mov [.c (.int .i64 0)], [], none⟩])
   (.ret))))))⟩
def c38 : AFun := ⟨false, 45, [.tmp 4],
  .seq (.region false [
    ⟨0, (some 2), .n (.box 13) [.t 0] 0 0, [], none⟩,
    ⟨1, (some 3), .n (.box 13) [.t 1] 0 0, [], none⟩,
    ⟨2, (some 4), .p .mov [.c (.bool false)], [], none⟩])
   (.seq (.region false [
    ⟨0, (some 5), .p (.fld 0) [.t 2], [], none⟩,
    ⟨1, (some 6), .ld true 4 (.t 5) 0 0, [], none⟩,
    ⟨2, (some 7), .p (.fld 0) [.t 3], [], none⟩,
    ⟨3, (some 8), .ld true 4 (.t 7) 0 0, [], none⟩,
    ⟨4, (some 9), .p (.eqa false [false, false, false, false]) [.t 6, .t 8], [], none⟩,
    ⟨5, (some 10), .p .mov [.t 9], [], none⟩,
    ⟨6, (some 11), .p (.fld 4) [.t 2], [], (some (10, true))⟩,
    ⟨7, (some 12), .ld false 1 (.t 11) 0 0, [], (some (10, true))⟩,
    ⟨8, (some 13), .p (.fld 4) [.t 3], [], (some (10, true))⟩,
    ⟨9, (some 14), .ld false 1 (.t 13) 0 0, [], (some (10, true))⟩,
    ⟨10, (some 15), .p (.bin .eql) [.t 12, .t 14], [], (some (10, true))⟩,
    ⟨11, (some 16), .p .pick [.t 10, .t 15, .c (.bool false)], [], none⟩,
    ⟨12, (some 17), .p .mov [.t 16], [], none⟩,
    ⟨13, (some 18), .p (.fld 5) [.t 2], [], (some (17, true))⟩,
    ⟨14, (some 19), .ld false 1 (.t 18) 0 0, [], (some (17, true))⟩,
    ⟨15, (some 20), .p (.fld 5) [.t 3], [], (some (17, true))⟩,
    ⟨16, (some 21), .ld false 1 (.t 20) 0 0, [], (some (17, true))⟩,
    ⟨17, (some 22), .p (.bin .eql) [.t 19, .t 21], [], (some (17, true))⟩,
    ⟨18, (some 23), .p .pick [.t 17, .t 22, .c (.bool false)], [], none⟩,
    ⟨19, (some 24), .p .mov [.t 23], [], none⟩,
    ⟨20, (some 25), .p (.fld 6) [.t 2], [], (some (24, true))⟩,
    ⟨21, (some 26), .ld false 1 (.t 25) 0 0, [], (some (24, true))⟩,
    ⟨22, (some 27), .p (.fld 6) [.t 3], [], (some (24, true))⟩,
    ⟨23, (some 28), .ld false 1 (.t 27) 0 0, [], (some (24, true))⟩,
    ⟨24, (some 29), .p (.bin .eql) [.t 26, .t 28], [], (some (24, true))⟩,
    ⟨25, (some 30), .p .pick [.t 24, .t 29, .c (.bool false)], [], none⟩,
    ⟨26, (some 31), .p .mov [.t 30], [], none⟩,
    ⟨27, (some 32), .p (.fld 7) [.t 2], [], (some (31, true))⟩,
    ⟨28, (some 33), .ld true 5 (.t 32) 0 0, [], (some (31, true))⟩,
    ⟨29, (some 34), .p (.fld 7) [.t 3], [], (some (31, true))⟩,
    ⟨30, (some 35), .ld true 5 (.t 34) 0 0, [], (some (31, true))⟩,
    ⟨31, (some 36), .p (.eqa false [true, false, false, false, false]) [.t 33, .t 35], [], (some (31, true))⟩,
    ⟨32, (some 37), .p .pick [.t 31, .t 36, .c (.bool false)], [], none⟩,
    ⟨33, (some 38), .p .mov [.t 37], [], none⟩,
    ⟨34, (some 39), .p (.fld 12) [.t 2], [], (some (38, true))⟩,
    ⟨35, (some 40), .ld false 1 (.t 39) 0 0, [], (some (38, true))⟩,
    ⟨36, (some 41), .p (.fld 12) [.t 3], [], (some (38, true))⟩,
    ⟨37, (some 42), .ld false 1 (.t 41) 0 0, [], (some (38, true))⟩,
    ⟨38, (some 43), .c (.call 69) [.t 40, .t 42], [], (some (38, true))⟩,
    ⟨39, (some 44), .p .pick [.t 38, .t 43, .c (.bool false)], [], none⟩,
    ⟨40, (some 4), .p .mov [.t 44], [], none⟩])
   (.ret))⟩
def c39 : AFun := ⟨false, 26, [.tmp 4],
  .seq (.region false [
    ⟨0, (some 4), .p .mov [.c (.bool false)], [], none⟩])
   (.seq (.seq (.region false [
    ⟨0, (some 6), .p .mov [.t 0], [], none⟩,
    ⟨1, (some 7), .p .len [.t 6], [], none⟩,
    ⟨2, (some 8), .p .mov [.t 1], [], none⟩,
    ⟨3, (some 9), .p .len [.t 8], [], none⟩,
    ⟨4, (some 10), .p (.bin .neq) [.t 7, .t 9], [], none⟩])
   (.cond (.t 10) (.seq (.region false [
      ⟨0, (some 4), .p .mov [.c (.bool false)], [], none⟩])
     (.ret))
    (.skip)))
   (.seq (.seq (.region false [
    ⟨0, (some 5), .p .mov [.c (.int .i64 0)], [], none⟩])
   (.block 0 (.loop [true, true, false, false, false, true] (.seq (.seq (.region false [
        ⟨0, (some 11), .p .mov [.t 5], [], none⟩,
        ⟨1, (some 12), .p .mov [.t 0], [], none⟩,
        ⟨2, (some 13), .p .len [.t 12], [], none⟩,
        ⟨3, (some 14), .p (.bin .lss) [.t 11, .t 13], [], none⟩])
       (.cond (.t 14) (.skip)
        (.exit 0)))
       (.seq (.block 1 (.seq (.region true [
          ⟨0, (some 17), .p .mov [.t 0], [], none⟩,
          ⟨1, (some 18), .p .mov [.t 5], [], none⟩,
          ⟨2, (some 19), .p (.ixs 6) [.t 17, .t 18], [0, 1], none⟩,
          ⟨3, (some 20), .ld true 6 (.t 19) 0 0, [2], none⟩,
          ⟨4, (some 21), .p .mov [.t 1], [], none⟩,
          ⟨5, (some 22), .p .mov [.t 5], [], none⟩,
          ⟨6, (some 23), .p (.ixs 6) [.t 21, .t 22], [4, 5], none⟩,
          ⟨7, (some 24), .ld true 6 (.t 23) 0 0, [6], none⟩,
          ⟨8, (some 25), .p (.eqa true [false, false, false, false, false, false]) [.t 20, .t 24], [3, 7], none⟩])
         (.cond (.t 25) (.seq (.region false [
            ⟨0, (some 4), .p .mov [.c (.bool false)], [], none⟩])
           (.ret))
          (.skip))))
       (.region false [
        ⟨0, (some 15), .p .mov [.t 5], [], none⟩,
        ⟨1, (some 16), .p (.bin .add) [.t 15, .c (.int .i64 1)], [], none⟩,
        ⟨2, (some 5), .p .mov [.t 16], [], none⟩]))))))
   (.seq (.region false [
    ⟨0, (some 4), .p .mov [.c (.bool true)], [], none⟩])
   (.ret))))⟩
def c40 : AFun := ⟨false, 26, [.tmp 4],
  .seq (.region false [
    ⟨0, (some 4), .p .mov [.c (.bool false)], [], none⟩])
   (.seq (.seq (.region false [
    ⟨0, (some 6), .p .mov [.t 0], [], none⟩,
    ⟨1, (some 7), .p .len [.t 6], [], none⟩,
    ⟨2, (some 8), .p .mov [.t 1], [], none⟩,
    ⟨3, (some 9), .p .len [.t 8], [], none⟩,
    ⟨4, (some 10), .p (.bin .neq) [.t 7, .t 9], [], none⟩])
   (.cond (.t 10) (.seq (.region false [
      ⟨0, (some 4), .p .mov [.c (.bool false)], [], none⟩])
     (.ret))
    (.skip)))
   (.seq (.seq (.region false [
    ⟨0, (some 5), .p .mov [.c (.int .i64 0)], [], none⟩])
   (.block 0 (.loop [true, true, false, false, false, true] (.seq (.seq (.region false [
        ⟨0, (some 11), .p .mov [.t 5], [], none⟩,
        ⟨1, (some 12), .p .mov [.t 0], [], none⟩,
        ⟨2, (some 13), .p .len [.t 12], [], none⟩,
        ⟨3, (some 14), .p (.bin .lss) [.t 11, .t 13], [], none⟩])
       (.cond (.t 14) (.skip)
        (.exit 0)))
       (.seq (.block 1 (.seq (.region true [
          ⟨0, (some 17), .p .mov [.t 0], [], none⟩,
          ⟨1, (some 18), .p .mov [.t 5], [], none⟩,
          ⟨2, (some 19), .p (.ixs 1) [.t 17, .t 18], [0, 1], none⟩,
          ⟨3, (some 20), .ld false 1 (.t 19) 0 0, [2], none⟩,
          ⟨4, (some 21), .p .mov [.t 1], [], none⟩,
          ⟨5, (some 22), .p .mov [.t 5], [], none⟩,
          ⟨6, (some 23), .p (.ixs 1) [.t 21, .t 22], [4, 5], none⟩,
          ⟨7, (some 24), .ld false 1 (.t 23) 0 0, [6], none⟩,
          ⟨8, (some 25), .p (.eqb true) [.t 20, .t 24], [3, 7], none⟩])
         (.cond (.t 25) (.seq (.region false [
            ⟨0, (some 4), .p .mov [.c (.bool false)], [], none⟩])
           (.ret))
          (.skip))))
       (.region false [
        ⟨0, (some 15), .p .mov [.t 5], [], none⟩,
        ⟨1, (some 16), .p (.bin .add) [.t 15, .c (.int .i64 1)], [], none⟩,
        ⟨2, (some 5), .p .mov [.t 16], [], none⟩]))))))
   (.seq (.region false [
    ⟨0, (some 4), .p .mov [.c (.bool true)], [], none⟩])
   (.ret))))⟩
def c41 : AFun := ⟨false, 26, [.tmp 4],
  .seq (.region false [
    ⟨0, (some 4), .p .mov [.c (.bool false)], [], none⟩])
   (.seq (.seq (.region false [
    ⟨0, (some 6), .p .mov [.t 0], [], none⟩,
    ⟨1, (some 7), .p .len [.t 6], [], none⟩,
    ⟨2, (some 8), .p .mov [.t 1], [], none⟩,
    ⟨3, (some 9), .p .len [.t 8], [], none⟩,
    ⟨4, (some 10), .p (.bin .neq) [.t 7, .t 9], [], none⟩])
   (.cond (.t 10) (.seq (.region false [
      ⟨0, (some 4), .p .mov [.c (.bool false)], [], none⟩])
     (.ret))
    (.skip)))
   (.seq (.seq (.region false [
    ⟨0, (some 5), .p .mov [.c (.int .i64 0)], [], none⟩])
   (.block 0 (.loop [true, true, false, false, false, true] (.seq (.seq (.region false [
        ⟨0, (some 11), .p .mov [.t 5], [], none⟩,
        ⟨1, (some 12), .p .mov [.t 0], [], none⟩,
        ⟨2, (some 13), .p .len [.t 12], [], none⟩,
        ⟨3, (some 14), .p (.bin .lss) [.t 11, .t 13], [], none⟩])
       (.cond (.t 14) (.skip)
        (.exit 0)))
       (.seq (.block 1 (.seq (.region true [
          ⟨0, (some 17), .p .mov [.t 0], [], none⟩,
          ⟨1, (some 18), .p .mov [.t 5], [], none⟩,
          ⟨2, (some 19), .p (.ixs 5) [.t 17, .t 18], [0, 1], none⟩,
          ⟨3, (some 20), .ld true 5 (.t 19) 0 0, [2], none⟩,
          ⟨4, (some 21), .p .mov [.t 1], [], none⟩,
          ⟨5, (some 22), .p .mov [.t 5], [], none⟩,
          ⟨6, (some 23), .p (.ixs 5) [.t 21, .t 22], [4, 5], none⟩,
          ⟨7, (some 24), .ld true 5 (.t 23) 0 0, [6], none⟩,
          ⟨8, (some 25), .p (.eqa true [false, false, false, false, false]) [.t 20, .t 24], [3, 7], none⟩])
         (.cond (.t 25) (.seq (.region false [
            ⟨0, (some 4), .p .mov [.c (.bool false)], [], none⟩])
           (.ret))
          (.skip))))
       (.region false [
        ⟨0, (some 15), .p .mov [.t 5], [], none⟩,
        ⟨1, (some 16), .p (.bin .add) [.t 15, .c (.int .i64 1)], [], none⟩,
        ⟨2, (some 5), .p .mov [.t 16], [], none⟩]))))))
   (.seq (.region false [
    ⟨0, (some 4), .p .mov [.c (.bool true)], [], none⟩])
   (.ret))))⟩
def c42 : AFun := ⟨false, 10, [.tmp 2],
  .seq (.region false [
    ⟨0, (some 2), .p .mov [.c (.sl 6 .nil [])], [], none⟩])
   (.seq (.seq (.region false [
    ⟨0, (some 3), .p .mov [.t 0], [], none⟩,
    ⟨1, (some 4), .p (.eqp false) [.t 3, .c (.nilp)], [], none⟩])
   (.cond (.t 4) (.seq (.region false [
      ⟨0, (some 2), .p .mov [.c (.sl 6 .nil [])], [], none⟩])
     (.ret))
    (.skip)))
   (.seq (.region false [
    ⟨0, (some 5), .p .mov [.t 0], [], none⟩,
    ⟨1, (some 6), .p .nilc [.t 5], [], none⟩,
    ⟨2, (some 7), .p (.fld 0) [.t 6], [], none⟩,
    ⟨3, (some 8), .ld false 1 (.t 7) 0 0, [], none⟩,
    ⟨4, (some 9), .c (.call 70) [.t 8], [], none⟩,
    ⟨5, (some 2), .p .mov [.t 9], [], none⟩])
   (.ret)))⟩
def c43 : AFun := ⟨false, 10, [.cell 2 true 16],
  .seq (.region false [
    ⟨0, (some 2), .n (.alloc (.agg [.int .u64 0, .int .u64 0, .int .u64 0, .int .u64 0, .int .u64 0, .int .u64 0, .int .u64 0, .int .u64 0, .int .u64 0, .int .u64 0, .int .u64 0, .int .u64 0, .int .u64 0, .int .u64 0, .int .u64 0, .int .u64 0])) [] 0 0, [], none⟩])
   (.seq (.seq (.region false [
    ⟨0, (some 3), .p .mov [.t 0], [], none⟩,
    ⟨1, (some 4), .p (.eqp false) [.t 3, .c (.nilp)], [], none⟩])
   (.cond (.t 4) (.seq (.region false [
      ⟨0, (some 5), .p (.bld [.int .u64 0, .int .u64 0, .int .u64 0, .int .u64 0, .int .u64 0, .int .u64 0, .int .u64 0, .int .u64 0, .int .u64 0, .int .u64 0, .int .u64 0, .int .u64 0, .int .u64 0, .int .u64 0, .int .u64 0, .int .u64 0] []) [], [], none⟩,
      ⟨1, none, .c (.store 16) [.t 2, .t 5], [], none⟩])
     (.ret))
    (.skip)))
   (.seq (.region false [
    ⟨0, (some 6), .p .mov [.t 0], [], none⟩,
    ⟨1, (some 7), .p .nilc [.t 6], [], none⟩,
    ⟨2, (some 8), .p (.fld 1) [.t 7], [], none⟩,
    ⟨3, (some 9), .ld true 16 (.t 8) 0 0, [], none⟩,
    ⟨4, none, .c (.store 16) [.t 2, .t 9], [], none⟩])
   (.ret)))⟩
def c44 : AFun := ⟨false, 10, [.tmp 2],
  .seq (.region false [
    ⟨0, (some 2), .p .mov [.c (.sl 6 .nil [])], [], none⟩])
   (.seq (.seq (.region false [
    ⟨0, (some 3), .p .mov [.t 0], [], none⟩,
    ⟨1, (some 4), .p (.eqp false) [.t 3, .c (.nilp)], [], none⟩])
   (.cond (.t 4) (.seq (.region false [
      ⟨0, (some 2), .p .mov [.c (.sl 6 .nil [])], [], none⟩])
     (.ret))
    (.skip)))
   (.seq (.region false [
    ⟨0, (some 5), .p .mov [.t 0], [], none⟩,
    ⟨1, (some 6), .p .nilc [.t 5], [], none⟩,
    ⟨2, (some 7), .p (.fld 0) [.t 6], [], none⟩,
    ⟨3, (some 8), .ld false 1 (.t 7) 0 0, [], none⟩,
    ⟨4, (some 9), .c (.call 71) [.t 8], [], none⟩,
    ⟨5, (some 2), .p .mov [.t 9], [], none⟩])
   (.ret)))⟩
def c45 : AFun := ⟨false, 10, [.cell 2 true 4],
  .seq (.region false [
    ⟨0, (some 2), .n (.alloc (.agg [.int .u64 0, .int .u64 0, .int .u64 0, .int .u64 0])) [] 0 0, [], none⟩])
   (.seq (.seq (.region false [
    ⟨0, (some 3), .p .mov [.t 0], [], none⟩,
    ⟨1, (some 4), .p (.eqp false) [.t 3, .c (.nilp)], [], none⟩])
   (.cond (.t 4) (.seq (.region false [
      ⟨0, (some 5), .p (.bld [.int .u64 0, .int .u64 0, .int .u64 0, .int .u64 0] []) [], [], none⟩,
      ⟨1, none, .c (.store 4) [.t 2, .t 5], [], none⟩])
     (.ret))
    (.skip)))
   (.seq (.region false [
    ⟨0, (some 6), .p .mov [.t 0], [], none⟩,
    ⟨1, (some 7), .p .nilc [.t 6], [], none⟩,
    ⟨2, (some 8), .p (.fld 2) [.t 7], [], none⟩,
    ⟨3, (some 9), .ld true 4 (.t 8) 0 0, [], none⟩,
    ⟨4, none, .c (.store 4) [.t 2, .t 9], [], none⟩])
   (.ret)))⟩
def c46 : AFun := ⟨false, 10, [.tmp 2],
  .seq (.region false [
    ⟨0, (some 2), .p .mov [.c (.sl 5 .nil [])], [], none⟩])
   (.seq (.seq (.region false [
    ⟨0, (some 3), .p .mov [.t 0], [], none⟩,
    ⟨1, (some 4), .p (.eqp false) [.t 3, .c (.nilp)], [], none⟩])
   (.cond (.t 4) (.seq (.region false [
      ⟨0, (some 2), .p .mov [.c (.sl 5 .nil [])], [], none⟩])
     (.ret))
    (.skip)))
   (.seq (.region false [
    ⟨0, (some 5), .p .mov [.t 0], [], none⟩,
    ⟨1, (some 6), .p .nilc [.t 5], [], none⟩,
    ⟨2, (some 7), .p (.fld 6) [.t 6], [], none⟩,
    ⟨3, (some 8), .ld false 1 (.t 7) 0 0, [], none⟩,
    ⟨4, (some 9), .c (.call 72) [.t 8], [], none⟩,
    ⟨5, (some 2), .p .mov [.t 9], [], none⟩])
   (.ret)))⟩
def c47 : AFun := ⟨true, 8, [.tmp 2],
  .seq (.region false [
    ⟨0, (some 2), .p .mov [.c (.sl 18 .nil [])], [], none⟩])
   (.seq (.seq (.region false [
    ⟨0, (some 3), .p .mov [.t 0], [], none⟩,
    ⟨1, (some 4), .p (.eqn false) [.t 3], [], none⟩])
   (.cond (.t 4) (.seq (.region false [
      ⟨0, (some 2), .p .mov [.c (.sl 18 .nil [])], [], none⟩])
     (.ret))
    (.skip)))
   (.seq (.region false [
    ⟨0, (some 5), .n (.bsl 18 (.agg [.int .u64 0, .int .u64 0, .int .u64 0, .int .u64 0, .int .u64 0, .int .u64 0, .int .u64 0, .int .u64 0, .int .u64 0, .int .u64 0, .int .u64 0, .int .u64 0, .int .u64 0, .int .u64 0, .int .u64 0, .int .u64 0, .int .u64 0, .int .u64 0]) 0 []) [] 0 0, [], none⟩,
    ⟨1, (some 6), .p .mov [.t 0], [], none⟩,
    ⟨2, (some 7), .c (.app 18 144) [.t 5, .t 6], [], none⟩,
    ⟨3, (some 2), .p .mov [.t 7], [], none⟩])
   (.ret)))⟩
def c50 : AFun := ⟨false, 18, [.tmp 0],
  .seq (.region false [
    ⟨0, (some 0), .p .mov [.c (.nilp)], [], none⟩])
   (.seq (.region false [
    ⟨0, (some 4), .c (.call 76) [], [], none⟩,
    ⟨1, (some 1), .n (.alloc (.agg [.int .u64 0, .int .u64 0, .int .u64 0, .int .u64 0, .int .u64 0, .int .u64 0, .int .u64 0, .int .u64 0, .int .u64 0, .int .u64 0, .int .u64 0, .int .u64 0, .int .u64 0, .int .u64 0, .int .u64 0, .int .u64 0, .int .u64 0, .int .u64 0, .int .u64 0, .int .u64 0, .int .u64 0])) [] 0 0, [], none⟩,
    ⟨2, none, .c (.store 21) [.t 1, .t 4], [], none⟩])
   (.seq (.region false [
    ⟨0, (some 6), .ld true 21 (.t 1) 0 0, [], none⟩,
    ⟨1, (some 7), .c (.call 77) [.t 6], [], none⟩,
    ⟨2, (some 5), .p .mov [.t 7], [], none⟩,
    ⟨3, (some 8), .p (.ext 0) [.t 5], [], none⟩,
    ⟨4, (some 9), .p (.ext 1) [.t 5], [], none⟩,
    ⟨5, (some 2), .n (.alloc (.agg [.int .u64 0, .int .u64 0, .int .u64 0, .int .u64 0, .int .u64 0, .int .u64 0, .int .u64 0])) [] 0 0, [], none⟩,
    ⟨6, none, .c (.store 7) [.t 2, .t 8], [], none⟩,
    ⟨7, (some 3), .p .mov [.t 9], [], none⟩])
   (.seq (.region true [
    ⟨0, (some 10), .ld true 21 (.t 1) 0 4, [], none⟩,
    ⟨1, (some 11), .ld true 7 (.t 2) 0 4, [], none⟩,
    ⟨2, (some 12), .c (.call 78) [], [], none⟩,
    ⟨3, (some 13), .c (.call 79) [], [2], none⟩,
    ⟨4, (some 14), .c (.call 80) [], [3], none⟩,
    ⟨5, (some 15), .c (.call 81) [], [4], none⟩,
    ⟨6, (some 16), .p (.bld [.int .u64 0, .int .u64 0, .int .u64 0, .int .u64 0, .int .u64 0, .int .u64 0, .int .u64 0, .int .u64 0, .int .u64 0, .int .u64 0, .int .u64 0, .int .u64 0, .int .u64 0, .int .u64 0, .int .u64 0, .int .u64 0, .int .u64 0, .int .u64 0, .int .u64 0, .int .u64 0, .int .u64 0, .int .u64 0, .int .u64 0, .int .u64 0, .int .u64 0, .int .u64 0, .int .u64 0, .int .u64 0, .int .u64 0, .int .u64 0, .int .u64 0, .int .u64 0, .int .u64 0, .int .u64 0, .int .u64 0, .int .u64 0, .int .u64 0, .bool false, .int .u64 0, .int .u64 0, .int .u64 0, .int .u64 0, .sl 18 .nil [], .nilp, .nilp, .nilp] [(1, 21), (22, 7), (30, 13), (43, 1), (44, 1), (45, 1)]) [.t 10, .t 11, .t 12, .t 13, .t 14, .t 15], [0, 1, 2, 3, 4, 5], none⟩,
    ⟨7, (some 17), .n (.box 46) [.t 16] 4 4, [6], none⟩,
    ⟨8, (some 0), .p .mov [.t 17], [7, 5, 0, 1, 2, 3, 4, 6], none⟩])
   (.ret))))⟩
def c58 : AFun := ⟨false, 5, [.cell 2 true 4],
  .seq (.region false [
    ⟨0, (some 2), .n (.alloc (.agg [.int .u64 0, .int .u64 0, .int .u64 0, .int .u64 0])) [] 0 0, [], none⟩])
   (.seq (.region false [
    ⟨0, (some 3), .p .mov [.t 0], [], none⟩,
    ⟨1, (some 4), .p (.bld [.int .u64 0, .int .u64 0, .int .u64 0, .int .u64 0] [(0, 1)]) [.t 3], [], none⟩,
    ⟨2, none, .c (.store 4) [.t 2, .t 4], [], none⟩])
   (.ret))⟩
def c65 : AFun := ⟨false, 71, [.cell 4 true 45, .tmp 5],
  .seq (.region false [
    ⟨0, (some 3), .n (.box 40) [.t 1] 0 0, [], none⟩,
    ⟨1, (some 4), .n (.alloc (.agg [.int .i64 0, .int .i64 0, .int .u64 0, .int .u64 0, .int .u64 0, .int .u64 0, .bool false, .int .u64 0, .int .u64 0, .int .u64 0, .int .u64 0, .int .u64 0, .int .u64 0, .int .u64 0, .int .u64 0, .int .u64 0, .int .u64 0, .int .u64 0, .int .u64 0, .int .u64 0, .int .u64 0, .int .u64 0, .int .u64 0, .int .u64 0, .int .u64 0, .int .u64 0, .int .u64 0, .int .u64 0, .int .u64 0, .int .u64 0, .int .u64 0, .int .u64 0, .int .u64 0, .int .u64 0, .int .u64 0, .int .u64 0, .int .u64 0, .int .u64 0, .int .u64 0, .int .u64 0, .int .u64 0, .int .u64 0, .int .u64 0, .int .u64 0, .sl 6 .nil []])) [] 0 0, [], none⟩,
    ⟨2, (some 5), .p .mov [.c (.int .i64 0)], [], none⟩])
   (.seq (.seq (.region false [
    ⟨0, (some 10), .p (.fld 31) [.t 3], [], none⟩,
    ⟨1, (some 11), .ld false 1 (.t 10) 0 0, [], none⟩,
    ⟨2, (some 12), .p (.bin .eql) [.t 11, .c (.int .u64 0)], [], none⟩,
    ⟨3, (some 13), .p .mov [.t 12], [], none⟩,
    ⟨4, (some 14), .p (.fld 31) [.t 3], [], (some (13, false))⟩,
    ⟨5, (some 15), .ld false 1 (.t 14) 0 0, [], (some (13, false))⟩,
    ⟨6, (some 16), .p (.bin .eql) [.t 15, .c (.int .u64 18446744073709551615)], [], (some (13, false))⟩,
    ⟨7, (some 17), .p .pick [.t 13, .c (.bool true), .t 16], [], none⟩,
    ⟨8, (some 18), .p .mov [.t 17], [], none⟩,
    ⟨9, (some 19), .p (.fld 27) [.t 3], [], (some (18, false))⟩,
    ⟨10, (some 20), .ld true 4 (.t 19) 0 0, [], (some (18, false))⟩,
    ⟨11, (some 21), .p (.bld [.int .u64 0, .int .u64 0, .int .u64 0, .int .u64 0] []) [], [], (some (18, false))⟩,
    ⟨12, (some 22), .p (.eqa false [false, false, false, false]) [.t 20, .t 21], [], (some (18, false))⟩,
    ⟨13, (some 23), .p .pick [.t 18, .c (.bool true), .t 22], [], none⟩])
   (.cond (.t 23) (.seq (.region false [
      ⟨0, (some 24), .p (.bld [.int .i64 0, .int .i64 0, .int .u64 0, .int .u64 0, .int .u64 0, .int .u64 0, .bool false, .int .u64 0, .int .u64 0, .int .u64 0, .int .u64 0, .int .u64 0, .int .u64 0, .int .u64 0, .int .u64 0, .int .u64 0, .int .u64 0, .int .u64 0, .int .u64 0, .int .u64 0, .int .u64 0, .int .u64 0, .int .u64 0, .int .u64 0, .int .u64 0, .int .u64 0, .int .u64 0, .int .u64 0, .int .u64 0, .int .u64 0, .int .u64 0, .int .u64 0, .int .u64 0, .int .u64 0, .int .u64 0, .int .u64 0, .int .u64 0, .int .u64 0, .int .u64 0, .int .u64 0, .int .u64 0, .int .u64 0, .int .u64 0, .int .u64 0, .sl 6 .nil []] []) [], [], none⟩,
      ⟨1, none, .c (.store 45) [.t 4, .t 24], [], none⟩,
      ⟨2, (some 5), .p .mov [.c (.int .i64 2)], [], none⟩])
     (.ret))
    (.skip)))
   (.seq (.region true [
    ⟨0, (some 26), .p .mov [.t 0], [], none⟩,
    ⟨1, (some 27), .p .nilc [.t 26], [0], none⟩,
    ⟨2, (some 28), .p (.fld 45) [.t 27], [1], none⟩,
    ⟨3, (some 29), .ld false 1 (.t 28) 0 0, [2], none⟩,
    ⟨5, (some 31), .p (.fld 27) [.t 3], [], none⟩,
    ⟨6, (some 32), .ld true 4 (.t 31) 0 1, [4], none⟩,
    ⟨11, (some 6), .n (.alloc (.agg [.int .u64 0, .int .u64 0, .int .u64 0, .int .u64 0])) [] 0 2, [], none⟩,
    ⟨4, (some 30), .c (.call 45) [.t 29], [3], none⟩,
    ⟨7, (some 33), .c (.call 106) [.t 30, .t 32], [7, 5], none⟩,
    ⟨8, (some 25), .p .mov [.t 33], [8], none⟩,
    ⟨9, (some 34), .p (.ext 0) [.t 25], [9], none⟩,
    ⟨10, (some 35), .p (.ext 1) [.t 25], [9], none⟩,
    ⟨12, none, .c (.store 4) [.t 6, .t 34], [6, 10, 8, 0, 1, 2, 3, 7, 4, 5, 9], none⟩,
    ⟨13, (some 7), .p .mov [.t 35], [11, 12, 0, 1, 2, 3, 7, 4, 5, 8, 9, 10, 6], none⟩])
   (.seq (.region true [
    ⟨0, (some 37), .p .mov [.t 0], [], none⟩,
    ⟨1, (some 38), .p .nilc [.t 37], [0], none⟩,
    ⟨2, (some 39), .p (.fld 43) [.t 38], [1], none⟩,
    ⟨3, (some 40), .ld false 1 (.t 39) 0 0, [2], none⟩,
    ⟨5, (some 42), .p (.fld 27) [.t 3], [], none⟩,
    ⟨6, (some 43), .ld true 4 (.t 42) 0 1, [4], none⟩,
    ⟨11, (some 8), .n (.alloc (.agg [.int .u64 0, .int .u64 0, .int .u64 0, .int .u64 0])) [] 0 2, [], none⟩,
    ⟨4, (some 41), .c (.call 107) [.t 40], [3], none⟩,
    ⟨7, (some 44), .c (.call 106) [.t 41, .t 43], [7, 5], none⟩,
    ⟨8, (some 36), .p .mov [.t 44], [8], none⟩,
    ⟨9, (some 45), .p (.ext 0) [.t 36], [9], none⟩,
    ⟨10, (some 46), .p (.ext 1) [.t 36], [9], none⟩,
    ⟨12, none, .c (.store 4) [.t 8, .t 45], [6, 10, 8, 0, 1, 2, 3, 7, 4, 5, 9], none⟩,
    ⟨13, (some 9), .p .mov [.t 46], [11, 12, 0, 1, 2, 3, 7, 4, 5, 8, 9, 10, 6], none⟩])
   (.seq (.seq (.region false [
    ⟨0, (some 47), .p .mov [.t 7], [], none⟩,
    ⟨1, (some 48), .p (.bin .neq) [.t 47, .c (.int .i64 0)], [], none⟩,
    ⟨2, (some 49), .p .mov [.t 48], [], none⟩,
    ⟨3, (some 50), .p .mov [.t 9], [], (some (49, false))⟩,
    ⟨4, (some 51), .p (.bin .neq) [.t 50, .c (.int .i64 0)], [], (some (49, false))⟩,
    ⟨5, (some 52), .p .pick [.t 49, .c (.bool true), .t 51], [], none⟩])
   (.cond (.t 52) (.seq (.region false [
      ⟨0, (some 53), .p (.bld [.int .i64 0, .int .i64 0, .int .u64 0, .int .u64 0, .int .u64 0, .int .u64 0, .bool false, .int .u64 0, .int .u64 0, .int .u64 0, .int .u64 0, .int .u64 0, .int .u64 0, .int .u64 0, .int .u64 0, .int .u64 0, .int .u64 0, .int .u64 0, .int .u64 0, .int .u64 0, .int .u64 0, .int .u64 0, .int .u64 0, .int .u64 0, .int .u64 0, .int .u64 0, .int .u64 0, .int .u64 0, .int .u64 0, .int .u64 0, .int .u64 0, .int .u64 0, .int .u64 0, .int .u64 0, .int .u64 0, .int .u64 0, .int .u64 0, .int .u64 0, .int .u64 0, .int .u64 0, .int .u64 0, .int .u64 0, .int .u64 0, .int .u64 0, .sl 6 .nil []] []) [], [], none⟩,
      ⟨1, none, .c (.store 45) [.t 4, .t 53], [], none⟩,
      ⟨2, (some 5), .p .mov [.c (.int .i64 4)], [], none⟩])
     (.ret))
    (.skip)))
   (.seq (.region true [
    ⟨0, (some 54), .p .mov [.t 0], [], none⟩,
    ⟨1, (some 55), .p .nilc [.t 54], [0], none⟩,
    ⟨2, (some 56), .p (.fld 45) [.t 55], [1], none⟩,
    ⟨3, (some 57), .ld false 1 (.t 56) 0 0, [2], none⟩,
    ⟨4, (some 58), .p (.fld 27) [.t 3], [], none⟩,
    ⟨5, (some 59), .ld true 4 (.t 58) 0 0, [4], none⟩,
    ⟨6, (some 60), .c (.call 108) [.t 57, .t 59], [3, 5], none⟩])
   (.seq (.region true [
    ⟨0, (some 61), .p .mov [.t 0], [], none⟩,
    ⟨1, (some 62), .p .nilc [.t 61], [0], none⟩,
    ⟨2, (some 63), .p (.fld 43) [.t 62], [1], none⟩,
    ⟨3, (some 64), .ld false 1 (.t 63) 0 0, [2], none⟩,
    ⟨4, (some 65), .p (.fld 31) [.t 3], [], none⟩,
    ⟨5, (some 66), .ld false 1 (.t 65) 0 0, [4], none⟩,
    ⟨6, (some 67), .p (.fld 27) [.t 3], [], none⟩,
    ⟨7, (some 68), .ld true 4 (.t 67) 0 0, [6], none⟩,
    ⟨8, (some 69), .c (.call 109) [.t 64, .t 66, .t 68], [3, 5, 7], none⟩])
   (.seq (.region false [
    ⟨0, (some 70), .p (.bld [.int .i64 0, .int .i64 0, .int .u64 0, .int .u64 0, .int .u64 0, .int .u64 0, .bool false, .int .u64 0, .int .u64 0, .int .u64 0, .int .u64 0, .int .u64 0, .int .u64 0, .int .u64 0, .int .u64 0, .int .u64 0, .int .u64 0, .int .u64 0, .int .u64 0, .int .u64 0, .int .u64 0, .int .u64 0, .int .u64 0, .int .u64 0, .int .u64 0, .int .u64 0, .int .u64 0, .int .u64 0, .int .u64 0, .int .u64 0, .int .u64 0, .int .u64 0, .int .u64 0, .int .u64 0, .int .u64 0, .int .u64 0, .int .u64 0, .int .u64 0, .int .u64 0, .int .u64 0, .int .u64 0, .int .u64 0, .int .u64 0, .int .u64 0, .sl 6 .nil []] []) [], [], none⟩,
    ⟨1, none, .c (.store 45) [.t 4, .t 70], [], none⟩,
    ⟨2, (some 5), .p .mov [.c (.int .i64 0)], [], none⟩])
   (.ret))))))))⟩
def c66 : AFun := ⟨false, 14, [.cell 4 true 45, .tmp 5],
  .seq (.region false [
    ⟨0, (some 3), .n (.box 40) [.t 1] 0 0, [], none⟩,
    ⟨1, (some 4), .n (.alloc (.agg [.int .i64 0, .int .i64 0, .int .u64 0, .int .u64 0, .int .u64 0, .int .u64 0, .bool false, .int .u64 0, .int .u64 0, .int .u64 0, .int .u64 0, .int .u64 0, .int .u64 0, .int .u64 0, .int .u64 0, .int .u64 0, .int .u64 0, .int .u64 0, .int .u64 0, .int .u64 0, .int .u64 0, .int .u64 0, .int .u64 0, .int .u64 0, .int .u64 0, .int .u64 0, .int .u64 0, .int .u64 0, .int .u64 0, .int .u64 0, .int .u64 0, .int .u64 0, .int .u64 0, .int .u64 0, .int .u64 0, .int .u64 0, .int .u64 0, .int .u64 0, .int .u64 0, .int .u64 0, .int .u64 0, .int .u64 0, .int .u64 0, .int .u64 0, .sl 6 .nil []])) [] 0 0, [], none⟩,
    ⟨2, (some 5), .p .mov [.c (.int .i64 0)], [], none⟩])
   (.seq (.region true [
    ⟨0, (some 6), .p (.bld [.int .i64 0, .int .i64 0, .int .u64 0, .int .u64 0, .int .u64 0, .int .u64 0, .bool false, .int .u64 0, .int .u64 0, .int .u64 0, .int .u64 0, .int .u64 0, .int .u64 0, .int .u64 0, .int .u64 0, .int .u64 0, .int .u64 0, .int .u64 0, .int .u64 0, .int .u64 0, .int .u64 0, .int .u64 0, .int .u64 0, .int .u64 0, .int .u64 0, .int .u64 0, .int .u64 0, .int .u64 0, .int .u64 0, .int .u64 0, .int .u64 0, .int .u64 0, .int .u64 0, .int .u64 0, .int .u64 0, .int .u64 0, .int .u64 0, .int .u64 0, .int .u64 0, .int .u64 0, .int .u64 0, .int .u64 0, .int .u64 0, .int .u64 0, .sl 6 .nil []] []) [], [], none⟩,
    ⟨1, (some 7), .p .mov [.t 0], [], none⟩,
    ⟨2, (some 8), .p .nilc [.t 7], [1], none⟩,
    ⟨3, (some 9), .p (.fld 45) [.t 8], [2], none⟩,
    ⟨4, (some 10), .ld false 1 (.t 9) 0 0, [3], none⟩,
    ⟨5, (some 11), .p (.fld 32) [.t 3], [], none⟩,
    ⟨6, (some 12), .ld true 8 (.t 11) 0 0, [5], none⟩,
    ⟨7, (some 13), .c (.call 110) [.t 10, .t 12], [4, 6], none⟩,
    ⟨8, none, .c (.store 45) [.t 4, .t 6], [0, 7], none⟩,
    ⟨9, (some 5), .p .mov [.t 13], [7, 8, 0, 1, 2, 3, 4, 5, 6], none⟩])
   (.ret))⟩
def c67 : AFun := ⟨false, 40, [.tmp 2],
  .seq (.region false [
    ⟨0, (some 2), .p .mov [.c (.int .u8 0)], [], none⟩])
   (.seq (.seq (.region true [
    ⟨0, (some 3), .p .mov [.t 0], [], none⟩,
    ⟨1, (some 4), .p .nilc [.t 3], [0], none⟩,
    ⟨2, (some 5), .p (.fld 2) [.t 4], [1], none⟩,
    ⟨3, (some 6), .ld false 1 (.t 5) 0 0, [2], none⟩,
    ⟨4, (some 7), .p .mov [.t 6], [3], none⟩,
    ⟨5, (some 8), .p .mov [.t 0], [4], (some (7, false))⟩,
    ⟨6, (some 9), .p .nilc [.t 8], [5, 4], (some (7, false))⟩,
    ⟨7, (some 10), .p (.fld 1) [.t 9], [6, 4], (some (7, false))⟩,
    ⟨8, (some 11), .ld false 1 (.t 10) 0 0, [7, 4], (some (7, false))⟩,
    ⟨9, (some 12), .p .mov [.t 0], [4], (some (7, false))⟩,
    ⟨10, (some 13), .p .nilc [.t 12], [9, 4], (some (7, false))⟩,
    ⟨11, (some 14), .p (.fld 0) [.t 13], [10, 4], (some (7, false))⟩,
    ⟨12, (some 15), .ld false 1 (.t 14) 0 0, [11, 4], (some (7, false))⟩,
    ⟨13, (some 16), .p .len [.t 15], [12, 4], (some (7, false))⟩,
    ⟨14, (some 17), .p (.bin .geq) [.t 11, .t 16], [8, 13, 4], (some (7, false))⟩,
    ⟨15, (some 18), .p .pick [.t 7, .c (.bool true), .t 17], [4, 14], none⟩])
   (.cond (.t 18) (.seq (.region false [
      ⟨0, (some 19), .p .mov [.t 0], [], none⟩,
      ⟨1, (some 20), .p .nilc [.t 19], [], none⟩,
      ⟨2, (some 21), .p (.fld 2) [.t 20], [], none⟩,
      ⟨3, none, .c (.store 1) [.t 21, .c (.bool true)], [], none⟩])
     (.seq (.region false [
      ⟨0, (some 2), .p .mov [.c (.int .u8 0)], [], none⟩])
     (.ret)))
    (.skip)))
   (.seq (.region false [
    ⟨0, (some 22), .p .mov [.t 0], [], none⟩,
    ⟨1, (some 23), .p .nilc [.t 22], [], none⟩,
    ⟨2, (some 24), .p (.fld 1) [.t 23], [], none⟩,
    ⟨3, (some 25), .ld false 1 (.t 24) 0 0, [], none⟩,
    ⟨4, (some 26), .p (.bin .add) [.t 25, .c (.int .i64 1)], [], none⟩,
    ⟨5, (some 27), .p .nilc [.t 22], [], none⟩,
    ⟨6, (some 28), .p (.fld 1) [.t 27], [], none⟩,
    ⟨7, none, .c (.store 1) [.t 28, .t 26], [], none⟩])
   (.seq (.region true [
    ⟨0, (some 29), .p .mov [.t 0], [], none⟩,
    ⟨1, (some 30), .p .nilc [.t 29], [0], none⟩,
    ⟨2, (some 31), .p (.fld 0) [.t 30], [1], none⟩,
    ⟨3, (some 32), .ld false 1 (.t 31) 0 0, [2], none⟩,
    ⟨4, (some 33), .p .mov [.t 0], [], none⟩,
    ⟨5, (some 34), .p .nilc [.t 33], [4], none⟩,
    ⟨6, (some 35), .p (.fld 1) [.t 34], [5], none⟩,
    ⟨7, (some 36), .ld false 1 (.t 35) 0 0, [6], none⟩,
    ⟨8, (some 37), .p (.bin .sub) [.t 36, .c (.int .i64 1)], [7], none⟩,
    ⟨9, (some 38), .p (.ixs 1) [.t 32, .t 37], [3, 8], none⟩,
    ⟨10, (some 39), .ld false 1 (.t 38) 0 0, [9], none⟩,
    ⟨11, (some 2), .p .mov [.t 39], [10, 0, 1, 2, 3, 4, 5, 6, 7, 8, 9], none⟩])
   (.ret))))⟩
def c68 : AFun := ⟨false, 108, [.tmp 4],
  .seq (.region false [
    ⟨0, (some 4), .p .mov [.c (.bool false)], [], none⟩])
   (.seq (.seq (.region false [
    ⟨0, (some 10), .p .mov [.t 0], [], none⟩,
    ⟨1, (some 11), .p .nilc [.t 10], [], none⟩,
    ⟨2, (some 12), .p (.fld 0) [.t 11], [], none⟩,
    ⟨3, (some 13), .ld false 1 (.t 12) 0 0, [], none⟩])
   (.block 0 (.seq (.region false [
      ⟨0, (some 15), .p (.bin .eql) [.t 13, .c (.int .i64 1)], [], none⟩,
      ⟨1, (some 14), .p .mov [.t 15], [], none⟩])
     (.cond (.t 14) (.seq (.region false [
        ⟨0, (some 17), .p .mov [.t 1], [], none⟩,
        ⟨1, (some 18), .c (.call 28) [.t 17], [], none⟩,
        ⟨2, (some 19), .c (.call 111) [.t 18], [], none⟩,
        ⟨3, (some 16), .p .mov [.t 19], [], none⟩,
        ⟨4, (some 20), .p (.ext 0) [.t 16], [], none⟩,
        ⟨5, (some 21), .p (.ext 1) [.t 16], [], none⟩,
        ⟨6, (some 5), .n (.alloc (.agg [.int .u64 0, .int .u64 0, .int .u64 0, .int .u64 0, .int .u64 0, .int .u64 0, .int .u64 0, .int .u64 0, .int .u64 0, .int .u64 0, .int .u64 0, .int .u64 0, .int .u64 0, .int .u64 0, .int .u64 0, .int .u64 0, .int .u64 0, .sl 1 .nil []])) [] 0 0, [], none⟩,
        ⟨7, none, .c (.store 18) [.t 5, .t 20], [], none⟩,
        ⟨8, (some 6), .p .mov [.t 21], [], none⟩])
       (.seq (.region false [
        ⟨0, (some 22), .p .mov [.t 0], [], none⟩,
        ⟨1, (some 23), .ld true 18 (.t 5) 0 0, [], none⟩,
        ⟨2, (some 24), .p .nilc [.t 22], [], none⟩,
        ⟨3, (some 25), .p (.fld 1) [.t 24], [], none⟩,
        ⟨4, none, .c (.store 18) [.t 25, .t 23], [], none⟩])
       (.seq (.region false [
        ⟨0, (some 26), .p .mov [.t 6], [], none⟩,
        ⟨1, (some 27), .p (.bin .eql) [.t 26, .c (.int .i64 0)], [], none⟩,
        ⟨2, (some 4), .p .mov [.t 27], [], none⟩])
       (.ret))))
      (.seq (.region false [
        ⟨0, (some 29), .p (.bin .eql) [.t 13, .c (.int .i64 2)], [], none⟩,
        ⟨1, (some 28), .p .mov [.t 29], [], none⟩])
       (.cond (.t 28) (.region false [
          ⟨0, (some 30), .p .mov [.t 0], [], none⟩,
          ⟨1, (some 31), .p .mov [.t 1], [], none⟩,
          ⟨2, (some 32), .c (.call 112) [.t 31], [], none⟩,
          ⟨3, (some 33), .p .mov [.t 1], [], none⟩,
          ⟨4, (some 34), .c (.call 112) [.t 33], [], none⟩,
          ⟨5, (some 35), .p .mov [.t 1], [], none⟩,
          ⟨6, (some 36), .c (.call 113) [.t 35], [], none⟩,
          ⟨7, (some 37), .p (.bld [.int .u64 0, .int .u64 0, .int .u64 0, .int .u64 0, .int .u64 0, .int .u64 0] [(0, 1), (1, 1), (2, 4)]) [.t 32, .t 34, .t 36], [], none⟩,
          ⟨8, (some 38), .p .nilc [.t 30], [], none⟩,
          ⟨9, (some 39), .p (.fld 19) [.t 38], [], none⟩,
          ⟨10, none, .c (.store 6) [.t 39, .t 37], [], none⟩])
        (.seq (.region false [
          ⟨0, (some 41), .p (.bin .eql) [.t 13, .c (.int .i64 3)], [], none⟩,
          ⟨1, (some 40), .p .mov [.t 41], [], none⟩])
         (.cond (.t 40) (.region false [
            ⟨0, (some 42), .p .mov [.t 0], [], none⟩,
            ⟨1, (some 43), .p .mov [.t 1], [], none⟩,
            ⟨2, (some 44), .c (.call 112) [.t 43], [], none⟩,
            ⟨3, (some 45), .p .nilc [.t 42], [], none⟩,
            ⟨4, (some 46), .p (.fld 25) [.t 45], [], none⟩,
            ⟨5, none, .c (.store 1) [.t 46, .t 44], [], none⟩])
          (.seq (.region false [
            ⟨0, (some 48), .p (.bin .eql) [.t 13, .c (.int .i64 4)], [], none⟩,
            ⟨1, (some 47), .p .mov [.t 48], [], none⟩])
           (.cond (.t 47) (.seq (.region false [
              ⟨0, (some 49), .p .mov [.t 1], [], none⟩,
              ⟨1, (some 50), .c (.call 112) [.t 49], [], none⟩,
              ⟨2, (some 7), .p .mov [.t 50], [], none⟩])
             (.seq (.region false [
              ⟨0, (some 51), .p .mov [.t 0], [], none⟩,
              ⟨1, (some 52), .p .mov [.t 0], [], none⟩,
              ⟨2, (some 53), .p .mov [.t 7], [], none⟩,
              ⟨3, (some 54), .p (.bin .and) [.t 53, .c (.int .u64 9223372036854775807)], [], none⟩,
              ⟨4, (some 55), .p (.conv .i64) [.t 54], [], none⟩,
              ⟨5, (some 56), .p .mov [.t 1], [], none⟩,
              ⟨6, (some 57), .c (.call 113) [.t 56], [], none⟩,
              ⟨7, (some 58), .p .nilc [.t 51], [], none⟩,
              ⟨8, (some 59), .p (.fld 26) [.t 58], [], none⟩,
              ⟨9, none, .c (.store 1) [.t 59, .t 55], [], none⟩,
              ⟨10, (some 60), .p .nilc [.t 52], [], none⟩,
              ⟨11, (some 61), .p (.fld 27) [.t 60], [], none⟩,
              ⟨12, none, .c (.store 4) [.t 61, .t 57], [], none⟩])
             (.seq (.region false [
              ⟨0, (some 62), .p .mov [.t 7], [], none⟩,
              ⟨1, (some 63), .p (.bin .leq) [.t 62, .c (.int .u64 9223372036854775807)], [], none⟩,
              ⟨2, (some 4), .p .mov [.t 63], [], none⟩])
             (.ret))))
            (.seq (.region false [
              ⟨0, (some 65), .p (.bin .eql) [.t 13, .c (.int .i64 5)], [], none⟩,
              ⟨1, (some 64), .p .mov [.t 65], [], none⟩])
             (.cond (.t 64) (.region false [
                ⟨0, (some 66), .p .mov [.t 0], [], none⟩,
                ⟨1, (some 67), .p .mov [.t 1], [], none⟩,
                ⟨2, (some 68), .c (.call 112) [.t 67], [], none⟩,
                ⟨3, (some 69), .p .nilc [.t 66], [], none⟩,
                ⟨4, (some 70), .p (.fld 31) [.t 69], [], none⟩,
                ⟨5, none, .c (.store 1) [.t 70, .t 68], [], none⟩])
              (.seq (.region false [
                ⟨0, (some 72), .p (.bin .eql) [.t 13, .c (.int .i64 6)], [], none⟩,
                ⟨1, (some 71), .p .mov [.t 72], [], none⟩])
               (.cond (.t 71) (.region false [
                  ⟨0, (some 73), .p .mov [.t 0], [], none⟩,
                  ⟨1, (some 74), .p .mov [.t 0], [], none⟩,
                  ⟨2, (some 75), .p .mov [.t 1], [], none⟩,
                  ⟨3, (some 76), .c (.call 112) [.t 75], [], none⟩,
                  ⟨4, (some 77), .p .mov [.t 1], [], none⟩,
                  ⟨5, (some 78), .c (.call 113) [.t 77], [], none⟩,
                  ⟨6, (some 79), .p .nilc [.t 73], [], none⟩,
                  ⟨7, (some 80), .p (.fld 31) [.t 79], [], none⟩,
                  ⟨8, none, .c (.store 1) [.t 80, .t 76], [], none⟩,
                  ⟨9, (some 81), .p .nilc [.t 74], [], none⟩,
                  ⟨10, (some 82), .p (.fld 27) [.t 81], [], none⟩,
                  ⟨11, none, .c (.store 4) [.t 82, .t 78], [], none⟩])
                (.seq (.region false [
                  ⟨0, (some 84), .p (.bin .eql) [.t 13, .c (.int .i64 7)], [], none⟩,
                  ⟨1, (some 83), .p .mov [.t 84], [], none⟩])
                 (.cond (.t 83) (.seq (.region false [
                    ⟨0, (some 85), .p .mov [.t 0], [], none⟩,
                    ⟨1, (some 86), .p .mov [.t 1], [], none⟩,
                    ⟨2, (some 87), .c (.call 112) [.t 86], [], none⟩,
                    ⟨3, (some 88), .p .mov [.t 1], [], none⟩,
                    ⟨4, (some 89), .c (.call 112) [.t 88], [], none⟩,
                    ⟨5, (some 90), .p .mov [.t 1], [], none⟩,
                    ⟨6, (some 91), .c (.call 112) [.t 90], [], none⟩,
                    ⟨7, (some 92), .p .mov [.t 1], [], none⟩,
                    ⟨8, (some 93), .c (.call 113) [.t 92], [], none⟩,
                    ⟨9, (some 94), .p (.bld [.int .u64 0, .int .u64 0, .int .u64 0, .int .u64 0, .int .u64 0, .int .u64 0, .int .u64 0, .sl 32 .nil []] [(0, 1), (1, 1), (2, 1), (3, 4)]) [.t 87, .t 89, .t 91, .t 93], [], none⟩,
                    ⟨10, (some 95), .p .nilc [.t 85], [], none⟩,
                    ⟨11, (some 96), .p (.fld 32) [.t 95], [], none⟩,
                    ⟨12, none, .c (.store 8) [.t 96, .t 94], [], none⟩])
                   (.seq (.region false [
                    ⟨0, (some 98), .p .mov [.t 1], [], none⟩,
                    ⟨1, (some 99), .c (.call 114) [.t 98], [], none⟩,
                    ⟨2, (some 97), .p .mov [.t 99], [], none⟩,
                    ⟨3, (some 100), .p (.ext 0) [.t 97], [], none⟩,
                    ⟨4, (some 101), .p (.ext 1) [.t 97], [], none⟩,
                    ⟨5, (some 8), .p .mov [.t 100], [], none⟩,
                    ⟨6, (some 9), .p .mov [.t 101], [], none⟩])
                   (.seq (.region false [
                    ⟨0, (some 102), .p .mov [.t 0], [], none⟩,
                    ⟨1, (some 103), .p .mov [.t 8], [], none⟩,
                    ⟨2, (some 104), .p .nilc [.t 102], [], none⟩,
                    ⟨3, (some 105), .p (.fld 32) [.t 104], [], none⟩,
                    ⟨4, (some 106), .p (.fld 7) [.t 105], [], none⟩,
                    ⟨5, none, .c (.store 1) [.t 106, .t 103], [], none⟩])
                   (.seq (.region false [
                    ⟨0, (some 107), .p .mov [.t 9], [], none⟩,
                    ⟨1, (some 4), .p .mov [.t 107], [], none⟩])
                   (.ret)))))
                  (.seq (.region false [
                    ⟨0, (some 4), .p .mov [.c (.bool false)], [], none⟩])
                   (.ret))))))))))))))))))
   (.seq (.region false [
    ⟨0, (some 4), .p .mov [.c (.bool true)], [], none⟩])
   (.ret)))⟩
def c69 : AFun := ⟨false, 26, [.tmp 4],
  .seq (.region false [
    ⟨0, (some 4), .p .mov [.c (.bool false)], [], none⟩])
   (.seq (.seq (.region false [
    ⟨0, (some 6), .p .mov [.t 0], [], none⟩,
    ⟨1, (some 7), .p .len [.t 6], [], none⟩,
    ⟨2, (some 8), .p .mov [.t 1], [], none⟩,
    ⟨3, (some 9), .p .len [.t 8], [], none⟩,
    ⟨4, (some 10), .p (.bin .neq) [.t 7, .t 9], [], none⟩])
   (.cond (.t 10) (.seq (.region false [
      ⟨0, (some 4), .p .mov [.c (.bool false)], [], none⟩])
     (.ret))
    (.skip)))
   (.seq (.seq (.region false [
    ⟨0, (some 5), .p .mov [.c (.int .i64 0)], [], none⟩])
   (.block 0 (.loop [true, true, false, false, false, true] (.seq (.seq (.region false [
        ⟨0, (some 11), .p .mov [.t 5], [], none⟩,
        ⟨1, (some 12), .p .mov [.t 0], [], none⟩,
        ⟨2, (some 13), .p .len [.t 12], [], none⟩,
        ⟨3, (some 14), .p (.bin .lss) [.t 11, .t 13], [], none⟩])
       (.cond (.t 14) (.skip)
        (.exit 0)))
       (.seq (.block 1 (.seq (.region true [
          ⟨0, (some 17), .p .mov [.t 0], [], none⟩,
          ⟨1, (some 18), .p .mov [.t 5], [], none⟩,
          ⟨2, (some 19), .p (.ixs 18) [.t 17, .t 18], [0, 1], none⟩,
          ⟨3, (some 20), .ld true 18 (.t 19) 0 0, [2], none⟩,
          ⟨4, (some 21), .p .mov [.t 1], [], none⟩,
          ⟨5, (some 22), .p .mov [.t 5], [], none⟩,
          ⟨6, (some 23), .p (.ixs 18) [.t 21, .t 22], [4, 5], none⟩,
          ⟨7, (some 24), .ld true 18 (.t 23) 0 0, [6], none⟩,
          ⟨8, (some 25), .p (.eqa true [false, false, false, false, false, false, false, false, false, false, false, false, false, false, false, false, false, false]) [.t 20, .t 24], [3, 7], none⟩])
         (.cond (.t 25) (.seq (.region false [
            ⟨0, (some 4), .p .mov [.c (.bool false)], [], none⟩])
           (.ret))
          (.skip))))
       (.region false [
        ⟨0, (some 15), .p .mov [.t 5], [], none⟩,
        ⟨1, (some 16), .p (.bin .add) [.t 15, .c (.int .i64 1)], [], none⟩,
        ⟨2, (some 5), .p .mov [.t 16], [], none⟩]))))))
   (.seq (.region false [
    ⟨0, (some 4), .p .mov [.c (.bool true)], [], none⟩])
   (.ret))))⟩
def c70 : AFun := ⟨true, 8, [.tmp 2],
  .seq (.region false [
    ⟨0, (some 2), .p .mov [.c (.sl 6 .nil [])], [], none⟩])
   (.seq (.seq (.region false [
    ⟨0, (some 3), .p .mov [.t 0], [], none⟩,
    ⟨1, (some 4), .p (.eqn false) [.t 3], [], none⟩])
   (.cond (.t 4) (.seq (.region false [
      ⟨0, (some 2), .p .mov [.c (.sl 6 .nil [])], [], none⟩])
     (.ret))
    (.skip)))
   (.seq (.region false [
    ⟨0, (some 5), .n (.bsl 6 (.agg [.int .u64 0, .int .u64 0, .int .u64 0, .int .u64 0, .int .u64 0, .int .u64 0]) 0 []) [] 0 0, [], none⟩,
    ⟨1, (some 6), .p .mov [.t 0], [], none⟩,
    ⟨2, (some 7), .c (.app 6 48) [.t 5, .t 6], [], none⟩,
    ⟨3, (some 2), .p .mov [.t 7], [], none⟩])
   (.ret)))⟩
def c71 : AFun := ⟨true, 8, [.tmp 2],
  .seq (.region false [
    ⟨0, (some 2), .p .mov [.c (.sl 6 .nil [])], [], none⟩])
   (.seq (.seq (.region false [
    ⟨0, (some 3), .p .mov [.t 0], [], none⟩,
    ⟨1, (some 4), .p (.eqn false) [.t 3], [], none⟩])
   (.cond (.t 4) (.seq (.region false [
      ⟨0, (some 2), .p .mov [.c (.sl 6 .nil [])], [], none⟩])
     (.ret))
    (.skip)))
   (.seq (.region false [
    ⟨0, (some 5), .n (.bsl 6 (.agg [.int .u64 0, .int .u64 0, .int .u64 0, .int .u64 0, .int .u64 0, .int .u64 0]) 0 []) [] 0 0, [], none⟩,
    ⟨1, (some 6), .p .mov [.t 0], [], none⟩,
    ⟨2, (some 7), .c (.app 6 48) [.t 5, .t 6], [], none⟩,
    ⟨3, (some 2), .p .mov [.t 7], [], none⟩])
   (.ret)))⟩
def c72 : AFun := ⟨true, 8, [.tmp 2],
  .seq (.region false [
    ⟨0, (some 2), .p .mov [.c (.sl 5 .nil [])], [], none⟩])
   (.seq (.seq (.region false [
    ⟨0, (some 3), .p .mov [.t 0], [], none⟩,
    ⟨1, (some 4), .p (.eqn false) [.t 3], [], none⟩])
   (.cond (.t 4) (.seq (.region false [
      ⟨0, (some 2), .p .mov [.c (.sl 5 .nil [])], [], none⟩])
     (.ret))
    (.skip)))
   (.seq (.region false [
    ⟨0, (some 5), .n (.bsl 5 (.agg [.int .u64 0, .int .u64 0, .int .u64 0, .int .u64 0, .int .u64 0]) 0 []) [] 0 0, [], none⟩,
    ⟨1, (some 6), .p .mov [.t 0], [], none⟩,
    ⟨2, (some 7), .c (.app 5 40) [.t 5, .t 6], [], none⟩,
    ⟨3, (some 2), .p .mov [.t 7], [], none⟩])
   (.ret)))⟩
def c76 : AFun := ⟨false, 5, [.cell 0 true 21],
  .seq (.region false [
    ⟨0, (some 0), .n (.alloc (.agg [.int .u64 0, .int .u64 0, .int .u64 0, .int .u64 0, .int .u64 0, .int .u64 0, .int .u64 0, .int .u64 0, .int .u64 0, .int .u64 0, .int .u64 0, .int .u64 0, .int .u64 0, .int .u64 0, .int .u64 0, .int .u64 0, .int .u64 0, .int .u64 0, .int .u64 0, .int .u64 0, .int .u64 0])) [] 0 0, [], none⟩])
   (.seq (.region false [
    ⟨0, (some 1), .c (.call 58) [.c (.int .u64 100000000)], [], none⟩,
    ⟨1, (some 2), .c (.call 58) [.c (.int .u64 60000000)], [], none⟩,
    ⟨2, (some 3), .c (.call 58) [.c (.int .u64 10)], [], none⟩,
    ⟨3, (some 4), .p (.bld [.int .u64 0, .int .u64 0, .int .u64 0, .int .u64 0, .int .u64 0, .int .u64 0, .int .u64 0, .int .u64 0, .int .u64 0, .int .u64 0, .int .u64 0, .int .u64 0, .int .u64 0, .int .u64 0, .int .u64 0, .int .u64 0, .int .u64 0, .int .u64 0, .int .u64 0, .int .u64 0, .int .u64 0] [(0, 1), (1, 1), (2, 1), (3, 4), (7, 1), (8, 4), (12, 1), (13, 4), (17, 1), (18, 1), (19, 1), (20, 1)]) [.c (.int .u64 7000000), .c (.int .u64 10), .c (.int .u64 102), .t 1, .c (.int .u64 32000000), .t 2, .c (.int .u64 1000), .t 3, .c (.int .u64 160000000), .c (.int .u64 10), .c (.int .u64 16), .c (.int .u64 65536)], [], none⟩,
    ⟨4, none, .c (.store 21) [.t 0, .t 4], [], none⟩])
   (.ret))⟩
def c77 : AFun := ⟨false, 17, [.cell 2 true 7, .tmp 3],
  .seq (.region false [
    ⟨0, (some 1), .n (.box 21) [.t 0] 0 0, [], none⟩,
    ⟨1, (some 2), .n (.alloc (.agg [.int .u64 0, .int .u64 0, .int .u64 0, .int .u64 0, .int .u64 0, .int .u64 0, .int .u64 0])) [] 0 0, [], none⟩,
    ⟨2, (some 3), .p .mov [.c (.int .i64 0)], [], none⟩])
   (.seq (.region false [
    ⟨0, (some 7), .ld true 21 (.t 1) 0 0, [], none⟩,
    ⟨1, (some 8), .c (.call 123) [.c (.int .u64 0), .t 7], [], none⟩,
    ⟨2, (some 6), .p .mov [.t 8], [], none⟩,
    ⟨3, (some 9), .p (.ext 0) [.t 6], [], none⟩,
    ⟨4, (some 10), .p (.ext 1) [.t 6], [], none⟩,
    ⟨5, (some 4), .n (.alloc (.agg [.int .u64 0, .int .u64 0, .int .u64 0, .int .u64 0])) [] 0 0, [], none⟩,
    ⟨6, none, .c (.store 4) [.t 4, .t 9], [], none⟩,
    ⟨7, (some 5), .p .mov [.t 10], [], none⟩])
   (.seq (.seq (.region false [
    ⟨0, (some 11), .p .mov [.t 5], [], none⟩,
    ⟨1, (some 12), .p (.bin .neq) [.t 11, .c (.int .i64 0)], [], none⟩])
   (.cond (.t 12) (.seq (.region false [
      ⟨0, (some 13), .p (.bld [.int .u64 0, .int .u64 0, .int .u64 0, .int .u64 0, .int .u64 0, .int .u64 0, .int .u64 0] []) [], [], none⟩,
      ⟨1, (some 14), .p .mov [.t 5], [], none⟩,
      ⟨2, none, .c (.store 7) [.t 2, .t 13], [], none⟩,
      ⟨3, (some 3), .p .mov [.t 14], [], none⟩])
     (.ret))
    (.skip)))
   (.seq (.region false [
    ⟨0, (some 15), .ld true 4 (.t 4) 0 0, [], none⟩,
    ⟨1, (some 16), .p (.bld [.int .u64 0, .int .u64 0, .int .u64 0, .int .u64 0, .int .u64 0, .int .u64 0, .int .u64 0] [(0, 1), (3, 4)]) [.c (.int .u64 1), .t 15], [], none⟩,
    ⟨2, none, .c (.store 7) [.t 2, .t 16], [], none⟩,
    ⟨3, (some 3), .p .mov [.c (.int .i64 0)], [], none⟩])
   (.ret))))⟩
def c78 : AFun := ⟨false, 3, [.cell 0 true 13],
  .seq (.region false [
    ⟨0, (some 0), .n (.alloc (.agg [.int .u64 0, .int .u64 0, .int .u64 0, .int .u64 0, .int .u64 0, .int .u64 0, .int .u64 0, .bool false, .int .u64 0, .int .u64 0, .int .u64 0, .int .u64 0, .sl 18 .nil []])) [] 0 0, [], none⟩])
   (.seq (.region false [
    ⟨0, (some 1), .c (.call 58) [.c (.int .u64 1000000000)], [], none⟩,
    ⟨1, (some 2), .p (.bld [.int .u64 0, .int .u64 0, .int .u64 0, .int .u64 0, .int .u64 0, .int .u64 0, .int .u64 0, .bool false, .int .u64 0, .int .u64 0, .int .u64 0, .int .u64 0, .sl 18 .nil []] [(0, 4)]) [.t 1], [], none⟩,
    ⟨2, none, .c (.store 13) [.t 0, .t 2], [], none⟩])
   (.ret))⟩
def c79 : AFun := ⟨false, 3, [.tmp 0],
  .seq (.region false [
    ⟨0, (some 0), .p .mov [.c (.nilp)], [], none⟩])
   (.seq (.region false [
    ⟨0, (some 1), .p (.bld [.sl 6 .nil [], .int .u64 0, .int .u64 0, .int .u64 0, .int .u64 0, .int .u64 0, .int .u64 0, .int .u64 0, .int .u64 0, .int .u64 0, .int .u64 0, .int .u64 0, .int .u64 0, .int .u64 0, .int .u64 0, .int .u64 0, .int .u64 0] []) [], [], none⟩,
    ⟨1, (some 2), .n (.box 17) [.t 1] 0 0, [], none⟩,
    ⟨2, (some 0), .p .mov [.t 2], [], none⟩])
   (.ret))⟩
def c80 : AFun := ⟨false, 4, [.tmp 0],
  .seq (.region false [
    ⟨0, (some 0), .p .mov [.c (.nilp)], [], none⟩])
   (.seq (.region false [
    ⟨0, (some 1), .c (.call 124) [], [], none⟩,
    ⟨1, (some 2), .p (.bld [.sl 6 .nil [], .nilp] [(1, 1)]) [.t 1], [], none⟩,
    ⟨2, (some 3), .n (.box 2) [.t 2] 0 0, [], none⟩,
    ⟨3, (some 0), .p .mov [.t 3], [], none⟩])
   (.ret))⟩
def c81 : AFun := ⟨false, 3, [.tmp 0],
  .seq (.region false [
    ⟨0, (some 0), .p .mov [.c (.nilp)], [], none⟩])
   (.seq (.region false [
    ⟨0, (some 1), .p (.bld [.sl 32 .nil [], .sl 1 .nil [], .int .u64 0, .int .u64 0, .int .u64 0, .int .u64 0, .sl 5 .nil []] []) [], [], none⟩,
    ⟨1, (some 2), .n (.box 7) [.t 1] 0 0, [], none⟩,
    ⟨2, (some 0), .p .mov [.t 2], [], none⟩])
   (.ret))⟩
def c102 : AFun := ⟨false, 25, [.tmp 6],
  .seq (.region false [
    ⟨0, (some 6), .p .mov [.c (.int .u64 0)], [], none⟩])
   (.seq (.region false [
    ⟨0, (some 10), .p .mov [.t 1], [], none⟩,
    ⟨1, (some 11), .p .mov [.t 2], [], none⟩,
    ⟨2, (some 12), .c (.call 156) [.t 10, .t 11], [], none⟩,
    ⟨3, (some 9), .p .mov [.t 12], [], none⟩,
    ⟨4, (some 13), .p (.ext 0) [.t 9], [], none⟩,
    ⟨5, (some 14), .p (.ext 1) [.t 9], [], none⟩,
    ⟨6, (some 7), .p .mov [.t 13], [], none⟩,
    ⟨7, (some 8), .p .mov [.t 14], [], none⟩])
   (.seq (.seq (.region false [
    ⟨0, (some 15), .p .mov [.t 7], [], none⟩,
    ⟨1, (some 16), .p (.bin .neq) [.t 15, .c (.int .u64 0)], [], none⟩,
    ⟨2, (some 17), .p .mov [.t 16], [], none⟩,
    ⟨3, (some 18), .p .mov [.t 8], [], (some (17, false))⟩,
    ⟨4, (some 19), .p .mov [.t 0], [], (some (17, false))⟩,
    ⟨5, (some 20), .p (.bin .gtr) [.t 18, .t 19], [], (some (17, false))⟩,
    ⟨6, (some 21), .p .pick [.t 17, .c (.bool true), .t 20], [], none⟩])
   (.cond (.t 21) (.seq (.region false [
      ⟨0, (some 6), .p .mov [.c (.int .u64 0)], [], none⟩])
     (.ret))
    (.skip)))
   (.seq (.region false [
    ⟨0, (some 22), .p .mov [.t 0], [], none⟩,
    ⟨1, (some 23), .p .mov [.t 8], [], none⟩,
    ⟨2, (some 24), .p (.bin .sub) [.t 22, .t 23], [], none⟩,
    ⟨3, (some 6), .p .mov [.t 24], [], none⟩])
   (.ret))))⟩
def c106 : AFun := ⟨false, 30, [.cell 4 true 4, .tmp 5],
  .seq (.region false [
    ⟨0, (some 2), .n (.box 4) [.t 0] 0 0, [], none⟩,
    ⟨1, (some 3), .n (.box 4) [.t 1] 0 0, [], none⟩,
    ⟨2, (some 4), .n (.alloc (.agg [.int .u64 0, .int .u64 0, .int .u64 0, .int .u64 0])) [] 0 0, [], none⟩,
    ⟨3, (some 5), .p .mov [.c (.int .i64 0)], [], none⟩])
   (.seq (.region false [
    ⟨0, (some 6), .n (.alloc (.agg [.int .u64 0, .int .u64 0, .int .u64 0, .int .u64 0])) [] 0 0, [], none⟩])
   (.seq (.region false [
    ⟨0, (some 7), .p .mov [.c (.int .u64 0)], [], none⟩])
   (.seq (.seq (.region false [
    ⟨0, (some 9), .p .mov [.c (.int .i64 0)], [], none⟩])
   (.block 0 (.loop [false, false, true, true, true, false, true, true, false, true] (.seq (.region false [
        ⟨0, (some 10), .p (.bin .lss) [.t 9, .c (.int .i64 4)], [], none⟩])
       (.seq (.cond (.t 10) (.skip)
        (.exit 0))
       (.seq (.block 1 (.seq (.region false [
          ⟨0, (some 11), .p .mov [.t 9], [], none⟩,
          ⟨1, (some 8), .p .mov [.t 11], [], none⟩])
         (.region true [
          ⟨0, (some 13), .p .mov [.t 8], [], none⟩,
          ⟨1, (some 14), .p .mov [.t 8], [], none⟩,
          ⟨2, (some 15), .p (.ixa 4 1) [.t 2, .t 14], [1], none⟩,
          ⟨3, (some 16), .ld false 1 (.t 15) 0 0, [2], none⟩,
          ⟨4, (some 17), .p .mov [.t 8], [], none⟩,
          ⟨5, (some 18), .p (.ixa 4 1) [.t 3, .t 17], [4], none⟩,
          ⟨6, (some 19), .ld false 1 (.t 18) 0 0, [5], none⟩,
          ⟨7, (some 20), .p .mov [.t 7], [], none⟩,
          ⟨8, (some 21), .p .add64 [.t 16, .t 19, .t 20], [3, 6, 7], none⟩,
          ⟨9, (some 12), .p .mov [.t 21], [8], none⟩,
          ⟨10, (some 22), .p (.ext 0) [.t 12], [9], none⟩,
          ⟨11, (some 23), .p (.ext 1) [.t 12], [9], none⟩,
          ⟨12, (some 24), .p (.ixa 4 1) [.t 6, .t 13], [0, 1, 2, 3, 4, 5, 6, 7, 8, 9, 10], none⟩,
          ⟨13, none, .c (.store 1) [.t 24, .t 22], [12, 10, 8, 0, 1, 2, 3, 4, 5, 6, 7, 9], none⟩,
          ⟨14, (some 7), .p .mov [.t 23], [11, 13, 0, 1, 2, 3, 4, 5, 6, 7, 8, 9, 10, 12], none⟩])))
       (.region false [
        ⟨0, (some 25), .p (.bin .add) [.t 9, .c (.int .i64 1)], [], none⟩,
        ⟨1, (some 9), .p .mov [.t 25], [], none⟩])))))))
   (.seq (.seq (.region false [
    ⟨0, (some 26), .p .mov [.t 7], [], none⟩,
    ⟨1, (some 27), .p (.bin .neq) [.t 26, .c (.int .u64 0)], [], none⟩])
   (.cond (.t 27) (.seq (.region false [
      ⟨0, (some 28), .p (.bld [.int .u64 0, .int .u64 0, .int .u64 0, .int .u64 0] []) [], [], none⟩,
      ⟨1, none, .c (.store 4) [.t 4, .t 28], [], none⟩,
      ⟨2, (some 5), .p .mov [.c (.int .i64 4)], [], none⟩])
     (.ret))
    (.skip)))
   (.seq (.region false [
    ⟨0, (some 29), .ld true 4 (.t 6) 0 0, [], none⟩,
    ⟨1, none, .c (.store 4) [.t 4, .t 29], [], none⟩,
    ⟨2, (some 5), .p .mov [.c (.int .i64 0)], [], none⟩])
   (.ret))))))⟩
def c107 : AFun := ⟨false, 37, [.cell 2 true 4],
  .seq (.region false [
    ⟨0, (some 2), .n (.alloc (.agg [.int .u64 0, .int .u64 0, .int .u64 0, .int .u64 0])) [] 0 0, [], none⟩])
   (.seq (.seq (.region false [
    ⟨0, (some 8), .p .mov [.t 0], [], none⟩,
    ⟨1, (some 9), .p (.eqp false) [.t 8, .c (.nilp)], [], none⟩])
   (.cond (.t 9) (.seq (.region false [
      ⟨0, (some 10), .p (.bld [.int .u64 0, .int .u64 0, .int .u64 0, .int .u64 0] []) [], [], none⟩,
      ⟨1, none, .c (.store 4) [.t 2, .t 10], [], none⟩])
     (.ret))
    (.skip)))
   (.seq (.region false [
    ⟨0, (some 3), .n (.alloc (.agg [.int .u64 0, .int .u64 0, .int .u64 0, .int .u64 0])) [] 0 0, [], none⟩])
   (.seq (.seq (.region false [
    ⟨0, (some 11), .p .mov [.t 0], [], none⟩,
    ⟨1, (some 12), .p .nilc [.t 11], [], none⟩,
    ⟨2, (some 13), .p (.fld 0) [.t 12], [], none⟩,
    ⟨3, (some 14), .ld false 1 (.t 13) 0 0, [], none⟩,
    ⟨4, (some 15), .p .len [.t 14], [], none⟩,
    ⟨5, (some 16), .p .mov [.c (.int .i64 0)], [], none⟩])
   (.block 0 (.loop [true, false, true, true, false, false, false, false, false, false, false, false, false, false, true, true, true] (.seq (.region false [
        ⟨0, (some 17), .p (.bin .lss) [.t 16, .t 15], [], none⟩])
       (.seq (.cond (.t 17) (.skip)
        (.exit 0))
       (.seq (.block 1 (.seq (.region false [
          ⟨0, (some 18), .p (.ixs 6) [.t 14, .t 16], [], none⟩,
          ⟨1, (some 19), .ld true 6 (.t 18) 0 0, [], none⟩,
          ⟨2, (some 5), .n (.alloc (.agg [.int .u64 0, .int .u64 0, .int .u64 0, .int .u64 0, .int .u64 0, .int .u64 0])) [] 0 0, [], none⟩,
          ⟨3, none, .c (.store 6) [.t 5, .t 19], [], none⟩])
         (.region false [
          ⟨0, (some 20), .ld true 4 (.t 3) 0 0, [], none⟩,
          ⟨1, (some 21), .p (.fld 1) [.t 5], [], none⟩,
          ⟨2, (some 22), .ld true 4 (.t 21) 0 0, [], none⟩,
          ⟨3, (some 23), .c (.call 141) [.t 20, .t 22], [], none⟩,
          ⟨4, none, .c (.store 4) [.t 3, .t 23], [], none⟩])))
       (.region false [
        ⟨0, (some 24), .p (.bin .add) [.t 16, .c (.int .i64 1)], [], none⟩,
        ⟨1, (some 16), .p .mov [.t 24], [], none⟩])))))))
   (.seq (.seq (.region false [
    ⟨0, (some 25), .p .mov [.t 0], [], none⟩,
    ⟨1, (some 26), .p .nilc [.t 25], [], none⟩,
    ⟨2, (some 27), .p (.fld 1) [.t 26], [], none⟩,
    ⟨3, (some 28), .ld true 16 (.t 27) 0 0, [], none⟩,
    ⟨4, (some 29), .p .mov [.c (.int .i64 0)], [], none⟩])
   (.block 2 (.loop [false, false, true, true, false, false, false, false, false, false, false, false, false, false, false, false, false, false, false, false, false, false, false, false, false, false, false, false, true, true] (.seq (.region false [
        ⟨0, (some 30), .p (.bin .lss) [.t 29, .c (.int .i64 4)], [], none⟩])
       (.seq (.cond (.t 30) (.skip)
        (.exit 2))
       (.seq (.block 3 (.seq (.region false [
          ⟨0, (some 31), .p (.ixv 4 true 4) [.t 28, .t 29], [], none⟩,
          ⟨1, (some 7), .n (.alloc (.agg [.int .u64 0, .int .u64 0, .int .u64 0, .int .u64 0])) [] 0 0, [], none⟩,
          ⟨2, none, .c (.store 4) [.t 7, .t 31], [], none⟩])
         (.region false [
          ⟨0, (some 32), .ld true 4 (.t 3) 0 0, [], none⟩,
          ⟨1, (some 33), .ld true 4 (.t 7) 0 0, [], none⟩,
          ⟨2, (some 34), .c (.call 141) [.t 32, .t 33], [], none⟩,
          ⟨3, none, .c (.store 4) [.t 3, .t 34], [], none⟩])))
       (.region false [
        ⟨0, (some 35), .p (.bin .add) [.t 29, .c (.int .i64 1)], [], none⟩,
        ⟨1, (some 29), .p .mov [.t 35], [], none⟩])))))))
   (.seq (.region false [
    ⟨0, (some 36), .ld true 4 (.t 3) 0 0, [], none⟩,
    ⟨1, none, .c (.store 4) [.t 2, .t 36], [], none⟩])
   (.ret))))))⟩
def c108 : AFun := ⟨false, 30, [.tmp 4],
  .seq (.region false [
    ⟨0, (some 3), .n (.box 4) [.t 1] 0 0, [], none⟩,
    ⟨1, (some 4), .p .mov [.c (.int .i64 0)], [], none⟩])
   (.seq (.block 0 (.seq (.region false [
      ⟨0, (some 8), .p .mov [.t 0], [], none⟩,
      ⟨1, (some 9), .p (.eqp false) [.t 8, .c (.nilp)], [], none⟩,
      ⟨2, (some 7), .p .mov [.t 9], [], none⟩])
     (.cond (.t 7) (.seq (.region false [
        ⟨0, (some 4), .p .mov [.c (.int .i64 1)], [], none⟩])
       (.ret))
      (.seq (.region false [
        ⟨0, (some 11), .ld true 4 (.t 3) 0 0, [], none⟩,
        ⟨1, (some 12), .p (.bld [.int .u64 0, .int .u64 0, .int .u64 0, .int .u64 0] []) [], [], none⟩,
        ⟨2, (some 13), .p (.eqa false [false, false, false, false]) [.t 11, .t 12], [], none⟩,
        ⟨3, (some 10), .p .mov [.t 13], [], none⟩])
       (.cond (.t 10) (.seq (.region false [
          ⟨0, (some 4), .p .mov [.c (.int .i64 2)], [], none⟩])
         (.ret))
        (.skip))))))
   (.seq (.region true [
    ⟨0, (some 15), .p .mov [.t 0], [], none⟩,
    ⟨1, (some 16), .p .nilc [.t 15], [0], none⟩,
    ⟨2, (some 17), .p (.fld 2) [.t 16], [1], none⟩,
    ⟨3, (some 18), .ld true 4 (.t 17) 0 0, [2], none⟩,
    ⟨4, (some 19), .ld true 4 (.t 3) 0 0, [], none⟩,
    ⟨9, (some 5), .n (.alloc (.agg [.int .u64 0, .int .u64 0, .int .u64 0, .int .u64 0])) [] 0 1, [], none⟩,
    ⟨5, (some 20), .c (.call 106) [.t 18, .t 19], [3, 4], none⟩,
    ⟨6, (some 14), .p .mov [.t 20], [6], none⟩,
    ⟨7, (some 21), .p (.ext 0) [.t 14], [7], none⟩,
    ⟨8, (some 22), .p (.ext 1) [.t 14], [7], none⟩,
    ⟨10, none, .c (.store 4) [.t 5, .t 21], [5, 8, 6, 0, 1, 2, 3, 4, 7], none⟩,
    ⟨11, (some 6), .p .mov [.t 22], [9, 10, 0, 1, 2, 3, 4, 6, 7, 8, 5], none⟩])
   (.seq (.seq (.region false [
    ⟨0, (some 23), .p .mov [.t 6], [], none⟩,
    ⟨1, (some 24), .p (.bin .neq) [.t 23, .c (.int .i64 0)], [], none⟩])
   (.cond (.t 24) (.seq (.region false [
      ⟨0, (some 25), .p .mov [.t 6], [], none⟩,
      ⟨1, (some 4), .p .mov [.t 25], [], none⟩])
     (.ret))
    (.skip)))
   (.seq (.region false [
    ⟨0, (some 26), .p .mov [.t 0], [], none⟩,
    ⟨1, (some 27), .ld true 4 (.t 5) 0 0, [], none⟩,
    ⟨2, (some 28), .p .nilc [.t 26], [], none⟩,
    ⟨3, (some 29), .p (.fld 2) [.t 28], [], none⟩,
    ⟨4, none, .c (.store 4) [.t 29, .t 27], [], none⟩])
   (.seq (.region false [
    ⟨0, (some 4), .p .mov [.c (.int .i64 0)], [], none⟩])
   (.ret))))))⟩
def c109 : AFun := ⟨false, 29, [.tmp 6],
  .seq (.region false [
    ⟨0, (some 5), .n (.box 4) [.t 2] 0 0, [], none⟩,
    ⟨1, (some 6), .p .mov [.c (.int .i64 0)], [], none⟩])
   (.seq (.block 0 (.seq (.region false [
      ⟨0, (some 10), .p .mov [.t 0], [], none⟩,
      ⟨1, (some 11), .p (.eqp false) [.t 10, .c (.nilp)], [], none⟩,
      ⟨2, (some 9), .p .mov [.t 11], [], none⟩])
     (.cond (.t 9) (.seq (.region false [
        ⟨0, (some 6), .p .mov [.c (.int .i64 1)], [], none⟩])
       (.ret))
      (.seq (.region false [
        ⟨0, (some 13), .p .mov [.t 1], [], none⟩,
        ⟨1, (some 14), .p (.bin .eql) [.t 13, .c (.int .u64 0)], [], none⟩,
        ⟨2, (some 12), .p .mov [.t 14], [], none⟩])
       (.cond (.t 12) (.seq (.region false [
          ⟨0, (some 6), .p .mov [.c (.int .i64 2)], [], none⟩])
         (.ret))
        (.skip))))))
   (.seq (.seq (.region true [
    ⟨0, (some 16), .p .mov [.t 0], [], none⟩,
    ⟨2, (some 18), .ld true 4 (.t 5) 0 1, [], none⟩,
    ⟨7, (some 7), .n (.alloc (.agg [.int .u64 0, .int .u64 0, .int .u64 0, .int .u64 0])) [] 0 2, [], none⟩,
    ⟨1, (some 17), .c (.call 107) [.t 16], [0], none⟩,
    ⟨3, (some 19), .c (.call 106) [.t 17, .t 18], [3, 1], none⟩,
    ⟨4, (some 15), .p .mov [.t 19], [4], none⟩,
    ⟨5, (some 20), .p (.ext 0) [.t 15], [5], none⟩,
    ⟨6, (some 21), .p (.ext 1) [.t 15], [5], none⟩,
    ⟨8, none, .c (.store 4) [.t 7, .t 20], [2, 6, 4, 0, 3, 1, 5], none⟩,
    ⟨9, (some 8), .p .mov [.t 21], [7, 8, 0, 3, 1, 4, 5, 6, 2], none⟩])
   (.seq (.region false [
    ⟨0, (some 22), .p .mov [.t 8], [], none⟩,
    ⟨1, (some 23), .p (.bin .neq) [.t 22, .c (.int .i64 0)], [], none⟩])
   (.cond (.t 23) (.seq (.region false [
      ⟨0, (some 24), .p .mov [.t 8], [], none⟩,
      ⟨1, (some 6), .p .mov [.t 24], [], none⟩])
     (.ret))
    (.skip))))
   (.seq (.region false [
    ⟨0, (some 25), .p .mov [.t 0], [], none⟩,
    ⟨1, (some 26), .p .mov [.t 1], [], none⟩,
    ⟨2, (some 27), .ld true 4 (.t 5) 0 0, [], none⟩,
    ⟨3, (some 28), .c (.call 162) [.t 25, .t 26, .t 27], [], none⟩])
   (.seq (.region false [
    ⟨0, (some 6), .p .mov [.c (.int .i64 0)], [], none⟩])
   (.ret)))))⟩
def c110 : AFun := ⟨false, 83, [.tmp 4],
  .seq (.region false [
    ⟨0, (some 3), .n (.box 8) [.t 1] 0 0, [], none⟩,
    ⟨1, (some 4), .p .mov [.c (.int .i64 0)], [], none⟩])
   (.seq (.seq (.region false [
    ⟨0, (some 11), .p .mov [.t 0], [], none⟩,
    ⟨1, (some 12), .ld true 8 (.t 3) 0 0, [], none⟩,
    ⟨2, (some 13), .c (.call 163) [.t 11, .t 12], [], none⟩,
    ⟨3, (some 5), .p .mov [.t 13], [], none⟩])
   (.seq (.region false [
    ⟨0, (some 14), .p .mov [.t 5], [], none⟩,
    ⟨1, (some 15), .p (.bin .neq) [.t 14, .c (.int .i64 0)], [], none⟩])
   (.cond (.t 15) (.seq (.region false [
      ⟨0, (some 16), .p .mov [.t 5], [], none⟩,
      ⟨1, (some 4), .p .mov [.t 16], [], none⟩])
     (.ret))
    (.skip))))
   (.seq (.region true [
    ⟨0, (some 18), .p .mov [.t 0], [], none⟩,
    ⟨1, (some 19), .p .nilc [.t 18], [0], none⟩,
    ⟨2, (some 20), .p (.fld 2) [.t 19], [1], none⟩,
    ⟨3, (some 21), .ld true 4 (.t 20) 0 0, [2], none⟩,
    ⟨4, (some 22), .p (.fld 3) [.t 3], [], none⟩,
    ⟨5, (some 23), .ld true 4 (.t 22) 0 0, [4], none⟩,
    ⟨10, (some 6), .n (.alloc (.agg [.int .u64 0, .int .u64 0, .int .u64 0, .int .u64 0])) [] 0 1, [], none⟩,
    ⟨6, (some 24), .c (.call 152) [.t 21, .t 23], [3, 5], none⟩,
    ⟨7, (some 17), .p .mov [.t 24], [7], none⟩,
    ⟨8, (some 25), .p (.ext 0) [.t 17], [8], none⟩,
    ⟨9, (some 26), .p (.ext 1) [.t 17], [8], none⟩,
    ⟨11, none, .c (.store 4) [.t 6, .t 25], [6, 9, 7, 0, 1, 2, 3, 4, 5, 8], none⟩,
    ⟨12, (some 7), .p .mov [.t 26], [10, 11, 0, 1, 2, 3, 4, 5, 7, 8, 9, 6], none⟩])
   (.seq (.seq (.region false [
    ⟨0, (some 27), .p .mov [.t 7], [], none⟩,
    ⟨1, (some 28), .p (.bin .neq) [.t 27, .c (.int .i64 0)], [], none⟩])
   (.cond (.t 28) (.seq (.region false [
      ⟨0, (some 4), .p .mov [.c (.int .i64 10)], [], none⟩])
     (.ret))
    (.skip)))
   (.seq (.region true [
    ⟨0, (some 30), .p .mov [.t 0], [], none⟩,
    ⟨1, (some 31), .p (.fld 2) [.t 3], [], none⟩,
    ⟨2, (some 32), .ld false 1 (.t 31) 0 0, [1], none⟩,
    ⟨4, (some 34), .p (.fld 3) [.t 3], [], none⟩,
    ⟨5, (some 35), .ld true 4 (.t 34) 0 1, [3], none⟩,
    ⟨10, (some 8), .n (.alloc (.agg [.int .u64 0, .int .u64 0, .int .u64 0, .int .u64 0])) [] 0 2, [], none⟩,
    ⟨3, (some 33), .c (.call 164) [.t 30, .t 32], [0, 2], none⟩,
    ⟨6, (some 36), .c (.call 106) [.t 33, .t 35], [6, 4], none⟩,
    ⟨7, (some 29), .p .mov [.t 36], [7], none⟩,
    ⟨8, (some 37), .p (.ext 0) [.t 29], [8], none⟩,
    ⟨9, (some 38), .p (.ext 1) [.t 29], [8], none⟩,
    ⟨11, none, .c (.store 4) [.t 8, .t 37], [5, 9, 7, 0, 1, 2, 6, 3, 4, 8], none⟩,
    ⟨12, (some 7), .p .mov [.t 38], [10, 11, 0, 1, 2, 6, 3, 4, 7, 8, 9, 5], none⟩])
   (.seq (.seq (.region false [
    ⟨0, (some 39), .p .mov [.t 7], [], none⟩,
    ⟨1, (some 40), .p (.bin .neq) [.t 39, .c (.int .i64 0)], [], none⟩])
   (.cond (.t 40) (.seq (.region false [
      ⟨0, (some 41), .p .mov [.t 7], [], none⟩,
      ⟨1, (some 4), .p .mov [.t 41], [], none⟩])
     (.ret))
    (.skip)))
   (.seq (.region false [
    ⟨0, (some 42), .p .mov [.t 0], [], none⟩,
    ⟨1, (some 43), .ld true 4 (.t 6) 0 0, [], none⟩,
    ⟨2, (some 44), .p .nilc [.t 42], [], none⟩,
    ⟨3, (some 45), .p (.fld 2) [.t 44], [], none⟩,
    ⟨4, none, .c (.store 4) [.t 45, .t 43], [], none⟩])
   (.seq (.region true [
    ⟨0, (some 46), .p .mov [.t 0], [], none⟩,
    ⟨1, (some 47), .p .nilc [.t 46], [0], none⟩,
    ⟨2, (some 48), .p (.fld 1) [.t 47], [1], none⟩,
    ⟨3, (some 49), .ld false 1 (.t 48) 0 0, [2], none⟩,
    ⟨4, (some 50), .p (.fld 0) [.t 3], [], none⟩,
    ⟨5, (some 51), .ld false 1 (.t 50) 0 0, [4], none⟩,
    ⟨6, (some 52), .p (.ixs 1) [.t 49, .t 51], [3, 5, 0, 1, 2, 4], none⟩,
    ⟨7, none, .c (.store 1) [.t 52, .c (.bool true)], [6, 0, 1, 2, 3, 4, 5], none⟩])
   (.seq (.region false [
    ⟨0, (some 54), .p .mov [.t 0], [], none⟩,
    ⟨1, (some 55), .p (.fld 2) [.t 3], [], none⟩,
    ⟨2, (some 56), .ld false 1 (.t 55) 0 0, [], none⟩,
    ⟨3, (some 57), .c (.call 165) [.t 54, .t 56], [], none⟩,
    ⟨4, (some 53), .p .mov [.t 57], [], none⟩,
    ⟨5, (some 58), .p (.ext 0) [.t 53], [], none⟩,
    ⟨6, (some 59), .p (.ext 1) [.t 53], [], none⟩,
    ⟨7, (some 9), .p .mov [.t 58], [], none⟩,
    ⟨8, (some 10), .p .mov [.t 59], [], none⟩])
   (.seq (.seq (.region false [
    ⟨0, (some 60), .p .mov [.t 10], [], none⟩])
   (.cond (.t 60) (.region true [
      ⟨0, (some 61), .p .mov [.t 0], [], none⟩,
      ⟨1, (some 62), .p .nilc [.t 61], [0], none⟩,
      ⟨2, (some 63), .p (.fld 6) [.t 62], [1], none⟩,
      ⟨3, (some 64), .ld false 1 (.t 63) 0 0, [2], none⟩,
      ⟨4, (some 65), .p .mov [.t 9], [], none⟩,
      ⟨5, (some 66), .ld true 4 (.t 8) 0 0, [], none⟩,
      ⟨6, (some 67), .p (.ixs 5) [.t 64, .t 65], [3, 4, 0, 1, 2, 5], none⟩,
      ⟨7, (some 68), .p (.fld 1) [.t 67], [6, 0, 1, 2, 3, 4, 5], none⟩,
      ⟨8, none, .c (.store 4) [.t 68, .t 66], [7, 5, 0, 1, 2, 3, 4], none⟩])
    (.region true [
      ⟨0, (some 69), .p .mov [.t 0], [], none⟩,
      ⟨1, (some 70), .p .mov [.t 0], [], none⟩,
      ⟨2, (some 71), .p .nilc [.t 70], [1], none⟩,
      ⟨3, (some 72), .p (.fld 6) [.t 71], [2], none⟩,
      ⟨4, (some 73), .ld false 1 (.t 72) 0 0, [3], none⟩,
      ⟨5, (some 74), .p .mov [.t 9], [], none⟩,
      ⟨6, (some 75), .p (.fld 2) [.t 3], [], none⟩,
      ⟨7, (some 76), .ld false 1 (.t 75) 0 0, [6], none⟩,
      ⟨8, (some 77), .ld true 4 (.t 8) 0 0, [], none⟩,
      ⟨9, (some 78), .p (.bld [.int .u64 0, .int .u64 0, .int .u64 0, .int .u64 0, .int .u64 0] [(0, 1), (1, 4)]) [.t 76, .t 77], [7, 8], none⟩,
      ⟨10, (some 79), .n (.bsl 5 (.agg [.int .u64 0, .int .u64 0, .int .u64 0, .int .u64 0, .int .u64 0]) 1 [0]) [.t 78] 0 0, [9], none⟩,
      ⟨11, (some 80), .c (.call 166) [.t 73, .t 74, .t 79], [4, 5, 10], none⟩,
      ⟨12, (some 81), .p .nilc [.t 69], [0, 1, 2, 3, 4, 5, 6, 7, 8, 9, 10, 11], none⟩,
      ⟨13, (some 82), .p (.fld 6) [.t 81], [12, 0, 1, 2, 3, 4, 5, 6, 7, 8, 9, 10, 11], none⟩,
      ⟨14, none, .c (.store 1) [.t 82, .t 80], [13, 11, 0, 1, 2, 3, 4, 5, 6, 7, 8, 9, 10], none⟩])))
   (.seq (.region false [
    ⟨0, (some 4), .p .mov [.c (.int .i64 0)], [], none⟩])
   (.ret)))))))))))⟩
def c123 : AFun := ⟨false, 24, [.cell 4 true 4, .tmp 5],
  .seq (.region false [
    ⟨0, (some 3), .n (.box 21) [.t 1] 0 0, [], none⟩,
    ⟨1, (some 4), .n (.alloc (.agg [.int .u64 0, .int .u64 0, .int .u64 0, .int .u64 0])) [] 0 0, [], none⟩,
    ⟨2, (some 5), .p .mov [.c (.int .i64 0)], [], none⟩])
   (.seq (.region false [
    ⟨0, (some 9), .p .mov [.t 0], [], none⟩,
    ⟨1, (some 10), .ld true 21 (.t 3) 0 0, [], none⟩,
    ⟨2, (some 11), .c (.call 177) [.t 9, .t 10], [], none⟩,
    ⟨3, (some 8), .p .mov [.t 11], [], none⟩,
    ⟨4, (some 12), .p (.ext 0) [.t 8], [], none⟩,
    ⟨5, (some 13), .p (.ext 1) [.t 8], [], none⟩,
    ⟨6, (some 6), .p .mov [.t 12], [], none⟩,
    ⟨7, (some 7), .p .mov [.t 13], [], none⟩])
   (.seq (.seq (.region false [
    ⟨0, (some 14), .p .mov [.t 7], [], none⟩,
    ⟨1, (some 15), .p (.bin .neq) [.t 14, .c (.int .i64 0)], [], none⟩])
   (.cond (.t 15) (.seq (.region false [
      ⟨0, (some 16), .p (.bld [.int .u64 0, .int .u64 0, .int .u64 0, .int .u64 0] []) [], [], none⟩,
      ⟨1, (some 17), .p .mov [.t 7], [], none⟩,
      ⟨2, none, .c (.store 4) [.t 4, .t 16], [], none⟩,
      ⟨3, (some 5), .p .mov [.t 17], [], none⟩])
     (.ret))
    (.skip)))
   (.seq (.region false [
    ⟨0, (some 18), .p (.fld 3) [.t 3], [], none⟩,
    ⟨1, (some 19), .ld true 4 (.t 18) 0 0, [], none⟩,
    ⟨2, (some 20), .p .mov [.t 6], [], none⟩,
    ⟨3, (some 21), .c (.call 178) [.t 19, .t 20, .c (.int .i64 10)], [], none⟩,
    ⟨4, (some 22), .p (.ext 0) [.t 21], [], none⟩,
    ⟨5, (some 23), .p (.ext 1) [.t 21], [], none⟩,
    ⟨6, none, .c (.store 4) [.t 4, .t 22], [], none⟩,
    ⟨7, (some 5), .p .mov [.t 23], [], none⟩])
   (.ret))))⟩
def c124 : AFun := ⟨false, 3, [.tmp 0],
  .seq (.region false [
    ⟨0, (some 0), .p .mov [.c (.nilp)], [], none⟩])
   (.seq (.region false [
    ⟨0, (some 1), .p (.bld [.sl 32 .nil []] []) [], [], none⟩,
    ⟨1, (some 2), .n (.box 1) [.t 1] 0 0, [], none⟩,
    ⟨2, (some 0), .p .mov [.t 2], [], none⟩])
   (.ret))⟩
def c141 : AFun := ⟨false, 17, [.cell 4 true 4],
  .seq (.region false [
    ⟨0, (some 2), .n (.box 4) [.t 0] 0 0, [], none⟩,
    ⟨1, (some 3), .n (.box 4) [.t 1] 0 0, [], none⟩,
    ⟨2, (some 4), .n (.alloc (.agg [.int .u64 0, .int .u64 0, .int .u64 0, .int .u64 0])) [] 0 0, [], none⟩])
   (.seq (.seq (.region false [
    ⟨0, (some 8), .ld true 4 (.t 2) 0 0, [], none⟩,
    ⟨1, (some 9), .ld true 4 (.t 3) 0 0, [], none⟩,
    ⟨2, (some 10), .c (.call 106) [.t 8, .t 9], [], none⟩,
    ⟨3, (some 7), .p .mov [.t 10], [], none⟩,
    ⟨4, (some 11), .p (.ext 0) [.t 7], [], none⟩,
    ⟨5, (some 12), .p (.ext 1) [.t 7], [], none⟩,
    ⟨6, (some 5), .n (.alloc (.agg [.int .u64 0, .int .u64 0, .int .u64 0, .int .u64 0])) [] 0 0, [], none⟩,
    ⟨7, none, .c (.store 4) [.t 5, .t 11], [], none⟩,
    ⟨8, (some 6), .p .mov [.t 12], [], none⟩])
   (.seq (.region false [
    ⟨0, (some 13), .p .mov [.t 6], [], none⟩,
    ⟨1, (some 14), .p (.bin .eql) [.t 13, .c (.int .i64 0)], [], none⟩])
   (.cond (.t 14) (.seq (.region false [
      ⟨0, (some 15), .ld true 4 (.t 5) 0 0, [], none⟩,
      ⟨1, none, .c (.store 4) [.t 4, .t 15], [], none⟩])
     (.ret))
    (.skip))))
   (.seq (.region false [
    ⟨0, (some 16), .c (.call 188) [], [], none⟩,
    ⟨1, none, .c (.store 4) [.t 4, .t 16], [], none⟩])
   (.ret)))⟩
def c142 : AFun := ⟨false, 25, [.cell 4 true 6],
  .seq (.region false [
    ⟨0, (some 4), .n (.alloc (.agg [.int .u64 0, .int .u64 0, .int .u64 0, .int .u64 0, .int .u64 0, .int .u64 0])) [] 0 0, [], none⟩])
   (.seq (.seq (.region false [
    ⟨0, (some 7), .p .mov [.t 0], [], none⟩,
    ⟨1, (some 8), .p (.eqp true) [.t 7, .c (.nilp)], [], none⟩])
   (.cond (.t 8) (.seq (.region false [
      ⟨0, (some 10), .p .mov [.t 0], [], none⟩,
      ⟨1, (some 11), .p .mov [.t 1], [], none⟩,
      ⟨2, (some 12), .c (.call 189) [.t 10, .t 11], [], none⟩,
      ⟨3, (some 9), .p .mov [.t 12], [], none⟩,
      ⟨4, (some 13), .p (.ext 0) [.t 9], [], none⟩,
      ⟨5, (some 14), .p (.ext 1) [.t 9], [], none⟩,
      ⟨6, (some 5), .p .mov [.t 13], [], none⟩,
      ⟨7, (some 6), .p .mov [.t 14], [], none⟩])
     (.seq (.region false [
      ⟨0, (some 15), .p .mov [.t 6], [], none⟩])
     (.cond (.t 15) (.seq (.region false [
        ⟨0, (some 16), .p .mov [.t 0], [], none⟩,
        ⟨1, (some 17), .p .nilc [.t 16], [], none⟩,
        ⟨2, (some 18), .p (.fld 0) [.t 17], [], none⟩,
        ⟨3, (some 19), .ld false 1 (.t 18) 0 0, [], none⟩,
        ⟨4, (some 20), .p .mov [.t 5], [], none⟩,
        ⟨5, (some 21), .p (.ixs 6) [.t 19, .t 20], [], none⟩,
        ⟨6, (some 22), .ld true 6 (.t 21) 0 0, [], none⟩,
        ⟨7, none, .c (.store 6) [.t 4, .t 22], [], none⟩])
       (.ret))
      (.skip))))
    (.skip)))
   (.seq (.region false [
    ⟨0, (some 23), .p .mov [.t 1], [], none⟩,
    ⟨1, (some 24), .p (.bld [.int .u64 0, .int .u64 0, .int .u64 0, .int .u64 0, .int .u64 0, .int .u64 0] [(0, 1)]) [.t 23], [], none⟩,
    ⟨2, none, .c (.store 6) [.t 4, .t 24], [], none⟩])
   (.ret)))⟩
def c143 : AFun := ⟨false, 54, [],
  .seq (.region false [
    ⟨0, (some 3), .n (.box 6) [.t 1] 0 0, [], none⟩])
   (.seq (.region false [
    ⟨0, (some 7), .p .mov [.t 0], [], none⟩,
    ⟨1, (some 8), .p (.fld 0) [.t 3], [], none⟩,
    ⟨2, (some 9), .ld false 1 (.t 8) 0 0, [], none⟩,
    ⟨3, (some 10), .c (.call 189) [.t 7, .t 9], [], none⟩,
    ⟨4, (some 6), .p .mov [.t 10], [], none⟩,
    ⟨5, (some 11), .p (.ext 0) [.t 6], [], none⟩,
    ⟨6, (some 12), .p (.ext 1) [.t 6], [], none⟩,
    ⟨7, (some 4), .p .mov [.t 11], [], none⟩,
    ⟨8, (some 5), .p .mov [.t 12], [], none⟩])
   (.block 0 (.seq (.region false [
      ⟨0, (some 14), .p .mov [.t 5], [], none⟩,
      ⟨1, (some 15), .p .mov [.t 14], [], none⟩,
      ⟨2, (some 16), .ld true 6 (.t 3) 0 0, [], (some (15, true))⟩,
      ⟨3, (some 17), .c (.call 190) [.t 16], [], (some (15, true))⟩,
      ⟨4, (some 18), .p .pick [.t 15, .t 17, .c (.bool false)], [], none⟩,
      ⟨5, (some 13), .p .mov [.t 18], [], none⟩])
     (.cond (.t 13) (.region false [
        ⟨0, (some 19), .p .mov [.t 0], [], none⟩,
        ⟨1, (some 20), .p .mov [.t 0], [], none⟩,
        ⟨2, (some 21), .p .nilc [.t 20], [], none⟩,
        ⟨3, (some 22), .p (.fld 0) [.t 21], [], none⟩,
        ⟨4, (some 23), .ld false 1 (.t 22) 0 0, [], none⟩,
        ⟨5, (some 24), .p .mov [.t 4], [], none⟩,
        ⟨6, (some 25), .p .mov [.t 4], [], none⟩,
        ⟨7, (some 26), .p (.bin .add) [.t 25, .c (.int .i64 1)], [], none⟩,
        ⟨8, (some 27), .c (.call 191) [.t 23, .t 24, .t 26], [], none⟩,
        ⟨9, (some 28), .p .nilc [.t 19], [], none⟩,
        ⟨10, (some 29), .p (.fld 0) [.t 28], [], none⟩,
        ⟨11, none, .c (.store 1) [.t 29, .t 27], [], none⟩])
      (.seq (.region false [
        ⟨0, (some 31), .p .mov [.t 5], [], none⟩,
        ⟨1, (some 30), .p .mov [.t 31], [], none⟩])
       (.cond (.t 30) (.region true [
          ⟨0, (some 32), .p .mov [.t 0], [], none⟩,
          ⟨1, (some 33), .p .nilc [.t 32], [0], none⟩,
          ⟨2, (some 34), .p (.fld 0) [.t 33], [1], none⟩,
          ⟨3, (some 35), .ld false 1 (.t 34) 0 0, [2], none⟩,
          ⟨4, (some 36), .p .mov [.t 4], [], none⟩,
          ⟨5, (some 37), .ld true 6 (.t 3) 0 0, [], none⟩,
          ⟨6, (some 38), .p (.ixs 6) [.t 35, .t 36], [3, 4, 0, 1, 2, 5], none⟩,
          ⟨7, none, .c (.store 6) [.t 38, .t 37], [6, 5, 0, 1, 2, 3, 4], none⟩])
        (.seq (.region false [
          ⟨0, (some 40), .ld true 6 (.t 3) 0 0, [], none⟩,
          ⟨1, (some 41), .c (.call 190) [.t 40], [], none⟩,
          ⟨2, (some 42), .p (.un .not) [.t 41], [], none⟩,
          ⟨3, (some 39), .p .mov [.t 42], [], none⟩])
         (.cond (.t 39) (.region true [
            ⟨0, (some 43), .p .mov [.t 0], [], none⟩,
            ⟨1, (some 44), .p .mov [.t 0], [], none⟩,
            ⟨2, (some 45), .p .nilc [.t 44], [1], none⟩,
            ⟨3, (some 46), .p (.fld 0) [.t 45], [2], none⟩,
            ⟨4, (some 47), .ld false 1 (.t 46) 0 0, [3], none⟩,
            ⟨5, (some 48), .p .mov [.t 4], [], none⟩,
            ⟨6, (some 49), .ld true 6 (.t 3) 0 0, [], none⟩,
            ⟨7, (some 50), .n (.bsl 6 (.agg [.int .u64 0, .int .u64 0, .int .u64 0, .int .u64 0, .int .u64 0, .int .u64 0]) 1 [0]) [.t 49] 0 0, [6], none⟩,
            ⟨8, (some 51), .c (.call 192) [.t 47, .t 48, .t 50], [4, 5, 7], none⟩,
            ⟨9, (some 52), .p .nilc [.t 43], [0, 1, 2, 3, 4, 5, 6, 7, 8], none⟩,
            ⟨10, (some 53), .p (.fld 0) [.t 52], [9, 0, 1, 2, 3, 4, 5, 6, 7, 8], none⟩,
            ⟨11, none, .c (.store 1) [.t 53, .t 51], [10, 8, 0, 1, 2, 3, 4, 5, 6, 7], none⟩])
          (.skip)))))))))⟩
def c156 : AFun := ⟨false, 51, [.tmp 4, .tmp 5],
  .seq (.region false [
    ⟨0, (some 4), .p .mov [.c (.int .u64 0)], [], none⟩,
    ⟨1, (some 5), .p .mov [.c (.int .u64 0)], [], none⟩])
   (.seq (.region false [
    ⟨0, (some 14), .p .mov [.t 0], [], none⟩,
    ⟨1, (some 15), .p (.bin .and) [.t 14, .c (.int .u64 4294967295)], [], none⟩,
    ⟨2, (some 6), .p .mov [.t 15], [], none⟩])
   (.seq (.region false [
    ⟨0, (some 16), .p .mov [.t 0], [], none⟩,
    ⟨1, (some 17), .p (.bin .shr) [.t 16, .c (.int .u64 32)], [], none⟩,
    ⟨2, (some 7), .p .mov [.t 17], [], none⟩])
   (.seq (.region false [
    ⟨0, (some 18), .p .mov [.t 1], [], none⟩,
    ⟨1, (some 19), .p (.bin .and) [.t 18, .c (.int .u64 4294967295)], [], none⟩,
    ⟨2, (some 8), .p .mov [.t 19], [], none⟩])
   (.seq (.region false [
    ⟨0, (some 20), .p .mov [.t 1], [], none⟩,
    ⟨1, (some 21), .p (.bin .shr) [.t 20, .c (.int .u64 32)], [], none⟩,
    ⟨2, (some 9), .p .mov [.t 21], [], none⟩])
   (.seq (.region false [
    ⟨0, (some 22), .p .mov [.t 6], [], none⟩,
    ⟨1, (some 23), .p .mov [.t 8], [], none⟩,
    ⟨2, (some 24), .p (.bin .mul) [.t 22, .t 23], [], none⟩,
    ⟨3, (some 10), .p .mov [.t 24], [], none⟩])
   (.seq (.region false [
    ⟨0, (some 25), .p .mov [.t 7], [], none⟩,
    ⟨1, (some 26), .p .mov [.t 8], [], none⟩,
    ⟨2, (some 27), .p (.bin .mul) [.t 25, .t 26], [], none⟩,
    ⟨3, (some 28), .p .mov [.t 10], [], none⟩,
    ⟨4, (some 29), .p (.bin .shr) [.t 28, .c (.int .u64 32)], [], none⟩,
    ⟨5, (some 30), .p (.bin .add) [.t 27, .t 29], [], none⟩,
    ⟨6, (some 11), .p .mov [.t 30], [], none⟩])
   (.seq (.region false [
    ⟨0, (some 31), .p .mov [.t 11], [], none⟩,
    ⟨1, (some 32), .p (.bin .and) [.t 31, .c (.int .u64 4294967295)], [], none⟩,
    ⟨2, (some 12), .p .mov [.t 32], [], none⟩])
   (.seq (.region false [
    ⟨0, (some 33), .p .mov [.t 11], [], none⟩,
    ⟨1, (some 34), .p (.bin .shr) [.t 33, .c (.int .u64 32)], [], none⟩,
    ⟨2, (some 13), .p .mov [.t 34], [], none⟩])
   (.seq (.region false [
    ⟨0, (some 35), .p .mov [.t 12], [], none⟩,
    ⟨1, (some 36), .p .mov [.t 6], [], none⟩,
    ⟨2, (some 37), .p .mov [.t 9], [], none⟩,
    ⟨3, (some 38), .p (.bin .mul) [.t 36, .t 37], [], none⟩,
    ⟨4, (some 39), .p (.bin .add) [.t 35, .t 38], [], none⟩,
    ⟨5, (some 12), .p .mov [.t 39], [], none⟩])
   (.seq (.region false [
    ⟨0, (some 40), .p .mov [.t 7], [], none⟩,
    ⟨1, (some 41), .p .mov [.t 9], [], none⟩,
    ⟨2, (some 42), .p (.bin .mul) [.t 40, .t 41], [], none⟩,
    ⟨3, (some 43), .p .mov [.t 13], [], none⟩,
    ⟨4, (some 44), .p (.bin .add) [.t 42, .t 43], [], none⟩,
    ⟨5, (some 45), .p .mov [.t 12], [], none⟩,
    ⟨6, (some 46), .p (.bin .shr) [.t 45, .c (.int .u64 32)], [], none⟩,
    ⟨7, (some 47), .p (.bin .add) [.t 44, .t 46], [], none⟩,
    ⟨8, (some 4), .p .mov [.t 47], [], none⟩])
   (.seq (.region false [
    ⟨0, (some 48), .p .mov [.t 0], [], none⟩,
    ⟨1, (some 49), .p .mov [.t 1], [], none⟩,
    ⟨2, (some 50), .p (.bin .mul) [.t 48, .t 49], [], none⟩,
    ⟨3, (some 5), .p .mov [.t 50], [], none⟩])
   (.ret))))))))))))⟩
def c157 : AFun := ⟨false, 6, [.tmp 2],
  .seq (.region false [
    ⟨0, (some 1), .n (.box 21) [.t 0] 0 0, [], none⟩,
    ⟨1, (some 2), .p .mov [.c (.bool false)], [], none⟩])
   (.seq (.region false [
    ⟨0, (some 3), .ld true 21 (.t 1) 0 0, [], none⟩,
    ⟨1, (some 4), .c (.call 205) [.t 3], [], none⟩,
    ⟨2, (some 5), .p (.bin .eql) [.t 4, .c (.int .i64 0)], [], none⟩,
    ⟨3, (some 2), .p .mov [.t 5], [], none⟩])
   (.ret))⟩
def c159 : AFun := ⟨false, 21, [.tmp 4],
  .seq (.region false [
    ⟨0, (some 4), .p .mov [.c (.nilp)], [], none⟩])
   (.seq (.seq (.region false [
    ⟨0, (some 5), .p .mov [.t 1], [], none⟩])
   (.block 0 (.seq (.region false [
      ⟨0, (some 7), .p (.bin .eql) [.t 5, .c (.int .i64 4)], [], none⟩,
      ⟨1, (some 6), .p .mov [.t 7], [], none⟩])
     (.cond (.t 6) (.seq (.region false [
        ⟨0, (some 8), .p .mov [.t 0], [], none⟩,
        ⟨1, (some 9), .p .nilc [.t 8], [], none⟩,
        ⟨2, (some 10), .p (.fld 3) [.t 9], [], none⟩,
        ⟨3, (some 4), .p .mov [.t 10], [], none⟩])
       (.ret))
      (.seq (.region false [
        ⟨0, (some 12), .p (.bin .eql) [.t 5, .c (.int .i64 6)], [], none⟩,
        ⟨1, (some 11), .p .mov [.t 12], [], none⟩])
       (.cond (.t 11) (.seq (.region false [
          ⟨0, (some 13), .p .mov [.t 0], [], none⟩,
          ⟨1, (some 14), .p .nilc [.t 13], [], none⟩,
          ⟨2, (some 15), .p (.fld 8) [.t 14], [], none⟩,
          ⟨3, (some 4), .p .mov [.t 15], [], none⟩])
         (.ret))
        (.seq (.region false [
          ⟨0, (some 17), .p (.bin .eql) [.t 5, .c (.int .i64 8)], [], none⟩,
          ⟨1, (some 16), .p .mov [.t 17], [], none⟩])
         (.cond (.t 16) (.seq (.region false [
            ⟨0, (some 18), .p .mov [.t 0], [], none⟩,
            ⟨1, (some 19), .p .nilc [.t 18], [], none⟩,
            ⟨2, (some 20), .p (.fld 13) [.t 19], [], none⟩,
            ⟨3, (some 4), .p .mov [.t 20], [], none⟩])
           (.ret))
          (.skip)))))))))
   (.seq (.region false [
    ⟨0, (some 4), .p .mov [.c (.nilp)], [], none⟩])
   (.ret)))⟩
def c160 : AFun := ⟨false, 51, [.tmp 4],
  .seq (.region false [
    ⟨0, (some 4), .p .mov [.c (.nilp)], [], none⟩])
   (.seq (.seq (.region false [
    ⟨0, (some 5), .p .mov [.t 1], [], none⟩])
   (.block 0 (.seq (.region false [
      ⟨0, (some 7), .p (.bin .eql) [.t 5, .c (.int .i64 1)], [], none⟩,
      ⟨1, (some 6), .p .mov [.t 7], [], none⟩])
     (.cond (.t 6) (.seq (.region false [
        ⟨0, (some 8), .p .mov [.t 0], [], none⟩,
        ⟨1, (some 9), .p .nilc [.t 8], [], none⟩,
        ⟨2, (some 10), .p (.fld 0) [.t 9], [], none⟩,
        ⟨3, (some 4), .p .mov [.t 10], [], none⟩])
       (.ret))
      (.seq (.region false [
        ⟨0, (some 12), .p (.bin .eql) [.t 5, .c (.int .i64 2)], [], none⟩,
        ⟨1, (some 11), .p .mov [.t 12], [], none⟩])
       (.cond (.t 11) (.seq (.region false [
          ⟨0, (some 13), .p .mov [.t 0], [], none⟩,
          ⟨1, (some 14), .p .nilc [.t 13], [], none⟩,
          ⟨2, (some 15), .p (.fld 1) [.t 14], [], none⟩,
          ⟨3, (some 4), .p .mov [.t 15], [], none⟩])
         (.ret))
        (.seq (.region false [
          ⟨0, (some 17), .p (.bin .eql) [.t 5, .c (.int .i64 3)], [], none⟩,
          ⟨1, (some 16), .p .mov [.t 17], [], none⟩])
         (.cond (.t 16) (.seq (.region false [
            ⟨0, (some 18), .p .mov [.t 0], [], none⟩,
            ⟨1, (some 19), .p .nilc [.t 18], [], none⟩,
            ⟨2, (some 20), .p (.fld 2) [.t 19], [], none⟩,
            ⟨3, (some 4), .p .mov [.t 20], [], none⟩])
           (.ret))
          (.seq (.region false [
            ⟨0, (some 22), .p (.bin .eql) [.t 5, .c (.int .i64 5)], [], none⟩,
            ⟨1, (some 21), .p .mov [.t 22], [], none⟩])
           (.cond (.t 21) (.seq (.region false [
              ⟨0, (some 23), .p .mov [.t 0], [], none⟩,
              ⟨1, (some 24), .p .nilc [.t 23], [], none⟩,
              ⟨2, (some 25), .p (.fld 7) [.t 24], [], none⟩,
              ⟨3, (some 4), .p .mov [.t 25], [], none⟩])
             (.ret))
            (.seq (.region false [
              ⟨0, (some 27), .p (.bin .eql) [.t 5, .c (.int .i64 7)], [], none⟩,
              ⟨1, (some 26), .p .mov [.t 27], [], none⟩])
             (.cond (.t 26) (.seq (.region false [
                ⟨0, (some 28), .p .mov [.t 0], [], none⟩,
                ⟨1, (some 29), .p .nilc [.t 28], [], none⟩,
                ⟨2, (some 30), .p (.fld 12) [.t 29], [], none⟩,
                ⟨3, (some 4), .p .mov [.t 30], [], none⟩])
               (.ret))
              (.seq (.region false [
                ⟨0, (some 32), .p (.bin .eql) [.t 5, .c (.int .i64 9)], [], none⟩,
                ⟨1, (some 31), .p .mov [.t 32], [], none⟩])
               (.cond (.t 31) (.seq (.region false [
                  ⟨0, (some 33), .p .mov [.t 0], [], none⟩,
                  ⟨1, (some 34), .p .nilc [.t 33], [], none⟩,
                  ⟨2, (some 35), .p (.fld 17) [.t 34], [], none⟩,
                  ⟨3, (some 4), .p .mov [.t 35], [], none⟩])
                 (.ret))
                (.seq (.region false [
                  ⟨0, (some 37), .p (.bin .eql) [.t 5, .c (.int .i64 10)], [], none⟩,
                  ⟨1, (some 36), .p .mov [.t 37], [], none⟩])
                 (.cond (.t 36) (.seq (.region false [
                    ⟨0, (some 38), .p .mov [.t 0], [], none⟩,
                    ⟨1, (some 39), .p .nilc [.t 38], [], none⟩,
                    ⟨2, (some 40), .p (.fld 18) [.t 39], [], none⟩,
                    ⟨3, (some 4), .p .mov [.t 40], [], none⟩])
                   (.ret))
                  (.seq (.region false [
                    ⟨0, (some 42), .p (.bin .eql) [.t 5, .c (.int .i64 11)], [], none⟩,
                    ⟨1, (some 41), .p .mov [.t 42], [], none⟩])
                   (.cond (.t 41) (.seq (.region false [
                      ⟨0, (some 43), .p .mov [.t 0], [], none⟩,
                      ⟨1, (some 44), .p .nilc [.t 43], [], none⟩,
                      ⟨2, (some 45), .p (.fld 19) [.t 44], [], none⟩,
                      ⟨3, (some 4), .p .mov [.t 45], [], none⟩])
                     (.ret))
                    (.seq (.region false [
                      ⟨0, (some 47), .p (.bin .eql) [.t 5, .c (.int .i64 12)], [], none⟩,
                      ⟨1, (some 46), .p .mov [.t 47], [], none⟩])
                     (.cond (.t 46) (.seq (.region false [
                        ⟨0, (some 48), .p .mov [.t 0], [], none⟩,
                        ⟨1, (some 49), .p .nilc [.t 48], [], none⟩,
                        ⟨2, (some 50), .p (.fld 20) [.t 49], [], none⟩,
                        ⟨3, (some 4), .p .mov [.t 50], [], none⟩])
                       (.ret))
                      (.skip)))))))))))))))))))))
   (.seq (.region false [
    ⟨0, (some 4), .p .mov [.c (.nilp)], [], none⟩])
   (.ret)))⟩
def c162 : AFun := ⟨false, 18, [],
  .seq (.region false [
    ⟨0, (some 5), .n (.box 4) [.t 2] 0 0, [], none⟩])
   (.seq (.region false [
    ⟨0, (some 7), .p .mov [.t 0], [], none⟩,
    ⟨1, (some 8), .p .mov [.t 1], [], none⟩,
    ⟨2, (some 9), .c (.call 142) [.t 7, .t 8], [], none⟩,
    ⟨3, (some 6), .n (.alloc (.agg [.int .u64 0, .int .u64 0, .int .u64 0, .int .u64 0, .int .u64 0, .int .u64 0])) [] 0 0, [], none⟩,
    ⟨4, none, .c (.store 6) [.t 6, .t 9], [], none⟩])
   (.seq (.region false [
    ⟨0, (some 10), .p (.fld 1) [.t 6], [], none⟩,
    ⟨1, (some 11), .ld true 4 (.t 10) 0 0, [], none⟩,
    ⟨2, (some 12), .ld true 4 (.t 5) 0 0, [], none⟩,
    ⟨3, (some 13), .c (.call 141) [.t 11, .t 12], [], none⟩,
    ⟨4, (some 14), .p (.fld 1) [.t 6], [], none⟩,
    ⟨5, none, .c (.store 4) [.t 14, .t 13], [], none⟩])
   (.region false [
    ⟨0, (some 15), .p .mov [.t 0], [], none⟩,
    ⟨1, (some 16), .ld true 6 (.t 6) 0 0, [], none⟩,
    ⟨2, (some 17), .c (.call 143) [.t 15, .t 16], [], none⟩])))⟩
end Go.PV
