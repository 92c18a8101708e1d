import Derived.Test.YtdaalannljjkjaaGreatLim
import Derived.Test.YtdaalannljjkjaaGreatFTab
import Derived.KernelRfl
namespace Go.PV
set_option maxRecDepth 100000
noncomputable def eAw28 : Ent := ⟨22, [], [], .r (.bool true), []⟩
theorem nil5 (c0 c1 c2 c3 c4 c5 c6 c7 c8 c9 c10 c11 c12 c13 c14 c15 c16 c17 c18 c19 c20 c21 c22 c23 c24 c25 c26 c27 c28 c29 c30 c31 c32 c33 c34 c35 c36 c37 c38 c39 : R) (bs : List R) (n : Int) :
   callNS F [eAw28] 40 5 [.r (.agg [c0, c1, c2, c3, c4, c5, c6, c7, c8, c9, c10, c11, c12, c13, c14, c15, c16, c17, c18, c19, c20, c21, c22, c23, c24, c25, c26, c27, c28, c29, c30, c31, c32, c33, c34, c35, c36, c37, c38, c39]), .r (.sl 1 .any bs), .r (.int .u64 n)] [] = some (.r (.bool true), []) := by kernel_rfl
end Go.PV
