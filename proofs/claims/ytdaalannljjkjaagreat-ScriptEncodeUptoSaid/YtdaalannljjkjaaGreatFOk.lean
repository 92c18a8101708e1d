/- Each function of the table is the program's, by computation. -/
import Derived.Test.YtdaalannljjkjaaGreatChkf
import Derived.Test.YtdaalannljjkjaaGreatFTab
import Derived.KernelRfl
import Derived.Test.YtdaalannljjkjaaGreatProg
set_option maxRecDepth 100000
namespace Go.PV
noncomputable abbrev pP : Program := Go.Proofs.Tryz.prog
theorem ok3 : chkAll pP 3 c3 = true := by kernel_rfl
theorem ok4 : chkAll pP 4 c4 = true := by kernel_rfl
theorem ok6 : chkAll pP 6 c6 = true := by kernel_rfl
theorem ok7 : chkAll pP 7 c7 = true := by kernel_rfl
theorem ok8 : chkAll pP 8 c8 = true := by kernel_rfl
theorem ok9 : chkAll pP 9 c9 = true := by kernel_rfl
theorem ok10 : chkAll pP 10 c10 = true := by kernel_rfl
theorem ok11 : chkAll pP 11 c11 = true := by kernel_rfl
theorem ok12 : chkAll pP 12 c12 = true := by kernel_rfl
theorem ok13 : chkAll pP 13 c13 = true := by kernel_rfl
theorem ok14 : chkAll pP 14 c14 = true := by kernel_rfl
theorem ok20 : chkAll pP 20 c20 = true := by kernel_rfl
theorem ok23 : chkAll pP 23 c23 = true := by kernel_rfl
theorem ok24 : chkAll pP 24 c24 = true := by kernel_rfl
theorem ok25 : chkAll pP 25 c25 = true := by kernel_rfl
theorem ok26 : chkAll pP 26 c26 = true := by kernel_rfl
theorem ok27 : chkAll pP 27 c27 = true := by kernel_rfl
theorem ok28 : chkAll pP 28 c28 = true := by kernel_rfl
theorem ok29 : chkAll pP 29 c29 = true := by kernel_rfl
theorem ok30 : chkAll pP 30 c30 = true := by kernel_rfl
theorem ok42 : chkAll pP 42 c42 = true := by kernel_rfl
theorem ok43 : chkAll pP 43 c43 = true := by kernel_rfl
theorem ok44 : chkAll pP 44 c44 = true := by kernel_rfl
theorem ok45 : chkAll pP 45 c45 = true := by kernel_rfl
theorem ok46 : chkAll pP 46 c46 = true := by kernel_rfl
theorem ok47 : chkAll pP 47 c47 = true := by kernel_rfl
theorem ok50 : chkAll pP 50 c50 = true := by kernel_rfl
theorem ok51 : chkAll pP 51 c51 = true := by kernel_rfl
theorem ok52 : chkAll pP 52 c52 = true := by kernel_rfl
theorem ok53 : chkAll pP 53 c53 = true := by kernel_rfl
theorem ok54 : chkAll pP 54 c54 = true := by kernel_rfl
theorem ok55 : chkAll pP 55 c55 = true := by kernel_rfl
theorem ok56 : chkAll pP 56 c56 = true := by kernel_rfl
theorem ok57 : chkAll pP 57 c57 = true := by kernel_rfl
theorem ok58 : chkAll pP 58 c58 = true := by kernel_rfl
theorem ok70 : chkAll pP 70 c70 = true := by kernel_rfl
theorem ok71 : chkAll pP 71 c71 = true := by kernel_rfl
theorem ok72 : chkAll pP 72 c72 = true := by kernel_rfl
theorem ok76 : chkAll pP 76 c76 = true := by kernel_rfl
theorem ok77 : chkAll pP 77 c77 = true := by kernel_rfl
theorem ok78 : chkAll pP 78 c78 = true := by kernel_rfl
theorem ok79 : chkAll pP 79 c79 = true := by kernel_rfl
theorem ok80 : chkAll pP 80 c80 = true := by kernel_rfl
theorem ok81 : chkAll pP 81 c81 = true := by kernel_rfl
theorem ok82 : chkAll pP 82 c82 = true := by kernel_rfl
theorem ok83 : chkAll pP 83 c83 = true := by kernel_rfl
theorem ok84 : chkAll pP 84 c84 = true := by kernel_rfl
theorem ok85 : chkAll pP 85 c85 = true := by kernel_rfl
theorem ok86 : chkAll pP 86 c86 = true := by kernel_rfl
theorem ok87 : chkAll pP 87 c87 = true := by kernel_rfl
theorem ok102 : chkAll pP 102 c102 = true := by kernel_rfl
theorem ok123 : chkAll pP 123 c123 = true := by kernel_rfl
theorem ok124 : chkAll pP 124 c124 = true := by kernel_rfl
theorem ok125 : chkAll pP 125 c125 = true := by kernel_rfl
theorem ok126 : chkAll pP 126 c126 = true := by kernel_rfl
theorem ok127 : chkAll pP 127 c127 = true := by kernel_rfl
theorem ok156 : chkAll pP 156 c156 = true := by kernel_rfl
theorem ok157 : chkAll pP 157 c157 = true := by kernel_rfl
theorem ok159 : chkAll pP 159 c159 = true := by kernel_rfl
theorem ok160 : chkAll pP 160 c160 = true := by kernel_rfl
theorem ok177 : chkAll pP 177 c177 = true := by kernel_rfl
theorem ok178 : chkAll pP 178 c178 = true := by kernel_rfl
theorem ok182 : chkAll pP 182 c182 = true := by kernel_rfl
theorem ok205 : chkAll pP 205 c205 = true := by kernel_rfl
theorem ok216 : chkAll pP 216 c216 = true := by kernel_rfl
theorem ok217 : chkAll pP 217 c217 = true := by kernel_rfl
theorem ok218 : chkAll pP 218 c218 = true := by kernel_rfl
theorem ok219 : chkAll pP 219 c219 = true := by kernel_rfl
theorem ok231 : chkAll pP 231 c231 = true := by kernel_rfl
theorem ok239 : chkAll pP 239 c239 = true := by kernel_rfl
theorem ok240 : chkAll pP 240 c240 = true := by kernel_rfl
theorem ok250 : chkAll pP 250 c250 = true := by kernel_rfl
theorem ok252 : chkAll pP 252 c252 = true := by kernel_rfl
theorem ok265 : chkAll pP 265 c265 = true := by kernel_rfl
theorem ok266 : chkAll pP 266 c266 = true := by kernel_rfl
theorem F_ok : ∀ f A, F f = some A → chkAll pP f A = true := by
  intro f A h
  unfold F at h
  revert h
  exact (nodeF (nodeF (nodeF (nodeF (nodeF (nodeF (leafF ok3) (leafF ok4)) (nodeF (leafF ok6) (leafF ok7))) (nodeF (nodeF (leafF ok8) (leafF ok9)) (nodeF (leafF ok10) (nodeF (leafF ok11) (leafF ok12))))) (nodeF (nodeF (nodeF (leafF ok13) (leafF ok14)) (nodeF (leafF ok20) (leafF ok23))) (nodeF (nodeF (leafF ok24) (leafF ok25)) (nodeF (leafF ok26) (nodeF (leafF ok27) (leafF ok28)))))) (nodeF (nodeF (nodeF (nodeF (leafF ok29) (leafF ok30)) (nodeF (leafF ok42) (leafF ok43))) (nodeF (nodeF (leafF ok44) (leafF ok45)) (nodeF (leafF ok46) (nodeF (leafF ok47) (leafF ok50))))) (nodeF (nodeF (nodeF (leafF ok51) (leafF ok52)) (nodeF (leafF ok53) (nodeF (leafF ok54) (leafF ok55)))) (nodeF (nodeF (leafF ok56) (leafF ok57)) (nodeF (leafF ok58) (nodeF (leafF ok70) (leafF ok71))))))) (nodeF (nodeF (nodeF (nodeF (nodeF (leafF ok72) (leafF ok76)) (nodeF (leafF ok77) (leafF ok78))) (nodeF (nodeF (leafF ok79) (leafF ok80)) (nodeF (leafF ok81) (nodeF (leafF ok82) (leafF ok83))))) (nodeF (nodeF (nodeF (leafF ok84) (leafF ok85)) (nodeF (leafF ok86) (nodeF (leafF ok87) (leafF ok102)))) (nodeF (nodeF (leafF ok123) (leafF ok124)) (nodeF (leafF ok125) (nodeF (leafF ok126) (leafF ok127)))))) (nodeF (nodeF (nodeF (nodeF (leafF ok156) (leafF ok157)) (nodeF (leafF ok159) (leafF ok160))) (nodeF (nodeF (leafF ok177) (leafF ok178)) (nodeF (leafF ok182) (nodeF (leafF ok205) (leafF ok216))))) (nodeF (nodeF (nodeF (leafF ok217) (leafF ok218)) (nodeF (leafF ok219) (nodeF (leafF ok231) (leafF ok239)))) (nodeF (nodeF (leafF ok240) (leafF ok250)) (nodeF (leafF ok252) (nodeF (leafF ok265) (leafF ok266))))))))
end Go.PV
