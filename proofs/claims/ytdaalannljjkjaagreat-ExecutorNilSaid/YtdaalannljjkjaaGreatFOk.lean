/- Each function of the table is the program's, by computation. -/
import Derived.Test.YtdaalannljjkjaaGreatChkf
import Derived.Test.YtdaalannljjkjaaGreatFTab
import Derived.KernelRfl
import Derived.Test.YtdaalannljjkjaaGreatProg
set_option maxRecDepth 100000
namespace Go.PV
noncomputable abbrev pP : Program := Go.Proofs.Tryz.prog
theorem ok5 : chkAll pP 5 c5 = true := by kernel_rfl
theorem ok15 : chkAll pP 15 c15 = true := by kernel_rfl
theorem ok16 : chkAll pP 16 c16 = true := by kernel_rfl
theorem ok17 : chkAll pP 17 c17 = true := by kernel_rfl
theorem ok18 : chkAll pP 18 c18 = true := by kernel_rfl
theorem ok19 : chkAll pP 19 c19 = true := by kernel_rfl
theorem ok20 : chkAll pP 20 c20 = true := by kernel_rfl
theorem ok21 : chkAll pP 21 c21 = true := by kernel_rfl
theorem ok22 : chkAll pP 22 c22 = true := by kernel_rfl
theorem ok25 : chkAll pP 25 c25 = true := by kernel_rfl
theorem ok34 : chkAll pP 34 c34 = true := by kernel_rfl
theorem ok35 : chkAll pP 35 c35 = true := by kernel_rfl
theorem ok36 : chkAll pP 36 c36 = true := by kernel_rfl
theorem ok37 : chkAll pP 37 c37 = true := by kernel_rfl
theorem ok38 : chkAll pP 38 c38 = true := by kernel_rfl
theorem ok39 : chkAll pP 39 c39 = true := by kernel_rfl
theorem ok40 : chkAll pP 40 c40 = true := by kernel_rfl
theorem ok41 : chkAll pP 41 c41 = true := by kernel_rfl
theorem ok42 : chkAll pP 42 c42 = true := by kernel_rfl
theorem ok43 : chkAll pP 43 c43 = true := by kernel_rfl
theorem ok44 : chkAll pP 44 c44 = true := by kernel_rfl
theorem ok45 : chkAll pP 45 c45 = true := by kernel_rfl
theorem ok46 : chkAll pP 46 c46 = true := by kernel_rfl
theorem ok47 : chkAll pP 47 c47 = true := by kernel_rfl
theorem ok50 : chkAll pP 50 c50 = true := by kernel_rfl
theorem ok58 : chkAll pP 58 c58 = true := by kernel_rfl
theorem ok65 : chkAll pP 65 c65 = true := by kernel_rfl
theorem ok66 : chkAll pP 66 c66 = true := by kernel_rfl
theorem ok67 : chkAll pP 67 c67 = true := by kernel_rfl
theorem ok68 : chkAll pP 68 c68 = true := by kernel_rfl
theorem ok69 : chkAll pP 69 c69 = true := by kernel_rfl
theorem ok70 : chkAll pP 70 c70 = true := by kernel_rfl
theorem ok71 : chkAll pP 71 c71 = true := by kernel_rfl
theorem ok72 : chkAll pP 72 c72 = true := by kernel_rfl
theorem ok76 : chkAll pP 76 c76 = true := by kernel_rfl
theorem ok77 : chkAll pP 77 c77 = true := by kernel_rfl
theorem ok78 : chkAll pP 78 c78 = true := by kernel_rfl
theorem ok79 : chkAll pP 79 c79 = true := by kernel_rfl
theorem ok80 : chkAll pP 80 c80 = true := by kernel_rfl
theorem ok81 : chkAll pP 81 c81 = true := by kernel_rfl
theorem ok102 : chkAll pP 102 c102 = true := by kernel_rfl
theorem ok106 : chkAll pP 106 c106 = true := by kernel_rfl
theorem ok107 : chkAll pP 107 c107 = true := by kernel_rfl
theorem ok108 : chkAll pP 108 c108 = true := by kernel_rfl
theorem ok109 : chkAll pP 109 c109 = true := by kernel_rfl
theorem ok110 : chkAll pP 110 c110 = true := by kernel_rfl
theorem ok123 : chkAll pP 123 c123 = true := by kernel_rfl
theorem ok124 : chkAll pP 124 c124 = true := by kernel_rfl
theorem ok141 : chkAll pP 141 c141 = true := by kernel_rfl
theorem ok142 : chkAll pP 142 c142 = true := by kernel_rfl
theorem ok143 : chkAll pP 143 c143 = true := by kernel_rfl
theorem ok156 : chkAll pP 156 c156 = true := by kernel_rfl
theorem ok157 : chkAll pP 157 c157 = true := by kernel_rfl
theorem ok159 : chkAll pP 159 c159 = true := by kernel_rfl
theorem ok160 : chkAll pP 160 c160 = true := by kernel_rfl
theorem ok162 : chkAll pP 162 c162 = true := by kernel_rfl
theorem ok163 : chkAll pP 163 c163 = true := by kernel_rfl
theorem ok177 : chkAll pP 177 c177 = true := by kernel_rfl
theorem ok178 : chkAll pP 178 c178 = true := by kernel_rfl
theorem ok182 : chkAll pP 182 c182 = true := by kernel_rfl
theorem ok189 : chkAll pP 189 c189 = true := by kernel_rfl
theorem ok190 : chkAll pP 190 c190 = true := by kernel_rfl
theorem ok192 : chkAll pP 192 c192 = true := by kernel_rfl
theorem ok205 : chkAll pP 205 c205 = true := by kernel_rfl
theorem ok216 : chkAll pP 216 c216 = true := by kernel_rfl
theorem ok217 : chkAll pP 217 c217 = true := by kernel_rfl
theorem ok218 : chkAll pP 218 c218 = true := by kernel_rfl
theorem ok219 : chkAll pP 219 c219 = true := by kernel_rfl
theorem ok225 : chkAll pP 225 c225 = true := by kernel_rfl
theorem ok231 : chkAll pP 231 c231 = true := by kernel_rfl
theorem ok239 : chkAll pP 239 c239 = true := by kernel_rfl
theorem ok240 : chkAll pP 240 c240 = true := by kernel_rfl
theorem ok250 : chkAll pP 250 c250 = true := by kernel_rfl
theorem ok252 : chkAll pP 252 c252 = true := by kernel_rfl
theorem ok265 : chkAll pP 265 c265 = true := by kernel_rfl
theorem ok266 : chkAll pP 266 c266 = true := by kernel_rfl
theorem F_ok : ∀ f A, F f = some A → chkAll pP f A = true := by
  intro f A h
  unfold F at h
  revert h
  exact (nodeF (nodeF (nodeF (nodeF (nodeF (nodeF (leafF ok5) (leafF ok15)) (nodeF (leafF ok16) (leafF ok17))) (nodeF (nodeF (leafF ok18) (leafF ok19)) (nodeF (leafF ok20) (nodeF (leafF ok21) (leafF ok22))))) (nodeF (nodeF (nodeF (leafF ok25) (leafF ok34)) (nodeF (leafF ok35) (nodeF (leafF ok36) (leafF ok37)))) (nodeF (nodeF (leafF ok38) (leafF ok39)) (nodeF (leafF ok40) (nodeF (leafF ok41) (leafF ok42)))))) (nodeF (nodeF (nodeF (nodeF (leafF ok43) (leafF ok44)) (nodeF (leafF ok45) (leafF ok46))) (nodeF (nodeF (leafF ok47) (leafF ok50)) (nodeF (leafF ok58) (nodeF (leafF ok65) (leafF ok66))))) (nodeF (nodeF (nodeF (leafF ok67) (leafF ok68)) (nodeF (leafF ok69) (nodeF (leafF ok70) (leafF ok71)))) (nodeF (nodeF (leafF ok72) (leafF ok76)) (nodeF (leafF ok77) (nodeF (leafF ok78) (leafF ok79))))))) (nodeF (nodeF (nodeF (nodeF (nodeF (leafF ok80) (leafF ok81)) (nodeF (leafF ok102) (leafF ok106))) (nodeF (nodeF (leafF ok107) (leafF ok108)) (nodeF (leafF ok109) (nodeF (leafF ok110) (leafF ok123))))) (nodeF (nodeF (nodeF (leafF ok124) (leafF ok141)) (nodeF (leafF ok142) (nodeF (leafF ok143) (leafF ok156)))) (nodeF (nodeF (leafF ok157) (leafF ok159)) (nodeF (leafF ok160) (nodeF (leafF ok162) (leafF ok163)))))) (nodeF (nodeF (nodeF (nodeF (leafF ok177) (leafF ok178)) (nodeF (leafF ok182) (leafF ok189))) (nodeF (nodeF (leafF ok190) (leafF ok192)) (nodeF (leafF ok205) (nodeF (leafF ok216) (leafF ok217))))) (nodeF (nodeF (nodeF (leafF ok218) (leafF ok219)) (nodeF (leafF ok225) (nodeF (leafF ok231) (leafF ok239)))) (nodeF (nodeF (leafF ok240) (leafF ok250)) (nodeF (leafF ok252) (nodeF (leafF ok265) (leafF ok266))))))))
end Go.PV
