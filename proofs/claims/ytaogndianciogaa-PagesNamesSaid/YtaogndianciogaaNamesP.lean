/- The closed numbers of PagesNames. -/
import Derived.Test.YtaogndianciogaaBuildB
namespace Go.Proofs.Ytaogndianciogaa.Mm
open Go.RowKit
set_option linter.unusedVariables false
def oneLf : Lf := ⟨12288, 32768, 1, false, true, false⟩
def oneF : List Int := (childF 65536 (childF 65536 (List.replicate 512 0) 1 0 0) 2 1 0).set (2 * 512 + 3) (leafW 32768 oneLf 2)
set_option maxRecDepth 100000 in
theorem kid1 : kidW 65536 1 = 69633 := by kernel_rfl
set_option maxRecDepth 100000 in
theorem kid2 : kidW 65536 2 = 73729 := by kernel_rfl
set_option maxRecDepth 100000 in
theorem leaf1 : leafW 32768 oneLf 2 = 32771 := by kernel_rfl
set_option maxRecDepth 100000 in
theorem one_tables : tablesP 65536 [oneLf] = .ok ⟨3, oneF, 1, 2, 12288⟩ := by kernel_rfl
set_option maxRecDepth 100000 in
theorem one_count : (match buildP 0 [oneLf] with | .ok s => s.m | .error _ => 0) = 3 := by kernel_rfl
set_option maxRecDepth 100000 in
theorem none_tables : tablesP 4096 [] = .ok startP := by kernel_rfl
set_option maxRecDepth 100000 in
theorem oneF_length : oneF.length = 1536 := by kernel_rfl
set_option maxRecDepth 100000 in
theorem oneF_0 : oneF[0]? = some 69633 := by kernel_rfl
set_option maxRecDepth 100000 in
theorem oneF_512 : oneF[512]? = some 73729 := by kernel_rfl
set_option maxRecDepth 100000 in
theorem oneF_1027 : oneF[1027]? = some 32771 := by kernel_rfl
set_option maxRecDepth 100000 in
theorem oneF_1024 : oneF[1024]? = some 0 := by kernel_rfl
end Go.Proofs.Ytaogndianciogaa.Mm
