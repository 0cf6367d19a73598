/- The functions of the abstract machine are those of the program. By a program of this session. No condition. -/
import Derived.Test.YtncdbpobpkmliaaGreatCdCode
import Derived.Test.YtncdbpobpkmliaaGreatAvRun
import Derived.Test.YtncdbpobpkmliaaGreatProg
import Derived.KernelRfl
namespace Go.Av
open Go

def fmCd : Nat → Nat := fun g => ([11, 0, 0, 0, 5, 15, 16, 54, 61, 42, 72, 51, 31, 37, 36, 35, 55, 62, 90, 30, 73, 56, 74, 75, 76, 77, 57, 34, 53, 52, 43, 84, 94, 97, 85, 96, 86, 78, 91, 92, 93, 79, 63, 48, 80, 82, 32, 67, 66, 95, 81, 64, 98, 83, 65, 0, 47, 0, 22, 13, 0, 60, 25, 59, 58, 40, 39, 26, 0, 46, 0, 0, 9, 0, 0, 0, 0, 0, 0, 17, 0, 0, 0, 38, 20, 41, 24, 0, 0, 0, 0, 0, 0, 0, 0, 0, 0, 0, 0, 0, 0, 0, 0, 0, 0, 0, 0, 0, 0, 0, 0, 0, 19, 44, 45, 27, 12, 0, 33, 18, 7, 28, 49, 68, 69, 70, 104, 99, 87, 101, 105, 100, 117, 107, 123, 114, 108, 118, 109, 119, 120, 110, 124, 122, 121, 111, 112, 113, 115, 116, 106, 102, 103, 88, 89, 71, 50, 29, 14, 6, 0, 23, 0, 21, 8, 3, 10, 4] : List Nat).getD g 0
theorem tie0 : chkF Go.Proofs.Tryz.prog fmCd Go.Proofs.Tryz.f11 fn0 = true := by kernel_rfl
theorem tie4 : chkF Go.Proofs.Tryz.prog fmCd Go.Proofs.Tryz.f5 fn4 = true := by kernel_rfl
theorem tie58 : chkF Go.Proofs.Tryz.prog fmCd Go.Proofs.Tryz.f22 fn58 = true := by kernel_rfl
theorem tie59 : chkF Go.Proofs.Tryz.prog fmCd Go.Proofs.Tryz.f13 fn59 = true := by kernel_rfl
theorem tie112 : chkF Go.Proofs.Tryz.prog fmCd Go.Proofs.Tryz.f19 fn112 = true := by kernel_rfl
theorem tie7 : chkF Go.Proofs.Tryz.prog fmCd Go.Proofs.Tryz.f54 fn7 = true := by kernel_rfl
theorem tie8 : chkF Go.Proofs.Tryz.prog fmCd Go.Proofs.Tryz.f61 fn8 = true := by kernel_rfl
theorem tie9 : chkF Go.Proofs.Tryz.prog fmCd Go.Proofs.Tryz.f42 fn9 = true := by kernel_rfl
theorem tie19 : chkF Go.Proofs.Tryz.prog fmCd Go.Proofs.Tryz.f30 fn19 = true := by kernel_rfl
theorem tie13 : chkF Go.Proofs.Tryz.prog fmCd Go.Proofs.Tryz.f37 fn13 = true := by kernel_rfl
theorem tie30 : chkF Go.Proofs.Tryz.prog fmCd Go.Proofs.Tryz.f43 fn30 = true := by kernel_rfl
theorem tie113 : chkF Go.Proofs.Tryz.prog fmCd Go.Proofs.Tryz.f44 fn113 = true := by kernel_rfl
theorem tie16 : chkF Go.Proofs.Tryz.prog fmCd Go.Proofs.Tryz.f55 fn16 = true := by kernel_rfl
theorem tie21 : chkF Go.Proofs.Tryz.prog fmCd Go.Proofs.Tryz.f56 fn21 = true := by kernel_rfl
theorem tie22 : chkF Go.Proofs.Tryz.prog fmCd Go.Proofs.Tryz.f74 fn22 = true := by kernel_rfl
theorem tie23 : chkF Go.Proofs.Tryz.prog fmCd Go.Proofs.Tryz.f75 fn23 = true := by kernel_rfl
theorem tie24 : chkF Go.Proofs.Tryz.prog fmCd Go.Proofs.Tryz.f76 fn24 = true := by kernel_rfl
theorem tie25 : chkF Go.Proofs.Tryz.prog fmCd Go.Proofs.Tryz.f77 fn25 = true := by kernel_rfl
theorem tie26 : chkF Go.Proofs.Tryz.prog fmCd Go.Proofs.Tryz.f57 fn26 = true := by kernel_rfl
theorem tie27 : chkF Go.Proofs.Tryz.prog fmCd Go.Proofs.Tryz.f34 fn27 = true := by kernel_rfl
theorem tie14 : chkF Go.Proofs.Tryz.prog fmCd Go.Proofs.Tryz.f36 fn14 = true := by kernel_rfl
theorem tie17 : chkF Go.Proofs.Tryz.prog fmCd Go.Proofs.Tryz.f62 fn17 = true := by kernel_rfl
theorem tie114 : chkF Go.Proofs.Tryz.prog fmCd Go.Proofs.Tryz.f45 fn114 = true := by kernel_rfl
theorem tie115 : chkF Go.Proofs.Tryz.prog fmCd Go.Proofs.Tryz.f27 fn115 = true := by kernel_rfl
theorem tie116 : chkF Go.Proofs.Tryz.prog fmCd Go.Proofs.Tryz.f12 fn116 = true := by kernel_rfl
theorem tie61 : chkF Go.Proofs.Tryz.prog fmCd Go.Proofs.Tryz.f60 fn61 = true := by kernel_rfl
theorem tie62 : chkF Go.Proofs.Tryz.prog fmCd Go.Proofs.Tryz.f25 fn62 = true := by kernel_rfl
theorem tie63 : chkF Go.Proofs.Tryz.prog fmCd Go.Proofs.Tryz.f59 fn63 = true := by kernel_rfl
theorem tie64 : chkF Go.Proofs.Tryz.prog fmCd Go.Proofs.Tryz.f58 fn64 = true := by kernel_rfl
theorem tie65 : chkF Go.Proofs.Tryz.prog fmCd Go.Proofs.Tryz.f40 fn65 = true := by kernel_rfl
theorem tie66 : chkF Go.Proofs.Tryz.prog fmCd Go.Proofs.Tryz.f39 fn66 = true := by kernel_rfl
theorem tie67 : chkF Go.Proofs.Tryz.prog fmCd Go.Proofs.Tryz.f26 fn67 = true := by kernel_rfl
theorem tie72 : chkF Go.Proofs.Tryz.prog fmCd Go.Proofs.Tryz.f9 fn72 = true := by kernel_rfl
theorem tie10 : chkF Go.Proofs.Tryz.prog fmCd Go.Proofs.Tryz.f72 fn10 = true := by kernel_rfl
theorem tie11 : chkF Go.Proofs.Tryz.prog fmCd Go.Proofs.Tryz.f51 fn11 = true := by kernel_rfl
theorem tie12 : chkF Go.Proofs.Tryz.prog fmCd Go.Proofs.Tryz.f31 fn12 = true := by kernel_rfl
theorem tie18 : chkF Go.Proofs.Tryz.prog fmCd Go.Proofs.Tryz.f90 fn18 = true := by kernel_rfl
theorem tie20 : chkF Go.Proofs.Tryz.prog fmCd Go.Proofs.Tryz.f73 fn20 = true := by kernel_rfl
theorem tie28 : chkF Go.Proofs.Tryz.prog fmCd Go.Proofs.Tryz.f53 fn28 = true := by kernel_rfl
theorem tie29 : chkF Go.Proofs.Tryz.prog fmCd Go.Proofs.Tryz.f52 fn29 = true := by kernel_rfl
theorem tie46 : chkF Go.Proofs.Tryz.prog fmCd Go.Proofs.Tryz.f32 fn46 = true := by kernel_rfl
theorem tie118 : chkF Go.Proofs.Tryz.prog fmCd Go.Proofs.Tryz.f33 fn118 = true := by kernel_rfl
theorem tie15 : chkF Go.Proofs.Tryz.prog fmCd Go.Proofs.Tryz.f35 fn15 = true := by kernel_rfl
theorem tie119 : chkF Go.Proofs.Tryz.prog fmCd Go.Proofs.Tryz.f18 fn119 = true := by kernel_rfl
theorem tie120 : chkF Go.Proofs.Tryz.prog fmCd Go.Proofs.Tryz.f7 fn120 = true := by kernel_rfl
theorem tie5 : chkF Go.Proofs.Tryz.prog fmCd Go.Proofs.Tryz.f15 fn5 = true := by kernel_rfl
theorem tie6 : chkF Go.Proofs.Tryz.prog fmCd Go.Proofs.Tryz.f16 fn6 = true := by kernel_rfl
theorem tie31 : chkF Go.Proofs.Tryz.prog fmCd Go.Proofs.Tryz.f84 fn31 = true := by kernel_rfl
theorem tie32 : chkF Go.Proofs.Tryz.prog fmCd Go.Proofs.Tryz.f94 fn32 = true := by kernel_rfl
theorem tie33 : chkF Go.Proofs.Tryz.prog fmCd Go.Proofs.Tryz.f97 fn33 = true := by kernel_rfl
theorem tie34 : chkF Go.Proofs.Tryz.prog fmCd Go.Proofs.Tryz.f85 fn34 = true := by kernel_rfl
theorem tie35 : chkF Go.Proofs.Tryz.prog fmCd Go.Proofs.Tryz.f96 fn35 = true := by kernel_rfl
theorem tie36 : chkF Go.Proofs.Tryz.prog fmCd Go.Proofs.Tryz.f86 fn36 = true := by kernel_rfl
theorem tie37 : chkF Go.Proofs.Tryz.prog fmCd Go.Proofs.Tryz.f78 fn37 = true := by kernel_rfl
theorem tie38 : chkF Go.Proofs.Tryz.prog fmCd Go.Proofs.Tryz.f91 fn38 = true := by kernel_rfl
theorem tie39 : chkF Go.Proofs.Tryz.prog fmCd Go.Proofs.Tryz.f92 fn39 = true := by kernel_rfl
theorem tie40 : chkF Go.Proofs.Tryz.prog fmCd Go.Proofs.Tryz.f93 fn40 = true := by kernel_rfl
theorem tie41 : chkF Go.Proofs.Tryz.prog fmCd Go.Proofs.Tryz.f79 fn41 = true := by kernel_rfl
theorem tie42 : chkF Go.Proofs.Tryz.prog fmCd Go.Proofs.Tryz.f63 fn42 = true := by kernel_rfl
theorem tie43 : chkF Go.Proofs.Tryz.prog fmCd Go.Proofs.Tryz.f48 fn43 = true := by kernel_rfl
theorem tie44 : chkF Go.Proofs.Tryz.prog fmCd Go.Proofs.Tryz.f80 fn44 = true := by kernel_rfl
theorem tie45 : chkF Go.Proofs.Tryz.prog fmCd Go.Proofs.Tryz.f82 fn45 = true := by kernel_rfl
theorem tie47 : chkF Go.Proofs.Tryz.prog fmCd Go.Proofs.Tryz.f67 fn47 = true := by kernel_rfl
theorem tie48 : chkF Go.Proofs.Tryz.prog fmCd Go.Proofs.Tryz.f66 fn48 = true := by kernel_rfl
theorem tie49 : chkF Go.Proofs.Tryz.prog fmCd Go.Proofs.Tryz.f95 fn49 = true := by kernel_rfl
theorem tie50 : chkF Go.Proofs.Tryz.prog fmCd Go.Proofs.Tryz.f81 fn50 = true := by kernel_rfl
theorem tie51 : chkF Go.Proofs.Tryz.prog fmCd Go.Proofs.Tryz.f64 fn51 = true := by kernel_rfl
theorem tie69 : chkF Go.Proofs.Tryz.prog fmCd Go.Proofs.Tryz.f46 fn69 = true := by kernel_rfl
theorem tie56 : chkF Go.Proofs.Tryz.prog fmCd Go.Proofs.Tryz.f47 fn56 = true := by kernel_rfl
theorem tie121 : chkF Go.Proofs.Tryz.prog fmCd Go.Proofs.Tryz.f28 fn121 = true := by kernel_rfl
theorem tie52 : chkF Go.Proofs.Tryz.prog fmCd Go.Proofs.Tryz.f98 fn52 = true := by kernel_rfl
theorem tie53 : chkF Go.Proofs.Tryz.prog fmCd Go.Proofs.Tryz.f83 fn53 = true := by kernel_rfl
theorem tie54 : chkF Go.Proofs.Tryz.prog fmCd Go.Proofs.Tryz.f65 fn54 = true := by kernel_rfl
theorem tie122 : chkF Go.Proofs.Tryz.prog fmCd Go.Proofs.Tryz.f49 fn122 = true := by kernel_rfl
theorem tie123 : chkF Go.Proofs.Tryz.prog fmCd Go.Proofs.Tryz.f68 fn123 = true := by kernel_rfl
theorem tie124 : chkF Go.Proofs.Tryz.prog fmCd Go.Proofs.Tryz.f69 fn124 = true := by kernel_rfl
theorem tie125 : chkF Go.Proofs.Tryz.prog fmCd Go.Proofs.Tryz.f70 fn125 = true := by kernel_rfl
theorem tie126 : chkF Go.Proofs.Tryz.prog fmCd Go.Proofs.Tryz.f104 fn126 = true := by kernel_rfl
theorem tie127 : chkF Go.Proofs.Tryz.prog fmCd Go.Proofs.Tryz.f99 fn127 = true := by kernel_rfl
theorem tie128 : chkF Go.Proofs.Tryz.prog fmCd Go.Proofs.Tryz.f87 fn128 = true := by kernel_rfl
theorem tie129 : chkF Go.Proofs.Tryz.prog fmCd Go.Proofs.Tryz.f101 fn129 = true := by kernel_rfl
theorem tie130 : chkF Go.Proofs.Tryz.prog fmCd Go.Proofs.Tryz.f105 fn130 = true := by kernel_rfl
theorem tie131 : chkF Go.Proofs.Tryz.prog fmCd Go.Proofs.Tryz.f100 fn131 = true := by kernel_rfl
theorem tie132 : chkF Go.Proofs.Tryz.prog fmCd Go.Proofs.Tryz.f117 fn132 = true := by kernel_rfl
theorem tie133 : chkF Go.Proofs.Tryz.prog fmCd Go.Proofs.Tryz.f107 fn133 = true := by kernel_rfl
theorem tie134 : chkF Go.Proofs.Tryz.prog fmCd Go.Proofs.Tryz.f123 fn134 = true := by kernel_rfl
theorem tie135 : chkF Go.Proofs.Tryz.prog fmCd Go.Proofs.Tryz.f114 fn135 = true := by kernel_rfl
theorem tie136 : chkF Go.Proofs.Tryz.prog fmCd Go.Proofs.Tryz.f108 fn136 = true := by kernel_rfl
theorem tie150 : chkF Go.Proofs.Tryz.prog fmCd Go.Proofs.Tryz.f106 fn150 = true := by kernel_rfl
theorem tie151 : chkF Go.Proofs.Tryz.prog fmCd Go.Proofs.Tryz.f102 fn151 = true := by kernel_rfl
theorem tie152 : chkF Go.Proofs.Tryz.prog fmCd Go.Proofs.Tryz.f103 fn152 = true := by kernel_rfl
theorem tie153 : chkF Go.Proofs.Tryz.prog fmCd Go.Proofs.Tryz.f88 fn153 = true := by kernel_rfl
theorem tie154 : chkF Go.Proofs.Tryz.prog fmCd Go.Proofs.Tryz.f89 fn154 = true := by kernel_rfl
theorem tie155 : chkF Go.Proofs.Tryz.prog fmCd Go.Proofs.Tryz.f71 fn155 = true := by kernel_rfl
theorem tie156 : chkF Go.Proofs.Tryz.prog fmCd Go.Proofs.Tryz.f50 fn156 = true := by kernel_rfl
theorem tie157 : chkF Go.Proofs.Tryz.prog fmCd Go.Proofs.Tryz.f29 fn157 = true := by kernel_rfl
theorem tie158 : chkF Go.Proofs.Tryz.prog fmCd Go.Proofs.Tryz.f14 fn158 = true := by kernel_rfl
theorem tie79 : chkF Go.Proofs.Tryz.prog fmCd Go.Proofs.Tryz.f17 fn79 = true := by kernel_rfl
theorem tie159 : chkF Go.Proofs.Tryz.prog fmCd Go.Proofs.Tryz.f6 fn159 = true := by kernel_rfl
theorem tie83 : chkF Go.Proofs.Tryz.prog fmCd Go.Proofs.Tryz.f38 fn83 = true := by kernel_rfl
theorem tie84 : chkF Go.Proofs.Tryz.prog fmCd Go.Proofs.Tryz.f20 fn84 = true := by kernel_rfl
theorem tie85 : chkF Go.Proofs.Tryz.prog fmCd Go.Proofs.Tryz.f41 fn85 = true := by kernel_rfl
theorem tie86 : chkF Go.Proofs.Tryz.prog fmCd Go.Proofs.Tryz.f24 fn86 = true := by kernel_rfl
theorem tie163 : chkF Go.Proofs.Tryz.prog fmCd Go.Proofs.Tryz.f21 fn163 = true := by kernel_rfl
theorem tie161 : chkF Go.Proofs.Tryz.prog fmCd Go.Proofs.Tryz.f23 fn161 = true := by kernel_rfl
theorem tie164 : chkF Go.Proofs.Tryz.prog fmCd Go.Proofs.Tryz.f8 fn164 = true := by kernel_rfl
theorem tie165 : chkF Go.Proofs.Tryz.prog fmCd Go.Proofs.Tryz.f3 fn165 = true := by kernel_rfl
theorem tie166 : chkF Go.Proofs.Tryz.prog fmCd Go.Proofs.Tryz.f10 fn166 = true := by kernel_rfl
theorem tie167 : chkF Go.Proofs.Tryz.prog fmCd Go.Proofs.Tryz.f4 fn167 = true := by kernel_rfl
theorem envOKCd : EnvOK Go.Proofs.Tryz.prog fmCd env := by
  intro g f h
  unfold env at h
  split at h
  · cases h; exact ⟨_, Go.Proofs.Tryz.func11, tie0⟩
  · cases h; exact ⟨_, Go.Proofs.Tryz.func5, tie4⟩
  · cases h; exact ⟨_, Go.Proofs.Tryz.func22, tie58⟩
  · cases h; exact ⟨_, Go.Proofs.Tryz.func13, tie59⟩
  · cases h; exact ⟨_, Go.Proofs.Tryz.func19, tie112⟩
  · cases h; exact ⟨_, Go.Proofs.Tryz.func54, tie7⟩
  · cases h; exact ⟨_, Go.Proofs.Tryz.func61, tie8⟩
  · cases h; exact ⟨_, Go.Proofs.Tryz.func42, tie9⟩
  · cases h; exact ⟨_, Go.Proofs.Tryz.func30, tie19⟩
  · cases h; exact ⟨_, Go.Proofs.Tryz.func37, tie13⟩
  · cases h; exact ⟨_, Go.Proofs.Tryz.func43, tie30⟩
  · cases h; exact ⟨_, Go.Proofs.Tryz.func44, tie113⟩
  · cases h; exact ⟨_, Go.Proofs.Tryz.func55, tie16⟩
  · cases h; exact ⟨_, Go.Proofs.Tryz.func56, tie21⟩
  · cases h; exact ⟨_, Go.Proofs.Tryz.func74, tie22⟩
  · cases h; exact ⟨_, Go.Proofs.Tryz.func75, tie23⟩
  · cases h; exact ⟨_, Go.Proofs.Tryz.func76, tie24⟩
  · cases h; exact ⟨_, Go.Proofs.Tryz.func77, tie25⟩
  · cases h; exact ⟨_, Go.Proofs.Tryz.func57, tie26⟩
  · cases h; exact ⟨_, Go.Proofs.Tryz.func34, tie27⟩
  · cases h; exact ⟨_, Go.Proofs.Tryz.func36, tie14⟩
  · cases h; exact ⟨_, Go.Proofs.Tryz.func62, tie17⟩
  · cases h; exact ⟨_, Go.Proofs.Tryz.func45, tie114⟩
  · cases h; exact ⟨_, Go.Proofs.Tryz.func27, tie115⟩
  · cases h; exact ⟨_, Go.Proofs.Tryz.func12, tie116⟩
  · cases h; exact ⟨_, Go.Proofs.Tryz.func60, tie61⟩
  · cases h; exact ⟨_, Go.Proofs.Tryz.func25, tie62⟩
  · cases h; exact ⟨_, Go.Proofs.Tryz.func59, tie63⟩
  · cases h; exact ⟨_, Go.Proofs.Tryz.func58, tie64⟩
  · cases h; exact ⟨_, Go.Proofs.Tryz.func40, tie65⟩
  · cases h; exact ⟨_, Go.Proofs.Tryz.func39, tie66⟩
  · cases h; exact ⟨_, Go.Proofs.Tryz.func26, tie67⟩
  · cases h; exact ⟨_, Go.Proofs.Tryz.func9, tie72⟩
  · cases h; exact ⟨_, Go.Proofs.Tryz.func72, tie10⟩
  · cases h; exact ⟨_, Go.Proofs.Tryz.func51, tie11⟩
  · cases h; exact ⟨_, Go.Proofs.Tryz.func31, tie12⟩
  · cases h; exact ⟨_, Go.Proofs.Tryz.func90, tie18⟩
  · cases h; exact ⟨_, Go.Proofs.Tryz.func73, tie20⟩
  · cases h; exact ⟨_, Go.Proofs.Tryz.func53, tie28⟩
  · cases h; exact ⟨_, Go.Proofs.Tryz.func52, tie29⟩
  · cases h; exact ⟨_, Go.Proofs.Tryz.func32, tie46⟩
  · cases h; exact ⟨_, Go.Proofs.Tryz.func33, tie118⟩
  · cases h; exact ⟨_, Go.Proofs.Tryz.func35, tie15⟩
  · cases h; exact ⟨_, Go.Proofs.Tryz.func18, tie119⟩
  · cases h; exact ⟨_, Go.Proofs.Tryz.func7, tie120⟩
  · cases h; exact ⟨_, Go.Proofs.Tryz.func15, tie5⟩
  · cases h; exact ⟨_, Go.Proofs.Tryz.func16, tie6⟩
  · cases h; exact ⟨_, Go.Proofs.Tryz.func84, tie31⟩
  · cases h; exact ⟨_, Go.Proofs.Tryz.func94, tie32⟩
  · cases h; exact ⟨_, Go.Proofs.Tryz.func97, tie33⟩
  · cases h; exact ⟨_, Go.Proofs.Tryz.func85, tie34⟩
  · cases h; exact ⟨_, Go.Proofs.Tryz.func96, tie35⟩
  · cases h; exact ⟨_, Go.Proofs.Tryz.func86, tie36⟩
  · cases h; exact ⟨_, Go.Proofs.Tryz.func78, tie37⟩
  · cases h; exact ⟨_, Go.Proofs.Tryz.func91, tie38⟩
  · cases h; exact ⟨_, Go.Proofs.Tryz.func92, tie39⟩
  · cases h; exact ⟨_, Go.Proofs.Tryz.func93, tie40⟩
  · cases h; exact ⟨_, Go.Proofs.Tryz.func79, tie41⟩
  · cases h; exact ⟨_, Go.Proofs.Tryz.func63, tie42⟩
  · cases h; exact ⟨_, Go.Proofs.Tryz.func48, tie43⟩
  · cases h; exact ⟨_, Go.Proofs.Tryz.func80, tie44⟩
  · cases h; exact ⟨_, Go.Proofs.Tryz.func82, tie45⟩
  · cases h; exact ⟨_, Go.Proofs.Tryz.func67, tie47⟩
  · cases h; exact ⟨_, Go.Proofs.Tryz.func66, tie48⟩
  · cases h; exact ⟨_, Go.Proofs.Tryz.func95, tie49⟩
  · cases h; exact ⟨_, Go.Proofs.Tryz.func81, tie50⟩
  · cases h; exact ⟨_, Go.Proofs.Tryz.func64, tie51⟩
  · cases h; exact ⟨_, Go.Proofs.Tryz.func46, tie69⟩
  · cases h; exact ⟨_, Go.Proofs.Tryz.func47, tie56⟩
  · cases h; exact ⟨_, Go.Proofs.Tryz.func28, tie121⟩
  · cases h; exact ⟨_, Go.Proofs.Tryz.func98, tie52⟩
  · cases h; exact ⟨_, Go.Proofs.Tryz.func83, tie53⟩
  · cases h; exact ⟨_, Go.Proofs.Tryz.func65, tie54⟩
  · cases h; exact ⟨_, Go.Proofs.Tryz.func49, tie122⟩
  · cases h; exact ⟨_, Go.Proofs.Tryz.func68, tie123⟩
  · cases h; exact ⟨_, Go.Proofs.Tryz.func69, tie124⟩
  · cases h; exact ⟨_, Go.Proofs.Tryz.func70, tie125⟩
  · cases h; exact ⟨_, Go.Proofs.Tryz.func104, tie126⟩
  · cases h; exact ⟨_, Go.Proofs.Tryz.func99, tie127⟩
  · cases h; exact ⟨_, Go.Proofs.Tryz.func87, tie128⟩
  · cases h; exact ⟨_, Go.Proofs.Tryz.func101, tie129⟩
  · cases h; exact ⟨_, Go.Proofs.Tryz.func105, tie130⟩
  · cases h; exact ⟨_, Go.Proofs.Tryz.func100, tie131⟩
  · cases h; exact ⟨_, Go.Proofs.Tryz.func117, tie132⟩
  · cases h; exact ⟨_, Go.Proofs.Tryz.func107, tie133⟩
  · cases h; exact ⟨_, Go.Proofs.Tryz.func123, tie134⟩
  · cases h; exact ⟨_, Go.Proofs.Tryz.func114, tie135⟩
  · cases h; exact ⟨_, Go.Proofs.Tryz.func108, tie136⟩
  · cases h; exact ⟨_, Go.Proofs.Tryz.func106, tie150⟩
  · cases h; exact ⟨_, Go.Proofs.Tryz.func102, tie151⟩
  · cases h; exact ⟨_, Go.Proofs.Tryz.func103, tie152⟩
  · cases h; exact ⟨_, Go.Proofs.Tryz.func88, tie153⟩
  · cases h; exact ⟨_, Go.Proofs.Tryz.func89, tie154⟩
  · cases h; exact ⟨_, Go.Proofs.Tryz.func71, tie155⟩
  · cases h; exact ⟨_, Go.Proofs.Tryz.func50, tie156⟩
  · cases h; exact ⟨_, Go.Proofs.Tryz.func29, tie157⟩
  · cases h; exact ⟨_, Go.Proofs.Tryz.func14, tie158⟩
  · cases h; exact ⟨_, Go.Proofs.Tryz.func17, tie79⟩
  · cases h; exact ⟨_, Go.Proofs.Tryz.func6, tie159⟩
  · cases h; exact ⟨_, Go.Proofs.Tryz.func38, tie83⟩
  · cases h; exact ⟨_, Go.Proofs.Tryz.func20, tie84⟩
  · cases h; exact ⟨_, Go.Proofs.Tryz.func41, tie85⟩
  · cases h; exact ⟨_, Go.Proofs.Tryz.func24, tie86⟩
  · cases h; exact ⟨_, Go.Proofs.Tryz.func21, tie163⟩
  · cases h; exact ⟨_, Go.Proofs.Tryz.func23, tie161⟩
  · cases h; exact ⟨_, Go.Proofs.Tryz.func8, tie164⟩
  · cases h; exact ⟨_, Go.Proofs.Tryz.func3, tie165⟩
  · cases h; exact ⟨_, Go.Proofs.Tryz.func10, tie166⟩
  · cases h; exact ⟨_, Go.Proofs.Tryz.func4, tie167⟩
  · cases h
end Go.Av
