/- The functions of the abstract machine are those of the program. By a program of this session. No condition. -/
import Derived.Test.YthdilnjdkniofaaGreatCdCode
import Derived.Test.YthdilnjdkniofaaGreatAvRun
import Derived.Test.YthdilnjdkniofaaGreatProg
import Derived.KernelRfl
namespace Go.Av
open Go

def fmCd : Nat → Nat := fun g => ([60, 24, 10, 6, 0, 31, 32, 118, 110, 93, 115, 83, 61, 135, 84, 139, 133, 114, 142, 79, 134, 136, 143, 144, 145, 146, 137, 117, 116, 81, 140, 121, 95, 138, 120, 94, 62, 25, 63, 64, 65, 26, 7, 48, 37, 53, 132, 112, 51, 113, 80, 49, 0, 0, 0, 0, 0, 0, 75, 35, 71, 123, 89, 90, 124, 97, 98, 70, 33, 18, 0, 0, 86, 69, 0, 0, 0, 0, 0, 22, 20, 54, 0, 87, 66, 59, 88, 56, 68, 122, 96, 67, 27, 28, 29, 30, 8, 0, 40, 41, 42, 13, 55, 47, 15, 119, 92, 91, 57, 58, 21, 0, 0, 0, 0, 0, 0, 0, 0, 0, 0, 0, 0, 0, 43, 0, 125, 99, 72, 100, 78, 44, 111, 77, 131, 107, 101, 126, 102, 127, 128, 103, 141, 130, 129, 104, 105, 106, 108, 109, 76, 38, 39, 73, 74, 34, 0, 0, 0, 0, 0, 0, 0, 0, 0, 0, 0, 0, 82, 50, 85, 52, 19, 36, 45, 46, 14, 16, 12, 9, 3, 11, 17, 4, 23, 5] : List Nat).getD g 0
theorem tie0 : chkF Go.Proofs.Tryz.prog fmCd Go.Proofs.Tryz.f60 fn0 = true := by kernel_rfl
theorem tie1 : chkF Go.Proofs.Tryz.prog fmCd Go.Proofs.Tryz.f24 fn1 = true := by kernel_rfl
theorem tie2 : chkF Go.Proofs.Tryz.prog fmCd Go.Proofs.Tryz.f10 fn2 = true := by kernel_rfl
theorem tie3 : chkF Go.Proofs.Tryz.prog fmCd Go.Proofs.Tryz.f6 fn3 = true := by kernel_rfl
theorem tie7 : chkF Go.Proofs.Tryz.prog fmCd Go.Proofs.Tryz.f118 fn7 = true := by kernel_rfl
theorem tie8 : chkF Go.Proofs.Tryz.prog fmCd Go.Proofs.Tryz.f110 fn8 = true := by kernel_rfl
theorem tie9 : chkF Go.Proofs.Tryz.prog fmCd Go.Proofs.Tryz.f93 fn9 = true := by kernel_rfl
theorem tie10 : chkF Go.Proofs.Tryz.prog fmCd Go.Proofs.Tryz.f115 fn10 = true := by kernel_rfl
theorem tie11 : chkF Go.Proofs.Tryz.prog fmCd Go.Proofs.Tryz.f83 fn11 = true := by kernel_rfl
theorem tie12 : chkF Go.Proofs.Tryz.prog fmCd Go.Proofs.Tryz.f61 fn12 = true := by kernel_rfl
theorem tie13 : chkF Go.Proofs.Tryz.prog fmCd Go.Proofs.Tryz.f135 fn13 = true := by kernel_rfl
theorem tie14 : chkF Go.Proofs.Tryz.prog fmCd Go.Proofs.Tryz.f84 fn14 = true := by kernel_rfl
theorem tie15 : chkF Go.Proofs.Tryz.prog fmCd Go.Proofs.Tryz.f139 fn15 = true := by kernel_rfl
theorem tie16 : chkF Go.Proofs.Tryz.prog fmCd Go.Proofs.Tryz.f133 fn16 = true := by kernel_rfl
theorem tie17 : chkF Go.Proofs.Tryz.prog fmCd Go.Proofs.Tryz.f114 fn17 = true := by kernel_rfl
theorem tie18 : chkF Go.Proofs.Tryz.prog fmCd Go.Proofs.Tryz.f142 fn18 = true := by kernel_rfl
theorem tie19 : chkF Go.Proofs.Tryz.prog fmCd Go.Proofs.Tryz.f79 fn19 = true := by kernel_rfl
theorem tie20 : chkF Go.Proofs.Tryz.prog fmCd Go.Proofs.Tryz.f134 fn20 = true := by kernel_rfl
theorem tie21 : chkF Go.Proofs.Tryz.prog fmCd Go.Proofs.Tryz.f136 fn21 = true := by kernel_rfl
theorem tie22 : chkF Go.Proofs.Tryz.prog fmCd Go.Proofs.Tryz.f143 fn22 = true := by kernel_rfl
theorem tie23 : chkF Go.Proofs.Tryz.prog fmCd Go.Proofs.Tryz.f144 fn23 = true := by kernel_rfl
theorem tie24 : chkF Go.Proofs.Tryz.prog fmCd Go.Proofs.Tryz.f145 fn24 = true := by kernel_rfl
theorem tie25 : chkF Go.Proofs.Tryz.prog fmCd Go.Proofs.Tryz.f146 fn25 = true := by kernel_rfl
theorem tie26 : chkF Go.Proofs.Tryz.prog fmCd Go.Proofs.Tryz.f137 fn26 = true := by kernel_rfl
theorem tie27 : chkF Go.Proofs.Tryz.prog fmCd Go.Proofs.Tryz.f117 fn27 = true := by kernel_rfl
theorem tie28 : chkF Go.Proofs.Tryz.prog fmCd Go.Proofs.Tryz.f116 fn28 = true := by kernel_rfl
theorem tie29 : chkF Go.Proofs.Tryz.prog fmCd Go.Proofs.Tryz.f81 fn29 = true := by kernel_rfl
theorem tie30 : chkF Go.Proofs.Tryz.prog fmCd Go.Proofs.Tryz.f140 fn30 = true := by kernel_rfl
theorem tie31 : chkF Go.Proofs.Tryz.prog fmCd Go.Proofs.Tryz.f121 fn31 = true := by kernel_rfl
theorem tie32 : chkF Go.Proofs.Tryz.prog fmCd Go.Proofs.Tryz.f95 fn32 = true := by kernel_rfl
theorem tie33 : chkF Go.Proofs.Tryz.prog fmCd Go.Proofs.Tryz.f138 fn33 = true := by kernel_rfl
theorem tie34 : chkF Go.Proofs.Tryz.prog fmCd Go.Proofs.Tryz.f120 fn34 = true := by kernel_rfl
theorem tie35 : chkF Go.Proofs.Tryz.prog fmCd Go.Proofs.Tryz.f94 fn35 = true := by kernel_rfl
theorem tie36 : chkF Go.Proofs.Tryz.prog fmCd Go.Proofs.Tryz.f62 fn36 = true := by kernel_rfl
theorem tie37 : chkF Go.Proofs.Tryz.prog fmCd Go.Proofs.Tryz.f25 fn37 = true := by kernel_rfl
theorem tie38 : chkF Go.Proofs.Tryz.prog fmCd Go.Proofs.Tryz.f63 fn38 = true := by kernel_rfl
theorem tie39 : chkF Go.Proofs.Tryz.prog fmCd Go.Proofs.Tryz.f64 fn39 = true := by kernel_rfl
theorem tie40 : chkF Go.Proofs.Tryz.prog fmCd Go.Proofs.Tryz.f65 fn40 = true := by kernel_rfl
theorem tie41 : chkF Go.Proofs.Tryz.prog fmCd Go.Proofs.Tryz.f26 fn41 = true := by kernel_rfl
theorem tie42 : chkF Go.Proofs.Tryz.prog fmCd Go.Proofs.Tryz.f7 fn42 = true := by kernel_rfl
theorem tie58 : chkF Go.Proofs.Tryz.prog fmCd Go.Proofs.Tryz.f75 fn58 = true := by kernel_rfl
theorem tie61 : chkF Go.Proofs.Tryz.prog fmCd Go.Proofs.Tryz.f123 fn61 = true := by kernel_rfl
theorem tie62 : chkF Go.Proofs.Tryz.prog fmCd Go.Proofs.Tryz.f89 fn62 = true := by kernel_rfl
theorem tie63 : chkF Go.Proofs.Tryz.prog fmCd Go.Proofs.Tryz.f90 fn63 = true := by kernel_rfl
theorem tie64 : chkF Go.Proofs.Tryz.prog fmCd Go.Proofs.Tryz.f124 fn64 = true := by kernel_rfl
theorem tie65 : chkF Go.Proofs.Tryz.prog fmCd Go.Proofs.Tryz.f97 fn65 = true := by kernel_rfl
theorem tie66 : chkF Go.Proofs.Tryz.prog fmCd Go.Proofs.Tryz.f98 fn66 = true := by kernel_rfl
theorem tie59 : chkF Go.Proofs.Tryz.prog fmCd Go.Proofs.Tryz.f35 fn59 = true := by kernel_rfl
theorem tie67 : chkF Go.Proofs.Tryz.prog fmCd Go.Proofs.Tryz.f70 fn67 = true := by kernel_rfl
theorem tie83 : chkF Go.Proofs.Tryz.prog fmCd Go.Proofs.Tryz.f87 fn83 = true := by kernel_rfl
theorem tie84 : chkF Go.Proofs.Tryz.prog fmCd Go.Proofs.Tryz.f66 fn84 = true := by kernel_rfl
theorem tie72 : chkF Go.Proofs.Tryz.prog fmCd Go.Proofs.Tryz.f86 fn72 = true := by kernel_rfl
theorem tie85 : chkF Go.Proofs.Tryz.prog fmCd Go.Proofs.Tryz.f59 fn85 = true := by kernel_rfl
theorem tie86 : chkF Go.Proofs.Tryz.prog fmCd Go.Proofs.Tryz.f88 fn86 = true := by kernel_rfl
theorem tie87 : chkF Go.Proofs.Tryz.prog fmCd Go.Proofs.Tryz.f56 fn87 = true := by kernel_rfl
theorem tie88 : chkF Go.Proofs.Tryz.prog fmCd Go.Proofs.Tryz.f68 fn88 = true := by kernel_rfl
theorem tie73 : chkF Go.Proofs.Tryz.prog fmCd Go.Proofs.Tryz.f69 fn73 = true := by kernel_rfl
theorem tie89 : chkF Go.Proofs.Tryz.prog fmCd Go.Proofs.Tryz.f122 fn89 = true := by kernel_rfl
theorem tie90 : chkF Go.Proofs.Tryz.prog fmCd Go.Proofs.Tryz.f96 fn90 = true := by kernel_rfl
theorem tie91 : chkF Go.Proofs.Tryz.prog fmCd Go.Proofs.Tryz.f67 fn91 = true := by kernel_rfl
theorem tie92 : chkF Go.Proofs.Tryz.prog fmCd Go.Proofs.Tryz.f27 fn92 = true := by kernel_rfl
theorem tie93 : chkF Go.Proofs.Tryz.prog fmCd Go.Proofs.Tryz.f28 fn93 = true := by kernel_rfl
theorem tie94 : chkF Go.Proofs.Tryz.prog fmCd Go.Proofs.Tryz.f29 fn94 = true := by kernel_rfl
theorem tie95 : chkF Go.Proofs.Tryz.prog fmCd Go.Proofs.Tryz.f30 fn95 = true := by kernel_rfl
theorem tie96 : chkF Go.Proofs.Tryz.prog fmCd Go.Proofs.Tryz.f8 fn96 = true := by kernel_rfl
theorem tie5 : chkF Go.Proofs.Tryz.prog fmCd Go.Proofs.Tryz.f31 fn5 = true := by kernel_rfl
theorem tie6 : chkF Go.Proofs.Tryz.prog fmCd Go.Proofs.Tryz.f32 fn6 = true := by kernel_rfl
theorem tie43 : chkF Go.Proofs.Tryz.prog fmCd Go.Proofs.Tryz.f48 fn43 = true := by kernel_rfl
theorem tie44 : chkF Go.Proofs.Tryz.prog fmCd Go.Proofs.Tryz.f37 fn44 = true := by kernel_rfl
theorem tie45 : chkF Go.Proofs.Tryz.prog fmCd Go.Proofs.Tryz.f53 fn45 = true := by kernel_rfl
theorem tie46 : chkF Go.Proofs.Tryz.prog fmCd Go.Proofs.Tryz.f132 fn46 = true := by kernel_rfl
theorem tie47 : chkF Go.Proofs.Tryz.prog fmCd Go.Proofs.Tryz.f112 fn47 = true := by kernel_rfl
theorem tie48 : chkF Go.Proofs.Tryz.prog fmCd Go.Proofs.Tryz.f51 fn48 = true := by kernel_rfl
theorem tie49 : chkF Go.Proofs.Tryz.prog fmCd Go.Proofs.Tryz.f113 fn49 = true := by kernel_rfl
theorem tie50 : chkF Go.Proofs.Tryz.prog fmCd Go.Proofs.Tryz.f80 fn50 = true := by kernel_rfl
theorem tie51 : chkF Go.Proofs.Tryz.prog fmCd Go.Proofs.Tryz.f49 fn51 = true := by kernel_rfl
theorem tie69 : chkF Go.Proofs.Tryz.prog fmCd Go.Proofs.Tryz.f18 fn69 = true := by kernel_rfl
theorem tie168 : chkF Go.Proofs.Tryz.prog fmCd Go.Proofs.Tryz.f82 fn168 = true := by kernel_rfl
theorem tie169 : chkF Go.Proofs.Tryz.prog fmCd Go.Proofs.Tryz.f50 fn169 = true := by kernel_rfl
theorem tie170 : chkF Go.Proofs.Tryz.prog fmCd Go.Proofs.Tryz.f85 fn170 = true := by kernel_rfl
theorem tie171 : chkF Go.Proofs.Tryz.prog fmCd Go.Proofs.Tryz.f52 fn171 = true := by kernel_rfl
theorem tie172 : chkF Go.Proofs.Tryz.prog fmCd Go.Proofs.Tryz.f19 fn172 = true := by kernel_rfl
theorem tie60 : chkF Go.Proofs.Tryz.prog fmCd Go.Proofs.Tryz.f71 fn60 = true := by kernel_rfl
theorem tie68 : chkF Go.Proofs.Tryz.prog fmCd Go.Proofs.Tryz.f33 fn68 = true := by kernel_rfl
theorem tie126 : chkF Go.Proofs.Tryz.prog fmCd Go.Proofs.Tryz.f125 fn126 = true := by kernel_rfl
theorem tie127 : chkF Go.Proofs.Tryz.prog fmCd Go.Proofs.Tryz.f99 fn127 = true := by kernel_rfl
theorem tie128 : chkF Go.Proofs.Tryz.prog fmCd Go.Proofs.Tryz.f72 fn128 = true := by kernel_rfl
theorem tie129 : chkF Go.Proofs.Tryz.prog fmCd Go.Proofs.Tryz.f100 fn129 = true := by kernel_rfl
theorem tie130 : chkF Go.Proofs.Tryz.prog fmCd Go.Proofs.Tryz.f78 fn130 = true := by kernel_rfl
theorem tie131 : chkF Go.Proofs.Tryz.prog fmCd Go.Proofs.Tryz.f44 fn131 = true := by kernel_rfl
theorem tie132 : chkF Go.Proofs.Tryz.prog fmCd Go.Proofs.Tryz.f111 fn132 = true := by kernel_rfl
theorem tie133 : chkF Go.Proofs.Tryz.prog fmCd Go.Proofs.Tryz.f77 fn133 = true := by kernel_rfl
theorem tie134 : chkF Go.Proofs.Tryz.prog fmCd Go.Proofs.Tryz.f131 fn134 = true := by kernel_rfl
theorem tie135 : chkF Go.Proofs.Tryz.prog fmCd Go.Proofs.Tryz.f107 fn135 = true := by kernel_rfl
theorem tie136 : chkF Go.Proofs.Tryz.prog fmCd Go.Proofs.Tryz.f101 fn136 = true := by kernel_rfl
theorem tie137 : chkF Go.Proofs.Tryz.prog fmCd Go.Proofs.Tryz.f126 fn137 = true := by kernel_rfl
theorem tie138 : chkF Go.Proofs.Tryz.prog fmCd Go.Proofs.Tryz.f102 fn138 = true := by kernel_rfl
theorem tie139 : chkF Go.Proofs.Tryz.prog fmCd Go.Proofs.Tryz.f127 fn139 = true := by kernel_rfl
theorem tie140 : chkF Go.Proofs.Tryz.prog fmCd Go.Proofs.Tryz.f128 fn140 = true := by kernel_rfl
theorem tie141 : chkF Go.Proofs.Tryz.prog fmCd Go.Proofs.Tryz.f103 fn141 = true := by kernel_rfl
theorem tie142 : chkF Go.Proofs.Tryz.prog fmCd Go.Proofs.Tryz.f141 fn142 = true := by kernel_rfl
theorem tie143 : chkF Go.Proofs.Tryz.prog fmCd Go.Proofs.Tryz.f130 fn143 = true := by kernel_rfl
theorem tie144 : chkF Go.Proofs.Tryz.prog fmCd Go.Proofs.Tryz.f129 fn144 = true := by kernel_rfl
theorem tie145 : chkF Go.Proofs.Tryz.prog fmCd Go.Proofs.Tryz.f104 fn145 = true := by kernel_rfl
theorem tie146 : chkF Go.Proofs.Tryz.prog fmCd Go.Proofs.Tryz.f105 fn146 = true := by kernel_rfl
theorem tie147 : chkF Go.Proofs.Tryz.prog fmCd Go.Proofs.Tryz.f106 fn147 = true := by kernel_rfl
theorem tie148 : chkF Go.Proofs.Tryz.prog fmCd Go.Proofs.Tryz.f108 fn148 = true := by kernel_rfl
theorem tie149 : chkF Go.Proofs.Tryz.prog fmCd Go.Proofs.Tryz.f109 fn149 = true := by kernel_rfl
theorem tie150 : chkF Go.Proofs.Tryz.prog fmCd Go.Proofs.Tryz.f76 fn150 = true := by kernel_rfl
theorem tie151 : chkF Go.Proofs.Tryz.prog fmCd Go.Proofs.Tryz.f38 fn151 = true := by kernel_rfl
theorem tie152 : chkF Go.Proofs.Tryz.prog fmCd Go.Proofs.Tryz.f39 fn152 = true := by kernel_rfl
theorem tie153 : chkF Go.Proofs.Tryz.prog fmCd Go.Proofs.Tryz.f73 fn153 = true := by kernel_rfl
theorem tie154 : chkF Go.Proofs.Tryz.prog fmCd Go.Proofs.Tryz.f74 fn154 = true := by kernel_rfl
theorem tie155 : chkF Go.Proofs.Tryz.prog fmCd Go.Proofs.Tryz.f34 fn155 = true := by kernel_rfl
theorem tie79 : chkF Go.Proofs.Tryz.prog fmCd Go.Proofs.Tryz.f22 fn79 = true := by kernel_rfl
theorem tie80 : chkF Go.Proofs.Tryz.prog fmCd Go.Proofs.Tryz.f20 fn80 = true := by kernel_rfl
theorem tie173 : chkF Go.Proofs.Tryz.prog fmCd Go.Proofs.Tryz.f36 fn173 = true := by kernel_rfl
theorem tie124 : chkF Go.Proofs.Tryz.prog fmCd Go.Proofs.Tryz.f43 fn124 = true := by kernel_rfl
theorem tie174 : chkF Go.Proofs.Tryz.prog fmCd Go.Proofs.Tryz.f45 fn174 = true := by kernel_rfl
theorem tie175 : chkF Go.Proofs.Tryz.prog fmCd Go.Proofs.Tryz.f46 fn175 = true := by kernel_rfl
theorem tie176 : chkF Go.Proofs.Tryz.prog fmCd Go.Proofs.Tryz.f14 fn176 = true := by kernel_rfl
theorem tie177 : chkF Go.Proofs.Tryz.prog fmCd Go.Proofs.Tryz.f16 fn177 = true := by kernel_rfl
theorem tie178 : chkF Go.Proofs.Tryz.prog fmCd Go.Proofs.Tryz.f12 fn178 = true := by kernel_rfl
theorem tie179 : chkF Go.Proofs.Tryz.prog fmCd Go.Proofs.Tryz.f9 fn179 = true := by kernel_rfl
theorem tie180 : chkF Go.Proofs.Tryz.prog fmCd Go.Proofs.Tryz.f3 fn180 = true := by kernel_rfl
theorem tie98 : chkF Go.Proofs.Tryz.prog fmCd Go.Proofs.Tryz.f40 fn98 = true := by kernel_rfl
theorem tie99 : chkF Go.Proofs.Tryz.prog fmCd Go.Proofs.Tryz.f41 fn99 = true := by kernel_rfl
theorem tie100 : chkF Go.Proofs.Tryz.prog fmCd Go.Proofs.Tryz.f42 fn100 = true := by kernel_rfl
theorem tie101 : chkF Go.Proofs.Tryz.prog fmCd Go.Proofs.Tryz.f13 fn101 = true := by kernel_rfl
theorem tie181 : chkF Go.Proofs.Tryz.prog fmCd Go.Proofs.Tryz.f11 fn181 = true := by kernel_rfl
theorem tie103 : chkF Go.Proofs.Tryz.prog fmCd Go.Proofs.Tryz.f47 fn103 = true := by kernel_rfl
theorem tie104 : chkF Go.Proofs.Tryz.prog fmCd Go.Proofs.Tryz.f15 fn104 = true := by kernel_rfl
theorem tie182 : chkF Go.Proofs.Tryz.prog fmCd Go.Proofs.Tryz.f17 fn182 = true := by kernel_rfl
theorem tie183 : chkF Go.Proofs.Tryz.prog fmCd Go.Proofs.Tryz.f4 fn183 = true := by kernel_rfl
theorem tie81 : chkF Go.Proofs.Tryz.prog fmCd Go.Proofs.Tryz.f54 fn81 = true := by kernel_rfl
theorem tie102 : chkF Go.Proofs.Tryz.prog fmCd Go.Proofs.Tryz.f55 fn102 = true := by kernel_rfl
theorem tie105 : chkF Go.Proofs.Tryz.prog fmCd Go.Proofs.Tryz.f119 fn105 = true := by kernel_rfl
theorem tie106 : chkF Go.Proofs.Tryz.prog fmCd Go.Proofs.Tryz.f92 fn106 = true := by kernel_rfl
theorem tie107 : chkF Go.Proofs.Tryz.prog fmCd Go.Proofs.Tryz.f91 fn107 = true := by kernel_rfl
theorem tie108 : chkF Go.Proofs.Tryz.prog fmCd Go.Proofs.Tryz.f57 fn108 = true := by kernel_rfl
theorem tie109 : chkF Go.Proofs.Tryz.prog fmCd Go.Proofs.Tryz.f58 fn109 = true := by kernel_rfl
theorem tie110 : chkF Go.Proofs.Tryz.prog fmCd Go.Proofs.Tryz.f21 fn110 = true := by kernel_rfl
theorem tie184 : chkF Go.Proofs.Tryz.prog fmCd Go.Proofs.Tryz.f23 fn184 = true := by kernel_rfl
theorem tie185 : chkF Go.Proofs.Tryz.prog fmCd Go.Proofs.Tryz.f5 fn185 = true := by kernel_rfl
theorem envOKCd : EnvOK Go.Proofs.Tryz.prog fmCd env := by
  intro g f h
  unfold env at h
  split at h
  · cases h; exact ⟨_, Go.Proofs.Tryz.func60, tie0⟩
  · cases h; exact ⟨_, Go.Proofs.Tryz.func24, tie1⟩
  · cases h; exact ⟨_, Go.Proofs.Tryz.func10, tie2⟩
  · cases h; exact ⟨_, Go.Proofs.Tryz.func6, tie3⟩
  · cases h; exact ⟨_, Go.Proofs.Tryz.func118, tie7⟩
  · cases h; exact ⟨_, Go.Proofs.Tryz.func110, tie8⟩
  · cases h; exact ⟨_, Go.Proofs.Tryz.func93, tie9⟩
  · cases h; exact ⟨_, Go.Proofs.Tryz.func115, tie10⟩
  · cases h; exact ⟨_, Go.Proofs.Tryz.func83, tie11⟩
  · cases h; exact ⟨_, Go.Proofs.Tryz.func61, tie12⟩
  · cases h; exact ⟨_, Go.Proofs.Tryz.func135, tie13⟩
  · cases h; exact ⟨_, Go.Proofs.Tryz.func84, tie14⟩
  · cases h; exact ⟨_, Go.Proofs.Tryz.func139, tie15⟩
  · cases h; exact ⟨_, Go.Proofs.Tryz.func133, tie16⟩
  · cases h; exact ⟨_, Go.Proofs.Tryz.func114, tie17⟩
  · cases h; exact ⟨_, Go.Proofs.Tryz.func142, tie18⟩
  · cases h; exact ⟨_, Go.Proofs.Tryz.func79, tie19⟩
  · cases h; exact ⟨_, Go.Proofs.Tryz.func134, tie20⟩
  · cases h; exact ⟨_, Go.Proofs.Tryz.func136, tie21⟩
  · cases h; exact ⟨_, Go.Proofs.Tryz.func143, tie22⟩
  · cases h; exact ⟨_, Go.Proofs.Tryz.func144, tie23⟩
  · cases h; exact ⟨_, Go.Proofs.Tryz.func145, tie24⟩
  · cases h; exact ⟨_, Go.Proofs.Tryz.func146, tie25⟩
  · cases h; exact ⟨_, Go.Proofs.Tryz.func137, tie26⟩
  · cases h; exact ⟨_, Go.Proofs.Tryz.func117, tie27⟩
  · cases h; exact ⟨_, Go.Proofs.Tryz.func116, tie28⟩
  · cases h; exact ⟨_, Go.Proofs.Tryz.func81, tie29⟩
  · cases h; exact ⟨_, Go.Proofs.Tryz.func140, tie30⟩
  · cases h; exact ⟨_, Go.Proofs.Tryz.func121, tie31⟩
  · cases h; exact ⟨_, Go.Proofs.Tryz.func95, tie32⟩
  · cases h; exact ⟨_, Go.Proofs.Tryz.func138, tie33⟩
  · cases h; exact ⟨_, Go.Proofs.Tryz.func120, tie34⟩
  · cases h; exact ⟨_, Go.Proofs.Tryz.func94, tie35⟩
  · cases h; exact ⟨_, Go.Proofs.Tryz.func62, tie36⟩
  · cases h; exact ⟨_, Go.Proofs.Tryz.func25, tie37⟩
  · cases h; exact ⟨_, Go.Proofs.Tryz.func63, tie38⟩
  · cases h; exact ⟨_, Go.Proofs.Tryz.func64, tie39⟩
  · cases h; exact ⟨_, Go.Proofs.Tryz.func65, tie40⟩
  · cases h; exact ⟨_, Go.Proofs.Tryz.func26, tie41⟩
  · cases h; exact ⟨_, Go.Proofs.Tryz.func7, tie42⟩
  · cases h; exact ⟨_, Go.Proofs.Tryz.func75, tie58⟩
  · cases h; exact ⟨_, Go.Proofs.Tryz.func123, tie61⟩
  · cases h; exact ⟨_, Go.Proofs.Tryz.func89, tie62⟩
  · cases h; exact ⟨_, Go.Proofs.Tryz.func90, tie63⟩
  · cases h; exact ⟨_, Go.Proofs.Tryz.func124, tie64⟩
  · cases h; exact ⟨_, Go.Proofs.Tryz.func97, tie65⟩
  · cases h; exact ⟨_, Go.Proofs.Tryz.func98, tie66⟩
  · cases h; exact ⟨_, Go.Proofs.Tryz.func35, tie59⟩
  · cases h; exact ⟨_, Go.Proofs.Tryz.func70, tie67⟩
  · cases h; exact ⟨_, Go.Proofs.Tryz.func87, tie83⟩
  · cases h; exact ⟨_, Go.Proofs.Tryz.func66, tie84⟩
  · cases h; exact ⟨_, Go.Proofs.Tryz.func86, tie72⟩
  · cases h; exact ⟨_, Go.Proofs.Tryz.func59, tie85⟩
  · cases h; exact ⟨_, Go.Proofs.Tryz.func88, tie86⟩
  · cases h; exact ⟨_, Go.Proofs.Tryz.func56, tie87⟩
  · cases h; exact ⟨_, Go.Proofs.Tryz.func68, tie88⟩
  · cases h; exact ⟨_, Go.Proofs.Tryz.func69, tie73⟩
  · cases h; exact ⟨_, Go.Proofs.Tryz.func122, tie89⟩
  · cases h; exact ⟨_, Go.Proofs.Tryz.func96, tie90⟩
  · cases h; exact ⟨_, Go.Proofs.Tryz.func67, tie91⟩
  · cases h; exact ⟨_, Go.Proofs.Tryz.func27, tie92⟩
  · cases h; exact ⟨_, Go.Proofs.Tryz.func28, tie93⟩
  · cases h; exact ⟨_, Go.Proofs.Tryz.func29, tie94⟩
  · cases h; exact ⟨_, Go.Proofs.Tryz.func30, tie95⟩
  · cases h; exact ⟨_, Go.Proofs.Tryz.func8, tie96⟩
  · cases h; exact ⟨_, Go.Proofs.Tryz.func31, tie5⟩
  · cases h; exact ⟨_, Go.Proofs.Tryz.func32, tie6⟩
  · cases h; exact ⟨_, Go.Proofs.Tryz.func48, tie43⟩
  · cases h; exact ⟨_, Go.Proofs.Tryz.func37, tie44⟩
  · cases h; exact ⟨_, Go.Proofs.Tryz.func53, tie45⟩
  · cases h; exact ⟨_, Go.Proofs.Tryz.func132, tie46⟩
  · cases h; exact ⟨_, Go.Proofs.Tryz.func112, tie47⟩
  · cases h; exact ⟨_, Go.Proofs.Tryz.func51, tie48⟩
  · cases h; exact ⟨_, Go.Proofs.Tryz.func113, tie49⟩
  · cases h; exact ⟨_, Go.Proofs.Tryz.func80, tie50⟩
  · cases h; exact ⟨_, Go.Proofs.Tryz.func49, tie51⟩
  · cases h; exact ⟨_, Go.Proofs.Tryz.func18, tie69⟩
  · cases h; exact ⟨_, Go.Proofs.Tryz.func82, tie168⟩
  · cases h; exact ⟨_, Go.Proofs.Tryz.func50, tie169⟩
  · cases h; exact ⟨_, Go.Proofs.Tryz.func85, tie170⟩
  · cases h; exact ⟨_, Go.Proofs.Tryz.func52, tie171⟩
  · cases h; exact ⟨_, Go.Proofs.Tryz.func19, tie172⟩
  · cases h; exact ⟨_, Go.Proofs.Tryz.func71, tie60⟩
  · cases h; exact ⟨_, Go.Proofs.Tryz.func33, tie68⟩
  · cases h; exact ⟨_, Go.Proofs.Tryz.func125, tie126⟩
  · cases h; exact ⟨_, Go.Proofs.Tryz.func99, tie127⟩
  · cases h; exact ⟨_, Go.Proofs.Tryz.func72, tie128⟩
  · cases h; exact ⟨_, Go.Proofs.Tryz.func100, tie129⟩
  · cases h; exact ⟨_, Go.Proofs.Tryz.func78, tie130⟩
  · cases h; exact ⟨_, Go.Proofs.Tryz.func44, tie131⟩
  · cases h; exact ⟨_, Go.Proofs.Tryz.func111, tie132⟩
  · cases h; exact ⟨_, Go.Proofs.Tryz.func77, tie133⟩
  · cases h; exact ⟨_, Go.Proofs.Tryz.func131, tie134⟩
  · cases h; exact ⟨_, Go.Proofs.Tryz.func107, tie135⟩
  · cases h; exact ⟨_, Go.Proofs.Tryz.func101, tie136⟩
  · cases h; exact ⟨_, Go.Proofs.Tryz.func126, tie137⟩
  · cases h; exact ⟨_, Go.Proofs.Tryz.func102, tie138⟩
  · cases h; exact ⟨_, Go.Proofs.Tryz.func127, tie139⟩
  · cases h; exact ⟨_, Go.Proofs.Tryz.func128, tie140⟩
  · cases h; exact ⟨_, Go.Proofs.Tryz.func103, tie141⟩
  · cases h; exact ⟨_, Go.Proofs.Tryz.func141, tie142⟩
  · cases h; exact ⟨_, Go.Proofs.Tryz.func130, tie143⟩
  · cases h; exact ⟨_, Go.Proofs.Tryz.func129, tie144⟩
  · cases h; exact ⟨_, Go.Proofs.Tryz.func104, tie145⟩
  · cases h; exact ⟨_, Go.Proofs.Tryz.func105, tie146⟩
  · cases h; exact ⟨_, Go.Proofs.Tryz.func106, tie147⟩
  · cases h; exact ⟨_, Go.Proofs.Tryz.func108, tie148⟩
  · cases h; exact ⟨_, Go.Proofs.Tryz.func109, tie149⟩
  · cases h; exact ⟨_, Go.Proofs.Tryz.func76, tie150⟩
  · cases h; exact ⟨_, Go.Proofs.Tryz.func38, tie151⟩
  · cases h; exact ⟨_, Go.Proofs.Tryz.func39, tie152⟩
  · cases h; exact ⟨_, Go.Proofs.Tryz.func73, tie153⟩
  · cases h; exact ⟨_, Go.Proofs.Tryz.func74, tie154⟩
  · cases h; exact ⟨_, Go.Proofs.Tryz.func34, tie155⟩
  · cases h; exact ⟨_, Go.Proofs.Tryz.func22, tie79⟩
  · cases h; exact ⟨_, Go.Proofs.Tryz.func20, tie80⟩
  · cases h; exact ⟨_, Go.Proofs.Tryz.func36, tie173⟩
  · cases h; exact ⟨_, Go.Proofs.Tryz.func43, tie124⟩
  · cases h; exact ⟨_, Go.Proofs.Tryz.func45, tie174⟩
  · cases h; exact ⟨_, Go.Proofs.Tryz.func46, tie175⟩
  · cases h; exact ⟨_, Go.Proofs.Tryz.func14, tie176⟩
  · cases h; exact ⟨_, Go.Proofs.Tryz.func16, tie177⟩
  · cases h; exact ⟨_, Go.Proofs.Tryz.func12, tie178⟩
  · cases h; exact ⟨_, Go.Proofs.Tryz.func9, tie179⟩
  · cases h; exact ⟨_, Go.Proofs.Tryz.func3, tie180⟩
  · cases h; exact ⟨_, Go.Proofs.Tryz.func40, tie98⟩
  · cases h; exact ⟨_, Go.Proofs.Tryz.func41, tie99⟩
  · cases h; exact ⟨_, Go.Proofs.Tryz.func42, tie100⟩
  · cases h; exact ⟨_, Go.Proofs.Tryz.func13, tie101⟩
  · cases h; exact ⟨_, Go.Proofs.Tryz.func11, tie181⟩
  · cases h; exact ⟨_, Go.Proofs.Tryz.func47, tie103⟩
  · cases h; exact ⟨_, Go.Proofs.Tryz.func15, tie104⟩
  · cases h; exact ⟨_, Go.Proofs.Tryz.func17, tie182⟩
  · cases h; exact ⟨_, Go.Proofs.Tryz.func4, tie183⟩
  · cases h; exact ⟨_, Go.Proofs.Tryz.func54, tie81⟩
  · cases h; exact ⟨_, Go.Proofs.Tryz.func55, tie102⟩
  · cases h; exact ⟨_, Go.Proofs.Tryz.func119, tie105⟩
  · cases h; exact ⟨_, Go.Proofs.Tryz.func92, tie106⟩
  · cases h; exact ⟨_, Go.Proofs.Tryz.func91, tie107⟩
  · cases h; exact ⟨_, Go.Proofs.Tryz.func57, tie108⟩
  · cases h; exact ⟨_, Go.Proofs.Tryz.func58, tie109⟩
  · cases h; exact ⟨_, Go.Proofs.Tryz.func21, tie110⟩
  · cases h; exact ⟨_, Go.Proofs.Tryz.func23, tie184⟩
  · cases h; exact ⟨_, Go.Proofs.Tryz.func5, tie185⟩
  · cases h
end Go.Av
