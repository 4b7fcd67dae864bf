/- The functions of the library that the law comes to. -/
import Derived.Test.YtkhaafonmkjjmaaGreatDoorProg
import Derived.Test.YtkhaafonmkjjmaaGreatDoorKzp
import Derived.Shelf.Strings.Builder1
import Derived.Shelf.Strings.OnBuilder
import Derived.Shelf.Strings.Cut
import Derived.Shelf.Small.Strs
import Derived.Shelf.Strconv.Itoa3
import Derived.Shelf.Strconv.ErrVarAll
import Derived.WalkKit
set_option linter.all false
namespace Go.Proofs
open Go.Shelf
def Tryz.lays156_ren:Go.Shelf.Ren:=⟨fun | 156=>94 | 165=>135 | 166=>136 | 169=>134 | 240=>158 | 241=>159 | 276=>173 | 277=>174 | n=>n,fun | 31=>43 | 9=>9 | 3=>3 | 4=>4 | 0=>0 | 20=>20 | 72=>170 | 76=>177 | 70=>168 | 37=>22 | 75=>173 | 127=>191 | 164=>201 | 5=>5 | 80=>175 | n=>n,fun | n=>n⟩
theorem Tryz.lays156:Go.Proofs.Lays.n156 Tryz.prog Tryz.lays156_ren:={
  mixed:=by kernel_rfl
  f156:=Tryz.func94.trans (congrArg some (by kernel_rfl))
  f165:=Tryz.func135.trans (congrArg some (by kernel_rfl))
  f166:=Tryz.func136.trans (congrArg some (by kernel_rfl))
  f169:=Tryz.func134.trans (congrArg some (by kernel_rfl))
  f240:=Tryz.func158.trans (congrArg some (by kernel_rfl))
  f241:=Tryz.func159.trans (congrArg some (by kernel_rfl))
  f276:=Tryz.func173.trans (congrArg some (by kernel_rfl))
  f277:=Tryz.func174.trans (congrArg some (by kernel_rfl))
  t0:=Tryz.underlying0
  a0:=Tryz.isAgg0
  z0:=Tryz.sizeOf0
  v0:=Tryz.zeroValue0
  t3:=Tryz.underlying3
  a3:=Tryz.isAgg3
  z3:=Tryz.sizeOf3
  v3:=Tryz.zeroValue3
  t4:=Tryz.underlying4
  a4:=Tryz.isAgg4
  z4:=Tryz.sizeOf4
  v4:=Tryz.zeroValue4
  t9:=Tryz.underlying9
  a9:=Tryz.isAgg9
  z9:=Tryz.sizeOf9
  v9:=Tryz.zeroValue9
  t20:=Tryz.underlying20
  a20:=Tryz.isAgg20
  z20:=Tryz.sizeOf20
  v20:=Tryz.zeroValue20
  t31:=Tryz.underlying43
  a31:=Tryz.isAgg43
  z31:=Tryz.sizeOf43
  v31:=Tryz.zeroValue43
  t37:=Tryz.underlying22
  a37:=Tryz.isAgg22
  z37:=Tryz.sizeOf22
  v37:=Tryz.zeroValue22
  t70:=Tryz.underlying168
  a70:=Tryz.isAgg168
  z70:=Tryz.sizeOf168
  v70:=Tryz.zeroValue168
  t72:=Tryz.underlying170
  a72:=Tryz.isAgg170
  z72:=Tryz.sizeOf170
  v72:=Tryz.zeroValue170
  t75:=Tryz.underlying173
  a75:=Tryz.isAgg173
  z75:=Tryz.sizeOf173
  v75:=Tryz.zeroValue173
  t76:=Tryz.underlying177
  a76:=Tryz.isAgg177
  z76:=Tryz.sizeOf177
  v76:=Tryz.zeroValue177
  t127:=Tryz.underlying191
  a127:=Tryz.isAgg191
  z127:=Tryz.sizeOf191
  v127:=Tryz.zeroValue191
  t164:=Tryz.underlying201
  a164:=Tryz.isAgg201
  z164:=Tryz.sizeOf201
  v164:=Tryz.zeroValue201 }
def Tryz.lays106_ren:Go.Shelf.Ren:=⟨fun | 106=>125 | 213=>151 | 265=>166 | n=>n,fun | 9=>9 | 3=>3 | n=>n,fun | n=>n⟩
theorem Tryz.lays106:Go.Proofs.Lays.n106 Tryz.prog Tryz.lays106_ren:={
  mixed:=by kernel_rfl
  f106:=Tryz.func125.trans (congrArg some (by kernel_rfl))
  f213:=Tryz.func151.trans (congrArg some (by kernel_rfl))
  f265:=Tryz.func166.trans (congrArg some (by kernel_rfl))
  t3:=Tryz.underlying3
  a3:=Tryz.isAgg3
  z3:=Tryz.sizeOf3
  v3:=Tryz.zeroValue3
  t9:=Tryz.underlying9
  a9:=Tryz.isAgg9
  z9:=Tryz.sizeOf9
  v9:=Tryz.zeroValue9 }
def Tryz.lays137_ren:Go.Shelf.Ren:=⟨fun | 137=>132 | 217=>157 | 266=>172 | n=>n,fun | 9=>9 | 5=>5 | 3=>3 | n=>n,fun | n=>n⟩
theorem Tryz.lays137:Go.Proofs.Lays.n137 Tryz.prog Tryz.lays137_ren:={
  mixed:=by kernel_rfl
  f137:=Tryz.func132.trans (congrArg some (by kernel_rfl))
  f217:=Tryz.func157.trans (congrArg some (by kernel_rfl))
  f266:=Tryz.func172.trans (congrArg some (by kernel_rfl))
  t3:=Tryz.underlying3
  a3:=Tryz.isAgg3
  z3:=Tryz.sizeOf3
  v3:=Tryz.zeroValue3
  t5:=Tryz.underlying5
  a5:=Tryz.isAgg5
  z5:=Tryz.sizeOf5
  v5:=Tryz.zeroValue5
  t9:=Tryz.underlying9
  a9:=Tryz.isAgg9
  z9:=Tryz.sizeOf9
  v9:=Tryz.zeroValue9 }
def Tryz.laysM171_ren:Go.Shelf.Ren:=⟨fun | 171=>153 | 243=>169 | 246=>182 | 283=>187 | 284=>188 | 285=>189 | 286=>190 | 129=>147 | 317=>196 | 318=>197 | 319=>198 | 320=>199 | 337=>201 | 338=>202 | n=>n,fun | 3=>3 | 9=>9 | 2=>2 | 4=>4 | 171=>218 | 0=>0 | 53=>63 | 37=>22 | 5=>5 | 173=>220 | 212=>226 | 51=>187 | 20=>20 | 213=>227 | 46=>148 | 232=>230 | 233=>231 | n=>n,fun | 17=>3 | 18=>4 | 19=>5 | n=>n⟩
theorem Tryz.laysM171:Go.Proofs.LaysM.n171 Tryz.prog Tryz.laysM171_ren:={
  mixed:=by kernel_rfl
  f129:=Tryz.func147.trans (congrArg some (by kernel_rfl))
  f171:=Tryz.func153.trans (congrArg some (by kernel_rfl))
  f243:=Tryz.func169.trans (congrArg some (by kernel_rfl))
  f246:=Tryz.func182.trans (congrArg some (by kernel_rfl))
  f283:=Tryz.func187.trans (congrArg some (by kernel_rfl))
  f284:=Tryz.func188.trans (congrArg some (by kernel_rfl))
  f285:=Tryz.func189.trans (congrArg some (by kernel_rfl))
  f286:=Tryz.func190.trans (congrArg some (by kernel_rfl))
  f317:=Tryz.func196.trans (congrArg some (by kernel_rfl))
  f318:=Tryz.func197.trans (congrArg some (by kernel_rfl))
  f319:=Tryz.func198.trans (congrArg some (by kernel_rfl))
  f320:=Tryz.func199.trans (congrArg some (by kernel_rfl))
  f337:=Tryz.func201.trans (congrArg some (by kernel_rfl))
  f338:=Tryz.func202.trans (congrArg some (by kernel_rfl))
  t0:=Tryz.underlying0
  a0:=Tryz.isAgg0
  z0:=Tryz.sizeOf0
  v0:=Tryz.zeroValue0
  t2:=Tryz.underlying2
  a2:=Tryz.isAgg2
  z2:=Tryz.sizeOf2
  v2:=Tryz.zeroValue2
  t3:=Tryz.underlying3
  a3:=Tryz.isAgg3
  z3:=Tryz.sizeOf3
  v3:=Tryz.zeroValue3
  t4:=Tryz.underlying4
  a4:=Tryz.isAgg4
  z4:=Tryz.sizeOf4
  v4:=Tryz.zeroValue4
  t5:=Tryz.underlying5
  a5:=Tryz.isAgg5
  z5:=Tryz.sizeOf5
  v5:=Tryz.zeroValue5
  t9:=Tryz.underlying9
  a9:=Tryz.isAgg9
  z9:=Tryz.sizeOf9
  v9:=Tryz.zeroValue9
  t20:=Tryz.underlying20
  a20:=Tryz.isAgg20
  z20:=Tryz.sizeOf20
  v20:=Tryz.zeroValue20
  t37:=Tryz.underlying22
  a37:=Tryz.isAgg22
  z37:=Tryz.sizeOf22
  v37:=Tryz.zeroValue22
  t46:=Tryz.underlying148
  a46:=Tryz.isAgg148
  z46:=Tryz.sizeOf148
  v46:=Tryz.zeroValue148
  t51:=Tryz.underlying187
  a51:=Tryz.isAgg187
  z51:=Tryz.sizeOf187
  v51:=Tryz.zeroValue187
  t53:=Tryz.underlying63
  a53:=Tryz.isAgg63
  z53:=Tryz.sizeOf63
  v53:=Tryz.zeroValue63
  t171:=Tryz.underlying218
  a171:=Tryz.isAgg218
  z171:=Tryz.sizeOf218
  v171:=Tryz.zeroValue218
  t173:=Tryz.underlying220
  a173:=Tryz.isAgg220
  z173:=Tryz.sizeOf220
  v173:=Tryz.zeroValue220
  t212:=Tryz.underlying226
  a212:=Tryz.isAgg226
  z212:=Tryz.sizeOf226
  v212:=Tryz.zeroValue226
  t213:=Tryz.underlying227
  a213:=Tryz.isAgg227
  z213:=Tryz.sizeOf227
  t232:=Tryz.underlying230
  a232:=Tryz.isAgg230
  z232:=Tryz.sizeOf230
  v232:=Tryz.zeroValue230
  t233:=Tryz.underlying231
  a233:=Tryz.isAgg231
  z233:=Tryz.sizeOf231
  v233:=Tryz.zeroValue231
  g17:=by kernel_rfl
  g18:=by kernel_rfl
  g19:=by kernel_rfl
  i0:=by kernel_rfl
  i2:=by kernel_rfl
  i3:=by kernel_rfl
  i4:=by kernel_rfl
  i5:=by kernel_rfl
  i9:=by kernel_rfl
  i20:=by kernel_rfl
  i37:=by kernel_rfl
  i46:=by kernel_rfl
  i51:=by kernel_rfl
  i53:=by kernel_rfl
  i171:=by kernel_rfl
  i173:=by kernel_rfl
  i212:=by kernel_rfl
  i232:=by kernel_rfl
  i233:=by kernel_rfl
  m17:=by kernel_rfl
  m18:=by kernel_rfl
  m19:=by kernel_rfl }
def Tryz.laysC172_ren:Go.Shelf.Ren:=⟨fun | 172=>152 | 244=>167 | 245=>168 | 247=>177 | 279=>178 | 280=>179 | 281=>180 | 282=>181 | 287=>184 | 316=>185 | 171=>153 | 205=>186 | 321=>194 | 322=>195 | 243=>169 | 246=>182 | 283=>187 | 284=>188 | 285=>189 | 286=>190 | 129=>147 | 317=>196 | 318=>197 | 319=>198 | 320=>199 | 337=>201 | 338=>202 | n=>n,fun | 9=>9 | 3=>3 | 75=>173 | 76=>177 | 4=>4 | 5=>5 | 167=>206 | 37=>22 | 0=>0 | 85=>207 | 2=>2 | 168=>209 | 53=>63 | 175=>213 | 46=>148 | 210=>216 | 127=>191 | 145=>225 | 143=>223 | 21=>21 | 171=>218 | 173=>220 | 212=>226 | 51=>187 | 20=>20 | 213=>227 | 232=>230 | 233=>231 | 80=>175 | n=>n,fun | 15=>1 | 16=>2 | 17=>3 | 18=>4 | 19=>5 | n=>n⟩
theorem Tryz.laysC172:Go.Proofs.LaysC.n172 Tryz.prog Tryz.laysC172_ren:={
  mixed:=by kernel_rfl
  f129:=Tryz.func147.trans (congrArg some (by kernel_rfl))
  f171:=Tryz.func153.trans (congrArg some (by kernel_rfl))
  f172:=Tryz.func152.trans (congrArg some (by kernel_rfl))
  f205:=Tryz.func186.trans (congrArg some (by kernel_rfl))
  f243:=Tryz.func169.trans (congrArg some (by kernel_rfl))
  f244:=Tryz.func167.trans (congrArg some (by kernel_rfl))
  f245:=Tryz.func168.trans (congrArg some (by kernel_rfl))
  f246:=Tryz.func182.trans (congrArg some (by kernel_rfl))
  f247:=Tryz.func177.trans (congrArg some (by kernel_rfl))
  f279:=Tryz.func178.trans (congrArg some (by kernel_rfl))
  f280:=Tryz.func179.trans (congrArg some (by kernel_rfl))
  f281:=Tryz.func180.trans (congrArg some (by kernel_rfl))
  f282:=Tryz.func181.trans (congrArg some (by kernel_rfl))
  f283:=Tryz.func187.trans (congrArg some (by kernel_rfl))
  f284:=Tryz.func188.trans (congrArg some (by kernel_rfl))
  f285:=Tryz.func189.trans (congrArg some (by kernel_rfl))
  f286:=Tryz.func190.trans (congrArg some (by kernel_rfl))
  f287:=Tryz.func184.trans (congrArg some (by kernel_rfl))
  f316:=Tryz.func185.trans (congrArg some (by kernel_rfl))
  f317:=Tryz.func196.trans (congrArg some (by kernel_rfl))
  f318:=Tryz.func197.trans (congrArg some (by kernel_rfl))
  f319:=Tryz.func198.trans (congrArg some (by kernel_rfl))
  f320:=Tryz.func199.trans (congrArg some (by kernel_rfl))
  f321:=Tryz.func194.trans (congrArg some (by kernel_rfl))
  f322:=Tryz.func195.trans (congrArg some (by kernel_rfl))
  f337:=Tryz.func201.trans (congrArg some (by kernel_rfl))
  f338:=Tryz.func202.trans (congrArg some (by kernel_rfl))
  t0:=Tryz.underlying0
  a0:=Tryz.isAgg0
  z0:=Tryz.sizeOf0
  v0:=Tryz.zeroValue0
  t2:=Tryz.underlying2
  a2:=Tryz.isAgg2
  z2:=Tryz.sizeOf2
  v2:=Tryz.zeroValue2
  t3:=Tryz.underlying3
  a3:=Tryz.isAgg3
  z3:=Tryz.sizeOf3
  v3:=Tryz.zeroValue3
  t4:=Tryz.underlying4
  a4:=Tryz.isAgg4
  z4:=Tryz.sizeOf4
  v4:=Tryz.zeroValue4
  t5:=Tryz.underlying5
  a5:=Tryz.isAgg5
  z5:=Tryz.sizeOf5
  v5:=Tryz.zeroValue5
  t9:=Tryz.underlying9
  a9:=Tryz.isAgg9
  z9:=Tryz.sizeOf9
  v9:=Tryz.zeroValue9
  t20:=Tryz.underlying20
  a20:=Tryz.isAgg20
  z20:=Tryz.sizeOf20
  v20:=Tryz.zeroValue20
  t21:=Tryz.underlying21
  a21:=Tryz.isAgg21
  z21:=Tryz.sizeOf21
  v21:=Tryz.zeroValue21
  t37:=Tryz.underlying22
  a37:=Tryz.isAgg22
  z37:=Tryz.sizeOf22
  v37:=Tryz.zeroValue22
  t46:=Tryz.underlying148
  a46:=Tryz.isAgg148
  z46:=Tryz.sizeOf148
  v46:=Tryz.zeroValue148
  t51:=Tryz.underlying187
  a51:=Tryz.isAgg187
  z51:=Tryz.sizeOf187
  v51:=Tryz.zeroValue187
  t53:=Tryz.underlying63
  a53:=Tryz.isAgg63
  z53:=Tryz.sizeOf63
  v53:=Tryz.zeroValue63
  t75:=Tryz.underlying173
  a75:=Tryz.isAgg173
  z75:=Tryz.sizeOf173
  v75:=Tryz.zeroValue173
  t76:=Tryz.underlying177
  a76:=Tryz.isAgg177
  z76:=Tryz.sizeOf177
  v76:=Tryz.zeroValue177
  t85:=Tryz.underlying207
  a85:=Tryz.isAgg207
  z85:=Tryz.sizeOf207
  v85:=Tryz.zeroValue207
  t127:=Tryz.underlying191
  a127:=Tryz.isAgg191
  z127:=Tryz.sizeOf191
  v127:=Tryz.zeroValue191
  t143:=Tryz.underlying223
  a143:=Tryz.isAgg223
  z143:=Tryz.sizeOf223
  v143:=Tryz.zeroValue223
  t145:=Tryz.underlying225
  a145:=Tryz.isAgg225
  z145:=Tryz.sizeOf225
  v145:=Tryz.zeroValue225
  t167:=Tryz.underlying206
  a167:=Tryz.isAgg206
  z167:=Tryz.sizeOf206
  v167:=Tryz.zeroValue206
  t168:=Tryz.underlying209
  a168:=Tryz.isAgg209
  z168:=Tryz.sizeOf209
  v168:=Tryz.zeroValue209
  t171:=Tryz.underlying218
  a171:=Tryz.isAgg218
  z171:=Tryz.sizeOf218
  v171:=Tryz.zeroValue218
  t173:=Tryz.underlying220
  a173:=Tryz.isAgg220
  z173:=Tryz.sizeOf220
  v173:=Tryz.zeroValue220
  t175:=Tryz.underlying213
  a175:=Tryz.isAgg213
  z175:=Tryz.sizeOf213
  v175:=Tryz.zeroValue213
  t210:=Tryz.underlying216
  a210:=Tryz.isAgg216
  z210:=Tryz.sizeOf216
  v210:=Tryz.zeroValue216
  t212:=Tryz.underlying226
  a212:=Tryz.isAgg226
  z212:=Tryz.sizeOf226
  v212:=Tryz.zeroValue226
  t213:=Tryz.underlying227
  a213:=Tryz.isAgg227
  z213:=Tryz.sizeOf227
  t232:=Tryz.underlying230
  a232:=Tryz.isAgg230
  z232:=Tryz.sizeOf230
  v232:=Tryz.zeroValue230
  t233:=Tryz.underlying231
  a233:=Tryz.isAgg231
  z233:=Tryz.sizeOf231
  v233:=Tryz.zeroValue231
  g15:=by kernel_rfl
  g16:=by kernel_rfl
  g17:=by kernel_rfl
  g18:=by kernel_rfl
  g19:=by kernel_rfl
  t80:=Tryz.underlying175
  a80:=Tryz.isAgg175
  z80:=Tryz.sizeOf175
  v80:=Tryz.zeroValue175
  i0:=by kernel_rfl
  i2:=by kernel_rfl
  i3:=by kernel_rfl
  i4:=by kernel_rfl
  i5:=by kernel_rfl
  i9:=by kernel_rfl
  i20:=by kernel_rfl
  i21:=by kernel_rfl
  i37:=by kernel_rfl
  i46:=by kernel_rfl
  i51:=by kernel_rfl
  i53:=by kernel_rfl
  i75:=by kernel_rfl
  i76:=by kernel_rfl
  i80:=by kernel_rfl
  i85:=by kernel_rfl
  i127:=by kernel_rfl
  i143:=by kernel_rfl
  i145:=by kernel_rfl
  i167:=by kernel_rfl
  i168:=by kernel_rfl
  i171:=by kernel_rfl
  i173:=by kernel_rfl
  i175:=by kernel_rfl
  i210:=by kernel_rfl
  i212:=by kernel_rfl
  i232:=by kernel_rfl
  i233:=by kernel_rfl
  m15:=by kernel_rfl
  m16:=by kernel_rfl
  m17:=by kernel_rfl
  m18:=by kernel_rfl
  m19:=by kernel_rfl
  c0:=by kernel_rfl
  c2:=by kernel_rfl
  c3:=by kernel_rfl
  c4:=by kernel_rfl
  c5:=by kernel_rfl
  c9:=by kernel_rfl
  c20:=by kernel_rfl
  c21:=by kernel_rfl
  c37:=by kernel_rfl
  c46:=by kernel_rfl
  c51:=by kernel_rfl
  c53:=by kernel_rfl
  c75:=by kernel_rfl
  c76:=by kernel_rfl
  c80:=by kernel_rfl
  c85:=by kernel_rfl
  c127:=by kernel_rfl
  c143:=by kernel_rfl
  c145:=by kernel_rfl
  c167:=by kernel_rfl
  c168:=by kernel_rfl
  c171:=by kernel_rfl
  c173:=by kernel_rfl
  c175:=by kernel_rfl
  c210:=by kernel_rfl
  c212:=by kernel_rfl
  c213:=by kernel_rfl
  c232:=by kernel_rfl
  c233:=by kernel_rfl }
def Tryz.lays145_ren:Go.Shelf.Ren:=⟨fun | 145=>165 | 220=>176 | 219=>183 | 217=>157 | 225=>191 | 224=>192 | 267=>193 | 266=>172 | 314=>200 | n=>n,fun | 9=>9 | 4=>4 | 59=>198 | 3=>3 | 5=>5 | 46=>148 | 146=>228 | 51=>187 | n=>n,fun | 1=>0 | n=>n⟩
theorem Tryz.lays145:Go.Proofs.Lays.n145 Tryz.prog Tryz.lays145_ren:={
  mixed:=by kernel_rfl
  f145:=Tryz.func165.trans (congrArg some (by kernel_rfl))
  f217:=Tryz.func157.trans (congrArg some (by kernel_rfl))
  f219:=Tryz.func183.trans (congrArg some (by kernel_rfl))
  f220:=Tryz.func176.trans (congrArg some (by kernel_rfl))
  f224:=Tryz.func192.trans (congrArg some (by kernel_rfl))
  f225:=Tryz.func191.trans (congrArg some (by kernel_rfl))
  f266:=Tryz.func172.trans (congrArg some (by kernel_rfl))
  f267:=Tryz.func193.trans (congrArg some (by kernel_rfl))
  f314:=Tryz.func200.trans (congrArg some (by kernel_rfl))
  t3:=Tryz.underlying3
  a3:=Tryz.isAgg3
  z3:=Tryz.sizeOf3
  v3:=Tryz.zeroValue3
  t4:=Tryz.underlying4
  a4:=Tryz.isAgg4
  z4:=Tryz.sizeOf4
  v4:=Tryz.zeroValue4
  t5:=Tryz.underlying5
  a5:=Tryz.isAgg5
  z5:=Tryz.sizeOf5
  v5:=Tryz.zeroValue5
  t9:=Tryz.underlying9
  a9:=Tryz.isAgg9
  z9:=Tryz.sizeOf9
  v9:=Tryz.zeroValue9
  t46:=Tryz.underlying148
  a46:=Tryz.isAgg148
  z46:=Tryz.sizeOf148
  v46:=Tryz.zeroValue148
  t51:=Tryz.underlying187
  a51:=Tryz.isAgg187
  z51:=Tryz.sizeOf187
  v51:=Tryz.zeroValue187
  t59:=Tryz.underlying198
  a59:=Tryz.isAgg198
  z59:=Tryz.sizeOf198
  v59:=Tryz.zeroValue198
  t146:=Tryz.underlying228
  a146:=Tryz.isAgg228
  z146:=Tryz.sizeOf228
  v146:=Tryz.zeroValue228
  g1:=by kernel_rfl }
theorem Tryz.Builder_Extra_156:Builder.Extra Tryz.prog Tryz.lays156_ren:={
  sizeBuilder:=by kernel_rfl
  liesBuilder:=by kernel_rfl
  t5:=Tryz.underlying5
  a5:=Tryz.isAgg5
  z5:=Tryz.sizeOf5
  v5:=Tryz.zeroValue5
  infoByte:=by kernel_rfl
  cellsByte:=by kernel_rfl
  sizeByte:=by kernel_rfl
  neB5:=by decide }
end Go.Proofs
namespace Go.G36.MT
open Go Go.Proofs Go.RowKit
set_option maxHeartbeats 1000000 in
set_option maxRecDepth 100000 in
theorem cc_used(b:Nat)(w:World)(h0:w.cell? ⟨b,0,none⟩=some (.pointer (some ⟨b,0,none⟩))) :
    Calls Tryz.prog 158 #[.pointer (some ⟨b,0,none⟩)] w fun e w'=>e = .returned (.tuple #[])∧w' = w:=by
  obtain⟨j,hj⟩:∃ j,Tryz.prog.info? 170=some j:=⟨_,rfl⟩
  go_enter Tryz.func158,Tryz.ntmps158
  go_wp2
  rw[Lib.run_neq_ptr_same w _ Tryz.underlying168 hj]
  go_wp2
  go_end0
  exact⟨rfl,rfl⟩
set_option maxHeartbeats 1000000 in
set_option maxRecDepth 100000 in
theorem cc_fresh(b:Nat)(w:World)(h0:w.cell? ⟨b,0,none⟩=some (.pointer none))(hsh:w.shape? b=some (170,2))(hfz:w.frozen? ⟨b,0,none⟩=false) :
    Calls Tryz.prog 158 #[.pointer (some ⟨b,0,none⟩)] w fun e w'=>e = .returned (.tuple #[])∧w' = w.setCell ⟨b,0,none⟩ (.pointer (some ⟨b,0,none⟩)):=by
  obtain⟨j,hj,hjs⟩:∃ j,Tryz.prog.info? 170=some j∧j.size=2:=⟨_,rfl,rfl⟩
  go_enter Tryz.func158,Tryz.ntmps158
  go_wp2
  rw[Lib.run_to_unsafe w ⟨b,0,none⟩ Tryz.underlying168 Tryz.underlying201 hj (by rw[hjs];decide) hsh (Nat.zero_lt_succ 1)]
  simp only[Result.andThen]
  rw[Oper.upon_value]
  go_wp2
  rw[run_callFunc_extern Tryz.func173 (by kernel_rfl) (by kernel_rfl) (by kernel_rfl) (e:=Extern.AbiNoEscape.same) (by kernel_rfl)]
  rw[Lib.run_noEscape]
  simp only[Result.andThen]
  rw[Oper.upon_value]
  go_wp2
  rw[Lib.run_from_unsafe w ⟨b,0,none⟩ Tryz.underlying201 Tryz.underlying168 hj hsh (by kernel_rfl)]
  simp only[Result.andThen]
  rw[Oper.upon_value]
  go_wp2
  go_end0
  exact⟨rfl,rfl⟩

@[reducible] instance genvI:Genv where
  genv:=fun _=>none
  gk:=[(0,holdsN),(1,holdsI),(2,holdsI),(3,holdsT .u64 Lib.pow10Tab)]
theorem tab_is{S:Nat→Prop}{w w':World}(hG:Eg S w)(g:Cy w w'):Lib.TabIs Tryz.prog w' "internal/strconv.uint64pow10" .u64 Lib.pow10Tab:=by
  obtain⟨o,h1,e,fz,rfl⟩:=hG.keptg g 3 rfl
  exact var_of rfl h1
theorem itoa_w(n:Int)(h0:-9223372036854775808≤n)(h1:n≤9223372036854775807){S:Nat→Prop}{w w':World}(hG:Eg S w)(g:Cy w w') :
    Calls Tryz.prog 153 #[.int .i64 n] w' fun e w2=>e = .returned (.string ⟨(Lib.itoa n).toArray⟩)∧∃ k os,w2=Sort.grow (w'.drewN k) os:=Any.strconv_Itoa Tryz.laysM171 n h0 h1 w' (tab_is hG g)
theorem lib_165{s p r1 r2:ByteArray}{r3:Bool}(H:cutO s p=some (r1,r2,r3)):Bu Tryz.prog 165 [.str s,.str p] (.tup [.str r1,.str r2,.bool r3]):=cut_c (fun s p S w hG hs=>by
  obtain⟨o,h1,cs,m,e,fz,rfl,hc⟩:=hG.kept 0 rfl
  exact Any.strings_Cut Tryz.lays145 s p m w hs (by
    have h2:w.heap[0]? = some (.cells cs e fz):=h1
    show w.cell? ⟨0,0,none⟩=_
    simp[World.cell?,h2,hc])) H
theorem lib_158{xs:List Int}{u:Unit}(_:ccO xs=some u):St Tryz.prog 158 [.bx 0 0] [.box [.px 0 170 1 0,.hd 1 (xs.map fun x=>[V.int .u8 x]).length 0 (xs.map fun x=>[V.int .u8 x]).length],.arr (.tg 5) 1 (xs.map fun x=>[V.int .u8 x])] (.tup [])
    [.box [.px 0 170 1 0,.hd 1 (xs.map fun x=>[V.int .u8 x]).length 0 (xs.map fun x=>[V.int .u8 x]).length],.arr (.tg 5) 1 (xs.map fun x=>[V.int .u8 x])]:=copyCheck_c cc_fresh cc_used
theorem lib_132{s:ByteArray}{c r:Int}(H:indexByteO s c=some r):Bu Tryz.prog 132 [.str s,.int .u8 c] (.int .i64 r):=indexByte_c (fun s c w=>Any.strings_IndexByte Tryz.lays137 s c w) H
theorem lib_125{a b:ByteArray}{r:Int}(H:compareO a b=some r):Bu Tryz.prog 125 [.str a,.str b] (.int .i64 r):=compare_c (fun a b w=>Any.strings_Compare Tryz.lays106 a b w) H
theorem lib_94(b:Bool){xs:List ByteArray}{sep r:ByteArray}(H:joinO xs sep=some r):Bu Tryz.prog 94 [.im b (xs.map fun x=>[V.str x]),.str sep] (.str r) :=
  join_c (fun a c sep w=>Any.strings_Join_none Tryz.lays156 Tryz.Builder_Extra_156 a c sep w) (fun bk o c xs sep w h1 h2 h3 h4 h5=>Any.strings_Join Tryz.lays156 Tryz.Builder_Extra_156 bk o c xs sep w h1 h2 h3 h4 h5) b H
theorem grown_atoi{w w1:World}{n:TypeId}(h:w1=w∨∃ t,w1=Lib.bytesWorld w n t):Cy w w1:=by
  rcases h with rfl | ⟨t,rfl⟩
  · exact Cy.refl _
  · exact grown_bytes _ _ _
set_option maxHeartbeats 1000000 in
set_option maxRecDepth 100000 in
theorem whole_w(s:ByteArray)(S:Nat→Prop)(w:World)(hG:Eg S w)(hs:s.size≤281474976710656):Calls Tryz.prog 126 #[.string s] w fun e w'=>e = .returned (.tuple #[.int .i64 (E9 s).1,.bool (E9 s).2])∧Cy w w':=by
  cases h:Lib.atoiAll s.data.toList with
  | ok v =>
    have hv:-9223372036854775808≤v∧v≤9223372036854775807:=Lib.atoiAll_bounds h
    have hR:E9 s=(v,(Lib.itoa v)==s.toList):=by simp[E9,h]
    rw[hR]
    go_enter Tryz.func126,Tryz.ntmps126
    go_wp2_with (first
      | (go_at_call 152;refine (Any.strconv_Atoi_ok Tryz.laysC172 s (by omega) v h w).mono ?_;rintro e w1 ⟨rfl,hw1⟩)
      | (go_at_call 153;refine (itoa_w v hv.1 hv.2 hG (grown_atoi hw1)).mono ?_;rintro e w2 ⟨rfl,k,os,rfl⟩))
    go_ret2
    exact⟨rfl,(grown_atoi hw1).trans (grown_grow _ _ _)⟩
  | range =>
    obtain⟨o,h1,tp,p,e0,fz,rfl⟩:=hG.kept 2 rfl
    have hR:E9 s=(Lib.atoiSat s.data.toList,false):=by simp[E9,h]
    rw[hR]
    go_enter Tryz.func126,Tryz.ntmps126
    go_wp2_with (go_at_call 152;refine (Any.strconv_Atoi_range_var Tryz.laysC172 s hs h tp p w (var_of rfl h1)).mono ?_;rintro e w1 ⟨N,rfl,hN,hb,hw1⟩)
    go_ret2
    exact⟨rfl,grown_below hw1⟩
  | _ =>
    obtain⟨o,h1,tp,p,e0,fz,rfl⟩:=hG.kept 1 rfl
    have hR:E9 s=(0,false):=by simp[E9,h]
    rw[hR]
    go_enter Tryz.func126,Tryz.ntmps126
    go_wp2_with (go_at_call 152;refine (Any.strconv_Atoi_syntax_var Tryz.laysC172 s hs h tp p w (var_of rfl h1)).mono ?_;rintro e w1 ⟨N,rfl,hN,hb,hw1⟩)
    go_ret2
    exact⟨rfl,grown_below hw1⟩
theorem lib_126{s:ByteArray}{n:Int}{ok:Bool}(H:wholeO s=some (n,ok)):Bu Tryz.prog 126 [.str s] (.tup [.int .i64 n,.bool ok]):=whole_c whole_w H
def capAt(l:List UInt8)(k j:Nat):UInt8:=if j<k then capB (l.getD j 0) else l.getD j 0
def Eh(s:ByteArray)(w wr:World)(k:Nat):Prop:=∃ cur:Array Value,wr.heap[w.heap.size]? = some (.cells cur 5 (cur.size,cur.size+1))∧s.size≤cur.size ∧
  (∀ j,j<s.size→cur[j]? = some (.int .u8 ((capAt s.data.toList k j).toNat:Int)))∧Cy w wr
theorem Eh.start(s:ByteArray)(w:World):Eh s w (Lib.bytesWorld w 5 s) 0:=by
  refine⟨_,Lib.bytesWorld_at_new w 5 s,by simp[Lib.bytesCells],fun j hj=>?_,grown_bytes w 5 s⟩
  have:=Lib.bytesWorld_cell w 5 s j hj
  simp only[World.cell?,Lib.bytesWorld_at_new]at this
  simpa[capAt]using this
theorem Eh.cell{s:ByteArray}{w wr:World}{k:Nat}(h:Eh s w wr k)(hk:k<s.size):wr.cell? ⟨w.heap.size,k,none⟩=some (.int .u8 ((s.data.toList.getD k 0).toNat:Int)):=by
  obtain⟨cur,h1,h2,h3,h4⟩:=h
  have:=h3 k hk
  simp only[World.cell?,h1]
  simpa[capAt]using this
theorem Eh.nofz{s:ByteArray}{w wr:World}{k:Nat}(h:Eh s w wr k)(hk:k<s.size):wr.frozen? ⟨w.heap.size,k,none⟩=false:=by
  obtain⟨cur,h1,h2,h3,h4⟩:=h
  simp only[World.frozen?,h1]
  have:¬ cur.size≤k:=by omega
  simp[this]
theorem Eh.put{s:ByteArray}{w wr:World}{k:Nat}(h:Eh s w wr k)(hk:k<s.size){v:Value}(hv:v = .int .u8 ((capB (s.data.toList.getD k 0)).toNat:Int)):Eh s w (wr.setCell ⟨w.heap.size,k,none⟩ v) (k+1):=by
  obtain⟨cur,h1,h2,h3,h4⟩:=h
  subst hv
  have hlt:w.heap.size<wr.heap.size:=(Array.getElem?_eq_some_iff.1 h1).1
  refine⟨cur.setIfInBounds k (.int .u8 ((capB (s.data.toList.getD k 0)).toNat:Int)),?_,by simpa using h2,fun j hj=>?_,⟨h4.os,h4.tape,h4.output,by simpa[World.setCell]using h4.size,fun b hb=>?_⟩⟩
  · simp[World.setCell,Array.getElem?_modify,h1]
  · have:=h3 j hj
    rw[Array.getElem?_setIfInBounds]
    by_cases hjk:k=j
    · subst hjk
      rw[if_pos rfl,if_pos (by omega)]
      simp[capAt]
    · rw[if_neg hjk,this]
      have e:(j<k+1)=(j<k):=by rw[eq_iff_iff];omega
      simp[capAt,e]
  · have:(wr.setCell ⟨w.heap.size,k,none⟩ (.int .u8 ((capB (s.data.toList.getD k 0)).toNat:Int))).heap[b]? = wr.heap[b]?:=by
      simp only[World.setCell,Array.getElem?_modify]
      rw[if_neg (by omega)]
    rw[this]
    exact h4.block b hb
theorem Eh.keep{s:ByteArray}{w wr:World}{k:Nat}(h:Eh s w wr k)(hk:k<s.size)(hc:capB (s.data.toList.getD k 0)=s.data.toList.getD k 0):Eh s w wr (k+1):=by
  obtain⟨cur,h1,h2,h3,h4⟩:=h
  refine⟨cur,h1,h2,fun j hj=>?_,h4⟩
  rw[h3 j hj]
  by_cases hjk:j=k
  · subst hjk
    simp only[capAt]
    rw[if_neg (by omega),if_pos (by omega),hc]
  · have e:(j<k+1)=(j<k):=by rw[eq_iff_iff];omega
    simp[capAt,e]
theorem byS_go:∀ (l:List UInt8) (acc:ByteArray),(l.map fun b=>(b.toNat:Int)).foldl (fun r n=>r.push (UInt8.ofNat n.toNat)) acc=⟨acc.data++l.toArray⟩
  | [],acc=>by simp
  | b :: l,acc=>by
    rw[List.map_cons,List.foldl_cons,byS_go l]
    congr 1
    simp[ByteArray.push]
theorem byS_caps(s:ByteArray):byS ((s.data.toList.map capB).map fun b=>(b.toNat:Int))=⟨(s.data.toList.map capB).toArray⟩:=by
  unfold byS
  rw[byS_go]
  congr 1
  simp
theorem add_pl(g i:Nat):(⟨g,0,none⟩:Addr).add i=⟨g,i,none⟩:=by
  unfold Addr.add
  split
  · next h => have : i = 0 := by simpa using h
              subst this;rfl
  · simp
theorem Eh.back{s:ByteArray}{w wr:World}(h:Eh s w wr s.size)(cap:Nat):(convert 22 9 (.slice (some ⟨w.heap.size,0,none⟩) s.size cap)).run Tryz.prog wr = .ok (.string ⟨(s.data.toList.map capB).toArray⟩) wr:=by
  rw[← byS_caps]
  obtain⟨cur,h1,h2,h3,h4⟩:=h
  have hsz:s.data.toList.length=s.size:=by simp
  refine byS_cells (S:=fun _=>True) (c:=fun _=>undef) _ ⟨w.heap.size,0,none⟩ s.size cap (by simp) 22 9 5 Tryz.underlying22 Tryz.underlying5 Tryz.underlying9 fun i m hi=>?_
  rw[List.getElem?_map,List.getElem?_map]at hi
  cases hb:s.data.toList[i]? with
  | none=>rw[hb]at hi;cases hi
  | some b =>
    rw[hb]at hi
    simp only[Option.map_some,Option.some.injEq]at hi
    subst hi
    have hlt:i<s.size:=by rw[← hsz];exact (List.getElem?_eq_some_iff.1 hb).1
    have hg:s.data.toList.getD i 0=b:=by simp[List.getD,hb]
    have:=h3 i hlt
    simp only[capAt,if_pos hlt,hg]at this
    rw[add_pl]
    simpa[World.cell?,h1]using this
theorem capB_yes{b:UInt8}(h1:(97:Int)≤b.toNat)(h2:(b.toNat:Int)≤122):((b.toNat:Int) - 32)=((capB b).toNat:Int):=by
  have h1':97≤b.toNat:=by omega
  have h2':b.toNat≤122:=by omega
  rw[capB,if_pos ⟨h1',h2'⟩,UInt8.toNat_ofNat']
  omega
theorem capB_no{b:UInt8}(h:¬ ((97:Int)≤b.toNat∧(b.toNat:Int)≤122)):capB b=b:=by
  rw[capB,if_neg (fun hh=>h ⟨by omega,by omega⟩)]
theorem getD_at{s:ByteArray}{k:Nat}(h:k<s.size):s.data.toList.getD k 0=s.data[k]'(by simpa using h):=by
  have h':k<s.data.size:=h
  rw[List.getD_eq_getElem?_getD,Array.getElem?_toList,Array.getElem?_eq_getElem h']
  rfl
theorem mea{k n:Nat}(h:k<n):n - (intOf (Value.int IntKind.i64 ((k:Int)+1))).toNat<n - (intOf (Value.int IntKind.i64 (k:Int))).toNat:=by
  simp only[intOf]
  omega
set_option maxHeartbeats 1000000 in
set_option maxRecDepth 100000 in
theorem caps_w123 (s : ByteArray) (w : World) (hs : s.size ≤ 281474976710656) : Calls Tryz.prog 123 #[.string s] w fun e w' => e = .returned (.string ⟨(s.data.toList.map capB).toArray⟩) ∧    Cy w w' := by
  have hconv:=Lib.run_convert_string_bytes (P:=Tryz.prog) w 9 22 5 s Tryz.underlying9 Tryz.underlying22 Tryz.underlying5
  go_enter Tryz.func123,Tryz.ntmps123
  go_wp2
  go_loopw [10] (fun i wr=>∃ k:Nat,k≤s.size∧i = .int .i64 k∧Eh s w wr k) (fun i _=>s.size - (intOf i).toNat)
  case atStart=>exact⟨0,Nat.zero_le _,rfl,Eh.start s w⟩
  case round =>
    obtain⟨k,hk,rfl,hR⟩:=hrel
    by_cases hlt:k<s.size
    · have hcell:=hR.cell hlt
      have hfz:=hR.nofz hlt
      go_wp2
      · refine⟨⟨k+1,by omega,by simp,hR.put hlt ?_⟩,mea hlt⟩
        rw[getD_at hlt]
        exact congrArg (Value.int .u8) (capB_yes (by assumption) (by assumption))
      · exact⟨⟨k+1,by omega,by simp,hR.keep hlt (by rw[getD_at hlt];exact capB_no (by omega))⟩,mea hlt⟩
      · exact⟨⟨k+1,by omega,by simp,hR.keep hlt (by rw[getD_at hlt];exact capB_no (by omega))⟩,mea hlt⟩
    · have hke:k=s.size:=by omega
      subst hke
      have hback:=hR.back (grownCap w s.size 0 5)
      obtain⟨cur,h1,h2,h3,h4⟩:=hR
      go_wp2
      go_ret
      exact⟨rfl,h4⟩
set_option maxHeartbeats 1000000 in
set_option maxRecDepth 100000 in
theorem caps_w85 (s : ByteArray) (w : World) (hs : s.size ≤ 281474976710656) : Calls Tryz.prog 85 #[.string s] w fun e w' => e = .returned (.string ⟨(s.data.toList.map capB).toArray⟩) ∧    Cy w w' := by
  have hconv:=Lib.run_convert_string_bytes (P:=Tryz.prog) w 9 22 5 s Tryz.underlying9 Tryz.underlying22 Tryz.underlying5
  go_enter Tryz.func85,Tryz.ntmps85
  go_wp2
  go_loopw [10] (fun i wr=>∃ k:Nat,k≤s.size∧i = .int .i64 k∧Eh s w wr k) (fun i _=>s.size - (intOf i).toNat)
  case atStart=>exact⟨0,Nat.zero_le _,rfl,Eh.start s w⟩
  case round =>
    obtain⟨k,hk,rfl,hR⟩:=hrel
    by_cases hlt:k<s.size
    · have hcell:=hR.cell hlt
      have hfz:=hR.nofz hlt
      go_wp2
      · refine⟨⟨k+1,by omega,by simp,hR.put hlt ?_⟩,mea hlt⟩
        rw[getD_at hlt]
        exact congrArg (Value.int .u8) (capB_yes (by assumption) (by assumption))
      · exact⟨⟨k+1,by omega,by simp,hR.keep hlt (by rw[getD_at hlt];exact capB_no (by omega))⟩,mea hlt⟩
      · exact⟨⟨k+1,by omega,by simp,hR.keep hlt (by rw[getD_at hlt];exact capB_no (by omega))⟩,mea hlt⟩
    · have hke:k=s.size:=by omega
      subst hke
      have hback:=hR.back (grownCap w s.size 0 5)
      obtain⟨cur,h1,h2,h3,h4⟩:=hR
      go_wp2
      go_ret
      exact⟨rfl,h4⟩
theorem lib_123{s r:ByteArray}(H:E6 s=some r):Bu Tryz.prog 123 [.str s] (.str r):=caps_c (fun s w h=>caps_w123 s w h) H
theorem lib_85{s r:ByteArray}(H:E6 s=some r):Bu Tryz.prog 85 [.str s] (.str r):=caps_c (fun s w h=>caps_w85 s w h) H
end Go.G36.MT
