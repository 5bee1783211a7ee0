import Derived.Test.YtapnoohglfhgeaaGreatDoorP05
import Derived.Test.YtapnoohglfhgeaaGreatDoorP10
import Derived.Test.YtapnoohglfhgeaaGreatDoorP18
import Derived.Test.YtapnoohglfhgeaaGreatDoorP20
import Derived.Test.YtapnoohglfhgeaaGreatDoorP21
import Derived.Test.YtapnoohglfhgeaaGreatDoorP24
import Derived.KernelRfl
import Derived.Test.YtapnoohglfhgeaaGreatDoorProg
import Derived.Shelf.Sort.Plain
import Derived.Shelf.Strings.Search3
import Derived.Shelf.Strings.BuilderK
import Derived.Shelf.Strings.BuilderF
import Derived.Shelf.Strconv.Itoa3
import Derived.Shelf.LaysM
import Derived.Ground.NamesProg
import Derived.Shelf.Strings.Builder1
import Derived.Shelf.Lays8
import Derived.Shelf.Spec.SlicesGrow
import Derived.Shelf.Vars
import Derived.Lib.LaidTab
/-
  Part 25 of the proof.
-/
set_option linter.all false
section
/-
  The functions' text is the program's.
-/
namespace Go.Proofs
open Go Go.Ab Go.Ab.S
theorem of_fn {P : Program} {f : FuncId} {g : AFunc} (h : (P.funcs[f]?).bind (cFn P) = some g) : ∃ fn, P.funcs[f]? = some fn ∧ cFn P fn = some g := Option.bind_eq_some_iff.1 h
theorem tb_81 : (Tryz.prog.funcs[81]?).bind (cFn Tryz.prog) = some F_goes := by kernel_rfl
theorem tb_55 : (Tryz.prog.funcs[55]?).bind (cFn Tryz.prog) = some F_word := by kernel_rfl
theorem tb_56 : (Tryz.prog.funcs[56]?).bind (cFn Tryz.prog) = some F_IsKey := by kernel_rfl
theorem tb_28 : (Tryz.prog.funcs[28]?).bind (cFn Tryz.prog) = some F_IsName := by kernel_rfl
theorem tb_85 : (Tryz.prog.funcs[85]?).bind (cFn Tryz.prog) = some F_grising := by kernel_rfl
theorem tb_57 : (Tryz.prog.funcs[57]?).bind (cFn Tryz.prog) = some F_arity := by kernel_rfl
theorem tb_59 : (Tryz.prog.funcs[59]?).bind (cFn Tryz.prog) = some F_may := by kernel_rfl
theorem tb_84 : (Tryz.prog.funcs[84]?).bind (cFn Tryz.prog) = some F_may1 := by kernel_rfl
theorem tb_29 : (Tryz.prog.funcs[29]?).bind (cFn Tryz.prog) = some F_Check := by kernel_rfl
theorem tb_58 : (Tryz.prog.funcs[58]?).bind (cFn Tryz.prog) = some F_Check1 := by kernel_rfl
theorem tb_83 : (Tryz.prog.funcs[83]?).bind (cFn Tryz.prog) = some F_CFint := by kernel_rfl
theorem tb_125 : (Tryz.prog.funcs[125]?).bind (cFn Tryz.prog) = some F_IFint := by kernel_rfl
theorem tb_60 : (Tryz.prog.funcs[60]?).bind (cFn Tryz.prog) = some F_CFnode := by kernel_rfl
theorem tb_86 : (Tryz.prog.funcs[86]?).bind (cFn Tryz.prog) = some F_IFnode := by kernel_rfl
theorem tb_8 : (Tryz.prog.funcs[8]?).bind (cFn Tryz.prog) = some F_Great := by kernel_rfl
theorem tb_79 : (Tryz.prog.funcs[79]?).bind (cFn Tryz.prog) = some F_Reach := by kernel_rfl
theorem tb_54 : (Tryz.prog.funcs[54]?).bind (cFn Tryz.prog) = some F_Trim := by kernel_rfl
theorem tb_12 : (Tryz.prog.funcs[12]?).bind (cFn Tryz.prog) = some F_Same := by kernel_rfl
theorem tb_32 : (Tryz.prog.funcs[32]?).bind (cFn Tryz.prog) = some F_alike := by kernel_rfl
theorem tb_33 : (Tryz.prog.funcs[33]?).bind (cFn Tryz.prog) = some F_gfree := by kernel_rfl
theorem tb_43 : (Tryz.prog.funcs[43]?).bind (cFn Tryz.prog) = some F_CloneStr := by kernel_rfl
theorem tb_80 : (Tryz.prog.funcs[80]?).bind (cFn Tryz.prog) = some F_CloneInt := by kernel_rfl
theorem tb_123 : (Tryz.prog.funcs[123]?).bind (cFn Tryz.prog) = some F_Backward := by kernel_rfl
theorem tb_154 : (Tryz.prog.funcs[154]?).bind (cFn Tryz.prog) = some F_Backward1 := by kernel_rfl
theorem tb_53 : (Tryz.prog.funcs[53]?).bind (cFn Tryz.prog) = some F_Classes := by kernel_rfl
theorem tb_77 : (Tryz.prog.funcs[77]?).bind (cFn Tryz.prog) = some F_refine := by kernel_rfl
theorem tb_122 : (Tryz.prog.funcs[122]?).bind (cFn Tryz.prog) = some F_refine1 := by kernel_rfl
theorem tb_121 : (Tryz.prog.funcs[121]?).bind (cFn Tryz.prog) = some F_look := by kernel_rfl
theorem tb_120 : (Tryz.prog.funcs[120]?).bind (cFn Tryz.prog) = some F_cfree := by kernel_rfl
theorem tb_27 : (Tryz.prog.funcs[27]?).bind (cFn Tryz.prog) = some F_Least := by kernel_rfl
theorem tb_38 : (Tryz.prog.funcs[38]?).bind (cFn Tryz.prog) = some F_EqualStr := by kernel_rfl
theorem tb_78 : (Tryz.prog.funcs[78]?).bind (cFn Tryz.prog) = some F_EqualInt := by kernel_rfl
theorem tb_152 : (Tryz.prog.funcs[152]?).bind (cFn Tryz.prog) = some F_WriteString := by kernel_rfl
theorem tb_23 : (Tryz.prog.funcs[23]?).bind (cFn Tryz.prog) = some F_Equal := by kernel_rfl
theorem tb_48 : (Tryz.prog.funcs[48]?).bind (cFn Tryz.prog) = some F_Alike := by kernel_rfl
theorem tb_16 : (Tryz.prog.funcs[16]?).bind (cFn Tryz.prog) = some F_Labels := by kernel_rfl
theorem tb_49 : (Tryz.prog.funcs[49]?).bind (cFn Tryz.prog) = some F_Ints := by kernel_rfl
theorem tb_9 : (Tryz.prog.funcs[9]?).bind (cFn Tryz.prog) = some F_EnvNew := by kernel_rfl
theorem tb_10 : (Tryz.prog.funcs[10]?).bind (cFn Tryz.prog) = some F_WithValue := by kernel_rfl
theorem tb_11 : (Tryz.prog.funcs[11]?).bind (cFn Tryz.prog) = some F_EValue := by kernel_rfl
theorem tb_20 : (Tryz.prog.funcs[20]?).bind (cFn Tryz.prog) = some F_EValues := by kernel_rfl
theorem tb_45 : (Tryz.prog.funcs[45]?).bind (cFn Tryz.prog) = some F_EValues1 := by kernel_rfl
theorem tb_21 : (Tryz.prog.funcs[21]?).bind (cFn Tryz.prog) = some F_EClasses := by kernel_rfl
theorem tb_46 : (Tryz.prog.funcs[46]?).bind (cFn Tryz.prog) = some F_EClasses1 := by kernel_rfl
theorem tb_22 : (Tryz.prog.funcs[22]?).bind (cFn Tryz.prog) = some F_WithClass := by kernel_rfl
theorem tb_24 : (Tryz.prog.funcs[24]?).bind (cFn Tryz.prog) = some F_EClass := by kernel_rfl
theorem tb_26 : (Tryz.prog.funcs[26]?).bind (cFn Tryz.prog) = some F_estart := by kernel_rfl
theorem tb_30 : (Tryz.prog.funcs[30]?).bind (cFn Tryz.prog) = some F_eall := by kernel_rfl
theorem tb_61 : (Tryz.prog.funcs[61]?).bind (cFn Tryz.prog) = some F_eall1 := by kernel_rfl
theorem tb_31 : (Tryz.prog.funcs[31]?).bind (cFn Tryz.prog) = some F_eown := by kernel_rfl
theorem tb_44 : (Tryz.prog.funcs[44]?).bind (cFn Tryz.prog) = some F_enames := by kernel_rfl
theorem tb_35 : (Tryz.prog.funcs[35]?).bind (cFn Tryz.prog) = some F_ebody := by kernel_rfl
theorem tb_47 : (Tryz.prog.funcs[47]?).bind (cFn Tryz.prog) = some F_cown := by kernel_rfl
theorem tb_34 : (Tryz.prog.funcs[34]?).bind (cFn Tryz.prog) = some F_erising := by kernel_rfl
theorem tb_13 : (Tryz.prog.funcs[13]?).bind (cFn Tryz.prog) = some F_CheckClass := by kernel_rfl
theorem tb_67 : (Tryz.prog.funcs[67]?).bind (cFn Tryz.prog) = some F_Sorted := by kernel_rfl
theorem tb_68 : (Tryz.prog.funcs[68]?).bind (cFn Tryz.prog) = some F_MKeys := by kernel_rfl
theorem tb_101 : (Tryz.prog.funcs[101]?).bind (cFn Tryz.prog) = some F_MKeys1 := by kernel_rfl
theorem tb_100 : (Tryz.prog.funcs[100]?).bind (cFn Tryz.prog) = some F_Collect := by kernel_rfl
theorem tb_135 : (Tryz.prog.funcs[135]?).bind (cFn Tryz.prog) = some F_AppendSeq := by kernel_rfl
theorem tb_36 : (Tryz.prog.funcs[36]?).bind (cFn Tryz.prog) = some F_ConcatStr := by kernel_rfl
theorem tb_7 : (Tryz.prog.funcs[7]?).bind (cFn Tryz.prog) = some F_alive14 := by kernel_rfl
theorem tb_5 : (Tryz.prog.funcs[5]?).bind (cFn Tryz.prog) = some F_EnvKeeps := by kernel_rfl
theorem tb_14 : (Tryz.prog.funcs[14]?).bind (cFn Tryz.prog) = some F_ccTo := by kernel_rfl
theorem tb_19 : (Tryz.prog.funcs[19]?).bind (cFn Tryz.prog) = some F_egreat := by kernel_rfl
theorem zAS {f n : Nat} {fn g : AFunc} {r : Option AFunc} (h : (if f = n then some g else r) = some fn) : (f = n ∧ g = fn) ∨ r = some fn := by
  by_cases e : f = n
  · rw [if_pos e] at h; cases h; exact .inl ⟨e, rfl⟩
  · rw [if_neg e] at h; exact .inr h
theorem tab_ok : FnsOK Tryz.prog tab := by
  intro f fn h
  rcases zAS h with ⟨rfl, rfl⟩ | h
  · exact of_fn tb_81
  rcases zAS h with ⟨rfl, rfl⟩ | h
  · exact of_fn tb_55
  rcases zAS h with ⟨rfl, rfl⟩ | h
  · exact of_fn tb_56
  rcases zAS h with ⟨rfl, rfl⟩ | h
  · exact of_fn tb_28
  rcases zAS h with ⟨rfl, rfl⟩ | h
  · exact of_fn tb_85
  rcases zAS h with ⟨rfl, rfl⟩ | h
  · exact of_fn tb_57
  rcases zAS h with ⟨rfl, rfl⟩ | h
  · exact of_fn tb_59
  rcases zAS h with ⟨rfl, rfl⟩ | h
  · exact of_fn tb_84
  rcases zAS h with ⟨rfl, rfl⟩ | h
  · exact of_fn tb_29
  rcases zAS h with ⟨rfl, rfl⟩ | h
  · exact of_fn tb_58
  rcases zAS h with ⟨rfl, rfl⟩ | h
  · exact of_fn tb_83
  rcases zAS h with ⟨rfl, rfl⟩ | h
  · exact of_fn tb_125
  rcases zAS h with ⟨rfl, rfl⟩ | h
  · exact of_fn tb_60
  rcases zAS h with ⟨rfl, rfl⟩ | h
  · exact of_fn tb_86
  rcases zAS h with ⟨rfl, rfl⟩ | h
  · exact of_fn tb_8
  rcases zAS h with ⟨rfl, rfl⟩ | h
  · exact of_fn tb_79
  rcases zAS h with ⟨rfl, rfl⟩ | h
  · exact of_fn tb_54
  rcases zAS h with ⟨rfl, rfl⟩ | h
  · exact of_fn tb_12
  rcases zAS h with ⟨rfl, rfl⟩ | h
  · exact of_fn tb_32
  rcases zAS h with ⟨rfl, rfl⟩ | h
  · exact of_fn tb_33
  rcases zAS h with ⟨rfl, rfl⟩ | h
  · exact of_fn tb_43
  rcases zAS h with ⟨rfl, rfl⟩ | h
  · exact of_fn tb_80
  rcases zAS h with ⟨rfl, rfl⟩ | h
  · exact of_fn tb_123
  rcases zAS h with ⟨rfl, rfl⟩ | h
  · exact of_fn tb_154
  rcases zAS h with ⟨rfl, rfl⟩ | h
  · exact of_fn tb_53
  rcases zAS h with ⟨rfl, rfl⟩ | h
  · exact of_fn tb_77
  rcases zAS h with ⟨rfl, rfl⟩ | h
  · exact of_fn tb_122
  rcases zAS h with ⟨rfl, rfl⟩ | h
  · exact of_fn tb_121
  rcases zAS h with ⟨rfl, rfl⟩ | h
  · exact of_fn tb_120
  rcases zAS h with ⟨rfl, rfl⟩ | h
  · exact of_fn tb_27
  rcases zAS h with ⟨rfl, rfl⟩ | h
  · exact of_fn tb_38
  rcases zAS h with ⟨rfl, rfl⟩ | h
  · exact of_fn tb_78
  rcases zAS h with ⟨rfl, rfl⟩ | h
  · exact of_fn tb_152
  rcases zAS h with ⟨rfl, rfl⟩ | h
  · exact of_fn tb_23
  rcases zAS h with ⟨rfl, rfl⟩ | h
  · exact of_fn tb_48
  rcases zAS h with ⟨rfl, rfl⟩ | h
  · exact of_fn tb_16
  rcases zAS h with ⟨rfl, rfl⟩ | h
  · exact of_fn tb_49
  rcases zAS h with ⟨rfl, rfl⟩ | h
  · exact of_fn tb_9
  rcases zAS h with ⟨rfl, rfl⟩ | h
  · exact of_fn tb_10
  rcases zAS h with ⟨rfl, rfl⟩ | h
  · exact of_fn tb_11
  rcases zAS h with ⟨rfl, rfl⟩ | h
  · exact of_fn tb_20
  rcases zAS h with ⟨rfl, rfl⟩ | h
  · exact of_fn tb_45
  rcases zAS h with ⟨rfl, rfl⟩ | h
  · exact of_fn tb_21
  rcases zAS h with ⟨rfl, rfl⟩ | h
  · exact of_fn tb_46
  rcases zAS h with ⟨rfl, rfl⟩ | h
  · exact of_fn tb_22
  rcases zAS h with ⟨rfl, rfl⟩ | h
  · exact of_fn tb_24
  rcases zAS h with ⟨rfl, rfl⟩ | h
  · exact of_fn tb_26
  rcases zAS h with ⟨rfl, rfl⟩ | h
  · exact of_fn tb_30
  rcases zAS h with ⟨rfl, rfl⟩ | h
  · exact of_fn tb_61
  rcases zAS h with ⟨rfl, rfl⟩ | h
  · exact of_fn tb_31
  rcases zAS h with ⟨rfl, rfl⟩ | h
  · exact of_fn tb_44
  rcases zAS h with ⟨rfl, rfl⟩ | h
  · exact of_fn tb_35
  rcases zAS h with ⟨rfl, rfl⟩ | h
  · exact of_fn tb_47
  rcases zAS h with ⟨rfl, rfl⟩ | h
  · exact of_fn tb_34
  rcases zAS h with ⟨rfl, rfl⟩ | h
  · exact of_fn tb_13
  rcases zAS h with ⟨rfl, rfl⟩ | h
  · exact of_fn tb_67
  rcases zAS h with ⟨rfl, rfl⟩ | h
  · exact of_fn tb_68
  rcases zAS h with ⟨rfl, rfl⟩ | h
  · exact of_fn tb_101
  rcases zAS h with ⟨rfl, rfl⟩ | h
  · exact of_fn tb_100
  rcases zAS h with ⟨rfl, rfl⟩ | h
  · exact of_fn tb_135
  rcases zAS h with ⟨rfl, rfl⟩ | h
  · exact of_fn tb_36
  rcases zAS h with ⟨rfl, rfl⟩ | h
  · exact of_fn tb_7
  rcases zAS h with ⟨rfl, rfl⟩ | h
  · exact of_fn tb_5
  rcases zAS h with ⟨rfl, rfl⟩ | h
  · exact of_fn tb_14
  rcases zAS h with ⟨rfl, rfl⟩ | h
  · exact of_fn tb_19
  cases h
end Go.Proofs
end
section
/-
  Functions of Go's library, as they lie in this seat's translation. Began as what the kit's lay-plain.mjs wrote.
-/
namespace Go.Proofs
open Go.Shelf
def Tryz.lays190_ren : Go.Shelf.Ren := ⟨fun | 190 => 37 | 125 => 64 | 258 => 63 | 128 => 96 | 129 => 97 | 302 => 87 | 303 => 88 | 304 => 89 | 305 => 90 | 306 => 91 | 307 => 92 | 308 => 93 | 309 => 94 | 310 => 95 | 333 => 126 | 329 => 127 | 330 => 128 | 334 => 129 | 335 => 130 | 336 => 131 | 344 => 156 | n => n, fun | 31 => 38 | 9 => 9 | 3 => 3 | 46 => 115 | 0 => 0 | 51 => 170 | 53 => 172 | 4 => 4 | 183 => 164 | 182 => 163 | 131 => 80 | 5 => 5 | 218 => 212 | 222 => 216 | 228 => 256 | 229 => 257 | n => n, fun | n => n⟩
theorem Tryz.lays190 : Go.Proofs.Lays.n190 Tryz.prog Tryz.lays190_ren := {
  mixed := by kernel_rfl
  f125 := Tryz.func64.trans (congrArg some (by kernel_rfl))
  f128 := Tryz.func96.trans (congrArg some (by kernel_rfl))
  f129 := Tryz.func97.trans (congrArg some (by kernel_rfl))
  f190 := Tryz.func37.trans (congrArg some (by kernel_rfl))
  f258 := Tryz.func63.trans (congrArg some (by kernel_rfl))
  f302 := Tryz.func87.trans (congrArg some (by kernel_rfl))
  f303 := Tryz.func88.trans (congrArg some (by kernel_rfl))
  f304 := Tryz.func89.trans (congrArg some (by kernel_rfl))
  f305 := Tryz.func90.trans (congrArg some (by kernel_rfl))
  f306 := Tryz.func91.trans (congrArg some (by kernel_rfl))
  f307 := Tryz.func92.trans (congrArg some (by kernel_rfl))
  f308 := Tryz.func93.trans (congrArg some (by kernel_rfl))
  f309 := Tryz.func94.trans (congrArg some (by kernel_rfl))
  f310 := Tryz.func95.trans (congrArg some (by kernel_rfl))
  f329 := Tryz.func127.trans (congrArg some (by kernel_rfl))
  f330 := Tryz.func128.trans (congrArg some (by kernel_rfl))
  f333 := Tryz.func126.trans (congrArg some (by kernel_rfl))
  f334 := Tryz.func129.trans (congrArg some (by kernel_rfl))
  f335 := Tryz.func130.trans (congrArg some (by kernel_rfl))
  f336 := Tryz.func131.trans (congrArg some (by kernel_rfl))
  f344 := Tryz.func156.trans (congrArg some (by kernel_rfl))
  t0 := Tryz.underlying0
  a0 := Tryz.isAgg0
  z0 := Tryz.sizeOf0
  v0 := Tryz.zeroValue0
  t3 := Tryz.underlying3
  a3 := Tryz.isAgg3
  z3 := Tryz.sizeOf3
  v3 := Tryz.zeroValue3
  t4 := Tryz.underlying4
  a4 := Tryz.isAgg4
  z4 := Tryz.sizeOf4
  v4 := Tryz.zeroValue4
  t5 := Tryz.underlying5
  a5 := Tryz.isAgg5
  z5 := Tryz.sizeOf5
  v5 := Tryz.zeroValue5
  t9 := Tryz.underlying9
  a9 := Tryz.isAgg9
  z9 := Tryz.sizeOf9
  v9 := Tryz.zeroValue9
  t31 := Tryz.underlying38
  a31 := Tryz.isAgg38
  z31 := Tryz.sizeOf38
  v31 := Tryz.zeroValue38
  t46 := Tryz.underlying115
  a46 := Tryz.isAgg115
  z46 := Tryz.sizeOf115
  v46 := Tryz.zeroValue115
  t51 := Tryz.underlying170
  a51 := Tryz.isAgg170
  z51 := Tryz.sizeOf170
  v51 := Tryz.zeroValue170
  t53 := Tryz.underlying172
  a53 := Tryz.isAgg172
  z53 := Tryz.sizeOf172
  v53 := Tryz.zeroValue172
  t131 := Tryz.underlying80
  a131 := Tryz.isAgg80
  z131 := Tryz.sizeOf80
  v131 := Tryz.zeroValue80
  t182 := Tryz.underlying163
  a182 := Tryz.isAgg163
  z182 := Tryz.sizeOf163
  v182 := Tryz.zeroValue163
  t183 := Tryz.underlying164
  a183 := Tryz.isAgg164
  z183 := Tryz.sizeOf164
  v183 := Tryz.zeroValue164
  t218 := Tryz.underlying212
  a218 := Tryz.isAgg212
  z218 := Tryz.sizeOf212
  v218 := Tryz.zeroValue212
  t222 := Tryz.underlying216
  a222 := Tryz.isAgg216
  z222 := Tryz.sizeOf216
  v222 := Tryz.zeroValue216
  t228 := Tryz.underlying256
  a228 := Tryz.isAgg256
  z228 := Tryz.sizeOf256
  v228 := Tryz.zeroValue256
  t229 := Tryz.underlying257
  a229 := Tryz.isAgg257
  z229 := Tryz.sizeOf257
  v229 := Tryz.zeroValue257 }
def Tryz.lays144_ren : Go.Shelf.Ren := ⟨fun | 144 => 82 | 143 => 124 | 219 => 155 | 217 => 177 | 225 => 178 | 224 => 179 | 267 => 180 | 266 => 199 | 314 => 200 | n => n, fun | 9 => 9 | 4 => 4 | 3 => 3 | 5 => 5 | 46 => 115 | 146 => 302 | 51 => 170 | n => n, fun | 1 => 2 | n => n⟩
theorem Tryz.lays144 : Go.Proofs.Lays.n144 Tryz.prog Tryz.lays144_ren := {
  mixed := by kernel_rfl
  f143 := Tryz.func124.trans (congrArg some (by kernel_rfl))
  f144 := Tryz.func82.trans (congrArg some (by kernel_rfl))
  f217 := Tryz.func177.trans (congrArg some (by kernel_rfl))
  f219 := Tryz.func155.trans (congrArg some (by kernel_rfl))
  f224 := Tryz.func179.trans (congrArg some (by kernel_rfl))
  f225 := Tryz.func178.trans (congrArg some (by kernel_rfl))
  f266 := Tryz.func199.trans (congrArg some (by kernel_rfl))
  f267 := Tryz.func180.trans (congrArg some (by kernel_rfl))
  f314 := Tryz.func200.trans (congrArg some (by kernel_rfl))
  t3 := Tryz.underlying3
  a3 := Tryz.isAgg3
  z3 := Tryz.sizeOf3
  v3 := Tryz.zeroValue3
  t4 := Tryz.underlying4
  a4 := Tryz.isAgg4
  z4 := Tryz.sizeOf4
  v4 := Tryz.zeroValue4
  t5 := Tryz.underlying5
  a5 := Tryz.isAgg5
  z5 := Tryz.sizeOf5
  v5 := Tryz.zeroValue5
  t9 := Tryz.underlying9
  a9 := Tryz.isAgg9
  z9 := Tryz.sizeOf9
  v9 := Tryz.zeroValue9
  t46 := Tryz.underlying115
  a46 := Tryz.isAgg115
  z46 := Tryz.sizeOf115
  v46 := Tryz.zeroValue115
  t51 := Tryz.underlying170
  a51 := Tryz.isAgg170
  z51 := Tryz.sizeOf170
  v51 := Tryz.zeroValue170
  t146 := Tryz.underlying302
  a146 := Tryz.isAgg302
  z146 := Tryz.sizeOf302
  v146 := Tryz.zeroValue302
  g1 := by kernel_rfl }
def Tryz.laysM171_ren : Go.Shelf.Ren := ⟨fun | 171 => 119 | 243 => 151 | 246 => 175 | 283 => 194 | 284 => 195 | 285 => 196 | 286 => 197 | 129 => 97 | 317 => 212 | 318 => 213 | 319 => 214 | 320 => 215 | 337 => 220 | 338 => 221 | n => n, fun | 3 => 3 | 9 => 9 | 2 => 2 | 4 => 4 | 171 => 297 | 0 => 0 | 53 => 172 | 37 => 250 | 5 => 5 | 173 => 299 | 212 => 327 | 51 => 170 | 20 => 20 | 213 => 328 | 46 => 115 | 232 => 332 | 233 => 333 | n => n, fun | 17 => 8 | 18 => 9 | 19 => 10 | n => n⟩
theorem Tryz.laysM171 : Go.Proofs.LaysM.n171 Tryz.prog Tryz.laysM171_ren := {
  mixed := by kernel_rfl
  f129 := Tryz.func97.trans (congrArg some (by kernel_rfl))
  f171 := Tryz.func119.trans (congrArg some (by kernel_rfl))
  f243 := Tryz.func151.trans (congrArg some (by kernel_rfl))
  f246 := Tryz.func175.trans (congrArg some (by kernel_rfl))
  f283 := Tryz.func194.trans (congrArg some (by kernel_rfl))
  f284 := Tryz.func195.trans (congrArg some (by kernel_rfl))
  f285 := Tryz.func196.trans (congrArg some (by kernel_rfl))
  f286 := Tryz.func197.trans (congrArg some (by kernel_rfl))
  f317 := Tryz.func212.trans (congrArg some (by kernel_rfl))
  f318 := Tryz.func213.trans (congrArg some (by kernel_rfl))
  f319 := Tryz.func214.trans (congrArg some (by kernel_rfl))
  f320 := Tryz.func215.trans (congrArg some (by kernel_rfl))
  f337 := Tryz.func220.trans (congrArg some (by kernel_rfl))
  f338 := Tryz.func221.trans (congrArg some (by kernel_rfl))
  t0 := Tryz.underlying0
  a0 := Tryz.isAgg0
  z0 := Tryz.sizeOf0
  v0 := Tryz.zeroValue0
  t2 := Tryz.underlying2
  a2 := Tryz.isAgg2
  z2 := Tryz.sizeOf2
  v2 := Tryz.zeroValue2
  t3 := Tryz.underlying3
  a3 := Tryz.isAgg3
  z3 := Tryz.sizeOf3
  v3 := Tryz.zeroValue3
  t4 := Tryz.underlying4
  a4 := Tryz.isAgg4
  z4 := Tryz.sizeOf4
  v4 := Tryz.zeroValue4
  t5 := Tryz.underlying5
  a5 := Tryz.isAgg5
  z5 := Tryz.sizeOf5
  v5 := Tryz.zeroValue5
  t9 := Tryz.underlying9
  a9 := Tryz.isAgg9
  z9 := Tryz.sizeOf9
  v9 := Tryz.zeroValue9
  t20 := Tryz.underlying20
  a20 := Tryz.isAgg20
  z20 := Tryz.sizeOf20
  v20 := Tryz.zeroValue20
  t37 := Tryz.underlying250
  a37 := Tryz.isAgg250
  z37 := Tryz.sizeOf250
  v37 := Tryz.zeroValue250
  t46 := Tryz.underlying115
  a46 := Tryz.isAgg115
  z46 := Tryz.sizeOf115
  v46 := Tryz.zeroValue115
  t51 := Tryz.underlying170
  a51 := Tryz.isAgg170
  z51 := Tryz.sizeOf170
  v51 := Tryz.zeroValue170
  t53 := Tryz.underlying172
  a53 := Tryz.isAgg172
  z53 := Tryz.sizeOf172
  v53 := Tryz.zeroValue172
  t171 := Tryz.underlying297
  a171 := Tryz.isAgg297
  z171 := Tryz.sizeOf297
  v171 := Tryz.zeroValue297
  t173 := Tryz.underlying299
  a173 := Tryz.isAgg299
  z173 := Tryz.sizeOf299
  v173 := Tryz.zeroValue299
  t212 := Tryz.underlying327
  a212 := Tryz.isAgg327
  z212 := Tryz.sizeOf327
  v212 := Tryz.zeroValue327
  t213 := Tryz.underlying328
  a213 := Tryz.isAgg328
  z213 := Tryz.sizeOf328
  t232 := Tryz.underlying332
  a232 := Tryz.isAgg332
  z232 := Tryz.sizeOf332
  v232 := Tryz.zeroValue332
  t233 := Tryz.underlying333
  a233 := Tryz.isAgg333
  z233 := Tryz.sizeOf333
  v233 := Tryz.zeroValue333
  g17 := by kernel_rfl
  g18 := by kernel_rfl
  g19 := by kernel_rfl
  i0 := by kernel_rfl
  i2 := by kernel_rfl
  i3 := by kernel_rfl
  i4 := by kernel_rfl
  i5 := by kernel_rfl
  i9 := by kernel_rfl
  i20 := by kernel_rfl
  i37 := by kernel_rfl
  i46 := by kernel_rfl
  i51 := by kernel_rfl
  i53 := by kernel_rfl
  i171 := by kernel_rfl
  i173 := by kernel_rfl
  i212 := by kernel_rfl
  i232 := by kernel_rfl
  i233 := by kernel_rfl
  m17 := by kernel_rfl
  m18 := by kernel_rfl
  m19 := by kernel_rfl }
def Tryz.lays169_ren : Go.Shelf.Ren := ⟨fun | 169 => 153 | n => n, fun | 70 => 249 | 9 => 9 | 0 => 0 | 72 => 252 | 37 => 250 | 127 => 282 | 3 => 3 | 5 => 5 | n => n, fun | n => n⟩
theorem Tryz.lays169 : Go.Proofs.Lays.n169 Tryz.prog Tryz.lays169_ren := {
  mixed := by kernel_rfl
  f169 := Tryz.func153.trans (congrArg some (by kernel_rfl))
  t0 := Tryz.underlying0
  a0 := Tryz.isAgg0
  z0 := Tryz.sizeOf0
  v0 := Tryz.zeroValue0
  t3 := Tryz.underlying3
  a3 := Tryz.isAgg3
  z3 := Tryz.sizeOf3
  v3 := Tryz.zeroValue3
  t9 := Tryz.underlying9
  a9 := Tryz.isAgg9
  z9 := Tryz.sizeOf9
  v9 := Tryz.zeroValue9
  t37 := Tryz.underlying250
  a37 := Tryz.isAgg250
  z37 := Tryz.sizeOf250
  v37 := Tryz.zeroValue250
  t70 := Tryz.underlying249
  a70 := Tryz.isAgg249
  z70 := Tryz.sizeOf249
  v70 := Tryz.zeroValue249
  t72 := Tryz.underlying252
  a72 := Tryz.isAgg252
  z72 := Tryz.sizeOf252
  v72 := Tryz.zeroValue252
  t127 := Tryz.underlying282
  a127 := Tryz.isAgg282
  z127 := Tryz.sizeOf282
  v127 := Tryz.zeroValue282 }
def Tryz.lays240_ren : Go.Shelf.Ren := ⟨fun | 240 => 176 | 276 => 198 | n => n, fun | 0 => 0 | 4 => 4 | 9 => 9 | 20 => 20 | 37 => 250 | 70 => 249 | 72 => 252 | 164 => 180 | n => n, fun | n => n⟩
theorem Tryz.lays240 : Go.Proofs.Lays.n240 Tryz.prog Tryz.lays240_ren := {
  mixed := by kernel_rfl
  f240 := Tryz.func176.trans (congrArg some (by kernel_rfl))
  f276 := Tryz.func198.trans (congrArg some (by kernel_rfl))
  t0 := Tryz.underlying0
  a0 := Tryz.isAgg0
  z0 := Tryz.sizeOf0
  v0 := Tryz.zeroValue0
  t4 := Tryz.underlying4
  a4 := Tryz.isAgg4
  z4 := Tryz.sizeOf4
  v4 := Tryz.zeroValue4
  t9 := Tryz.underlying9
  a9 := Tryz.isAgg9
  z9 := Tryz.sizeOf9
  v9 := Tryz.zeroValue9
  t20 := Tryz.underlying20
  a20 := Tryz.isAgg20
  z20 := Tryz.sizeOf20
  v20 := Tryz.zeroValue20
  t70 := Tryz.underlying249
  a70 := Tryz.isAgg249
  z70 := Tryz.sizeOf249
  v70 := Tryz.zeroValue249
  t72 := Tryz.underlying252
  a72 := Tryz.isAgg252
  z72 := Tryz.sizeOf252
  v72 := Tryz.zeroValue252
  t164 := Tryz.underlying180
  a164 := Tryz.isAgg180
  z164 := Tryz.sizeOf180
  v164 := Tryz.zeroValue180 }
theorem Tryz.Builder_X72_240 : Builder.X72 Tryz.prog Tryz.lays240_ren where
  sizeBuilder := by kernel_rfl
  liesBuilder := by kernel_rfl
theorem Tryz.Builder_Extra_169 : Builder.Extra Tryz.prog Tryz.lays169_ren := {
  sizeBuilder := by kernel_rfl
  liesBuilder := by kernel_rfl
  t5 := Tryz.underlying5
  a5 := Tryz.isAgg5
  z5 := Tryz.sizeOf5
  v5 := Tryz.zeroValue5
  infoByte := by kernel_rfl
  cellsByte := by kernel_rfl
  sizeByte := by kernel_rfl
  neB5 := by decide }
end Go.Proofs
end
section
/-
  Room for a row, as it lies in this seat's translation.
-/
namespace Go.Proofs
open Go.Shelf
def Tryz.growS_ren : Go.Shelf.Ren := ⟨fun | 4 => 62 | n => n, fun | 22 => 38 | 25 => 9 | n => n, fun | n => n⟩
theorem Tryz.growS : Go.Proofs.Lays8.n4 Tryz.prog Tryz.growS_ren := {
  mixed := by kernel_rfl
  f4 := ⟨ "slices.Grow[[]string,string]", of_decide_eq_true (by kernel_rfl), Tryz.func62.trans (congrArg some (by kernel_rfl))⟩
  t0 := Tryz.underlying0
  a0 := Tryz.isAgg0
  z0 := Tryz.sizeOf0
  v0 := Tryz.zeroValue0
  t3 := Tryz.underlying3
  a3 := Tryz.isAgg3
  z3 := Tryz.sizeOf3
  v3 := Tryz.zeroValue3
  t4 := Tryz.underlying4
  a4 := Tryz.isAgg4
  z4 := Tryz.sizeOf4
  v4 := Tryz.zeroValue4
  t9 := Tryz.underlying9
  a9 := Tryz.isAgg9
  z9 := Tryz.sizeOf9
  v9 := Tryz.zeroValue9
  t20 := Tryz.underlying20
  a20 := Tryz.isAgg20
  z20 := Tryz.sizeOf20
  v20 := Tryz.zeroValue20
  t22 := Tryz.underlying38
  a22 := Tryz.isAgg38
  z22 := Tryz.sizeOf38
  v22 := Tryz.zeroValue38 }
theorem Tryz.strInfo : ∃ i, Tryz.prog.info? 9 = some i ∧ i.zero = some (Value.string ⟨#[]⟩) ∧ i.size = 1 ∧ i.bytes = 16 := by
  have h : (Tryz.prog.info? 9).map (fun i => (i.zero, i.size, i.bytes)) = some (some (Value.string ⟨#[]⟩), 1, 16) := by kernel_rfl
  obtain ⟨i, h1, h2⟩ := Option.map_eq_some_iff.1 h
  simp only [Prod.mk.injEq] at h2
  exact ⟨i, h1, h2.1, h2.2.1, h2.2.2⟩
end Go.Proofs
end
section
/-
  Room for a row of texts that is to come.
-/
namespace Go.Ab
open Go Go.Proofs Go.Shelf Go.RowKit
section
variable {P : Program} {ρ : Ren} {N : Nat} {w0 : World}
theorem s_grow_none (L : Lays8.n4 P ρ) {h : AHeap} {G : GM} {argsV : Array Value} {w : World} {Q : AVal × AHeap → Prop} (hR : Rel P N w0 G h w) (hv : VsR P G [.slice none 0, .int .i64 0] argsV.toList)
    (hq : Q (.slice none 0, h)) : CallsIn (FR none) 0 P (ρ.f 4) argsV w (PostC P N w0 G h w Q) := by
  obtain ⟨x, y, rfl, h1, h2⟩ := args2 hv
  obtain rfl : x = .slice none 0 0 := (show (0 : Nat) = 0 ∧ x = .slice none 0 0 from h1).2
  obtain rfl : y = .int .i64 0 := h2
  exact post_same hR (v := .slice none 0) ⟨rfl, rfl⟩ hq (Any8.slices_Grow_room L none 0 0 0 w (by decide) (by decide) (by decide) (by decide))
theorem s_grow (L : Lays8.n4 P ρ) {i0 : TypeInfo} {z : Value} (hi0 : P.info? (ρ.t 25) = some i0) (hz0 : i0.zero = some z) (hs0 : i0.size = 1) (hb0 : i0.bytes = 16) (hc : P.cellsOf (ρ.t 25) = 1) (hz1 : z.cells.size = 1) {n : Nat} (hn0 : 0 < n) (hn : n ≤ 2147483648)
    {h : AHeap} {G : GM} {argsV : Array Value} {w : World} {Q : AVal × AHeap → Prop} (hR : Rel P N w0 G h w) (hv : VsR P G [.slice none 0, .int .i64 (n : Nat)] argsV.toList)
    (hq : Q (.slice (some (h.next, 0)) 0, newA h (.cells false (ρ.t 25) []))) : CallsIn (FR none) 0 P (ρ.f 4) argsV w (PostC P N w0 G h w Q) := by
  obtain ⟨x, y, rfl, h1, h2⟩ := args2 hv
  obtain rfl : x = .slice none 0 0 := (show (0 : Nat) = 0 ∧ x = .slice none 0 0 from h1).2
  obtain rfl : y = .int .i64 (n : Nat) := h2
  refine callsIn_wide.2 ((Any8.slices_Grow_grow L i0 z hi0 hz0 (by omega) none 0 0 n [] w (by decide) (by omega) (by rw [hb0]; omega) (by omega) (by simp) (fun _ => rfl) (fun a ha => by cases ha)).mono fun e w' hp => ?_)
  obtain ⟨rfl, rfl⟩ := hp
  have hge : 0 + n ≤ grownCap w (0 + n) 0 (ρ.t 25) := grownCap_ge w _ _ _
  generalize grownCap w (0 + n) 0 (ρ.t 25) = g at hge
  obtain ⟨R1, E1⟩ := alloc_cells (vs := []) (c := ([] : List Value).toArray ++ Builtin.zeroCells z.cells (0 + n - 0) ++ Builtin.zeroCells z.cells (g - (0 + n))) hR.drew (ρ.t 25) (by simp [VsR]) (by simp)
  have hsz : (([] : List Value).toArray ++ Builtin.zeroCells z.cells (0 + n - 0) ++ Builtin.zeroCells z.cells (g - (0 + n))).size = g := by
    rw [Array.size_append, Array.size_append, size_zeroCells, size_zeroCells, hz1]; simp; omega
  refine ⟨_, _, _, _, rfl, hq, R1, (Ext.drew (Ext.refl G h w)).trans E1, ⟨_, g, addG_same, ?_, by omega, ?_⟩⟩
  · rfl
  · rw [hc]; simp only; omega
end
end Go.Ab
end
section
/-
  Library functions taken at their word, and the document's texts: all of it is so in this program.
-/
namespace Go.Proofs
open Go Go.Ab Go.Ab.S
open Go.RowKit (Below)
theorem prefL_N : ∀ a b : List Nat, prefL a b = prefN a b
  | [], _ => rfl
  | _ :: _, [] => rfl
  | x :: a, y :: b => by
    rw [prefL, prefN, prefL_N a b]
    cases h : Nat.beq x y with
    | true => rw [Nat.eq_of_beq_eq_true h]; simp
    | false =>
      have : (x == y) = false := by
        rw [beq_eq_false_iff_ne]; rintro rfl; rw [Nat.beq_refl] at h; cases h
      rw [this]; rfl
theorem inL_N : ∀ s t : List Nat, inL s t = inN s t
  | [], t => by rw [inL, inN, prefL_N]
  | a :: s, t => by
    rw [inL, inN, prefL_N, inL_N s t]
    cases prefN t (a :: s) <;> rfl
theorem digF_dec : ∀ (f n : Nat), n < 10 ^ (f + 1) → digF f n = numsOf (Lib.decDigits n)
  | 0, n, h => by
    rw [Lib.decDigits, dif_pos (by omega), digF, Nat.mod_eq_of_lt (by omega)]
    simp only [numsOf, List.map_cons, List.map_nil, UInt8.toNat_ofNat']
    rw [Nat.mod_eq_of_lt (by omega)]
  | f + 1, n, h => by
    rw [Lib.decDigits, digF]
    by_cases h10 : n < 10
    · rw [dif_pos h10, if_pos h10]
      simp only [numsOf, List.map_cons, List.map_nil, UInt8.toNat_ofNat']
      rw [Nat.mod_eq_of_lt (by omega)]
    · rw [dif_neg h10, if_neg h10, digF_dec f (n / 10) (by rw [Nat.pow_succ] at h; omega)]
      simp only [numsOf, List.map_append, List.map_cons, List.map_nil, UInt8.toNat_ofNat']
      rw [Nat.mod_eq_of_lt (a := 48 + n % 10) (by omega)]
theorem itoa_eq {n : Int} (h0 : -9223372036854775808 ≤ n) (h1 : n ≤ 9223372036854775807) : numsOf (Lib.itoa n) = itoaN n := by
  unfold Lib.itoa itoaN
  by_cases hn : n < 0
  · rw [if_pos hn, if_pos hn, digN, digF_dec 19 _ (by omega)]; rfl
  · rw [if_neg hn, if_neg hn, digN, digF_dec 19 _ (by omega)]
def bytesOf : List AVal → Option (List UInt8)
  | [] => some []
  | .int .u8 (.ofNat x) :: r => (match Nat.blt x 256, bytesOf r with | true, some l => some (UInt8.ofNat x :: l) | _, _ => none)
  | _ => none
theorem bytesOf_sound : ∀ {vs : List AVal} {l : List UInt8}, bytesOf vs = some l → vs = l.map fun x => AVal.int .u8 (x.toNat : Nat)
  | [], l, h => by simp only [bytesOf, Option.some.injEq] at h; subst h; rfl
  | v :: r, l, h => by
    unfold bytesOf at h
    split at h
    · rename_i heq; cases heq
    · rename_i x r' heq
      cases heq
      split at h
      · rename_i l' hx hl
        simp only [Option.some.injEq] at h
        subst h
        rw [bytesOf_sound hl, List.map_cons, UInt8.toNat_ofNat', Nat.mod_eq_of_lt (Nat.blt_eq.mp hx)]; rfl
      · cases h
    · cases h
theorem bytesOf_map : ∀ (l : List Nat), (∀ x ∈ l, x < 256) → ∃ b, bytesOf (l.map fun x => AVal.int .u8 (x : Nat)) = some b ∧ numsOf b = l ∧ b.length = l.length
  | [], _ => ⟨[], rfl, rfl, rfl⟩
  | x :: l, h => by
    obtain ⟨b, h1, h2, h3⟩ := bytesOf_map l fun y hy => h y (by simp [hy])
    have hx := h x (by simp)
    refine ⟨UInt8.ofNat x :: b, ?_, ?_, by simp [h3]⟩
    · rw [List.map_cons]
      show (match Nat.blt x 256, bytesOf _ with | true, some l => some (UInt8.ofNat x :: l) | _, _ => none) = _
      rw [h1, Nat.blt_eq.mpr hx]
    · simp only [numsOf, List.map_cons, UInt8.toNat_ofNat'] at h2 ⊢
      rw [h2, Nat.mod_eq_of_lt hx]
structure WOK (W : World) : Prop where
  maxLen : ∃ m, W.cell? ⟨2, 0, none⟩ = some (.int .i64 m)
  space : TblOK Tryz.prog W.heap.size W 1 200 tabA
  pow : ∀ w, Below W.heap.size W w → Lib.TabIs Tryz.prog w "internal/strconv.uint64pow10" .u64 Lib.pow10Tab
  globs : Tryz.prog.globals.size ≤ W.heap.size
theorem mixed : Tryz.prog.follows .mixedOrders = true := by kernel_rfl
theorem globs12 : Tryz.prog.globals.size = 12 := by kernel_rfl
theorem enters82 : Ab.Enters Tryz.prog 82 := ⟨Tryz.f82, _, Tryz.func82, by kernel_rfl, rfl⟩
theorem enters119 : Ab.Enters Tryz.prog 119 := ⟨Tryz.f119, _, Tryz.func119, by kernel_rfl, rfl⟩
theorem enters176 : Ab.Enters Tryz.prog 176 := ⟨Tryz.f176, _, Tryz.func176, by kernel_rfl, rfl⟩
theorem enters153 : Ab.Enters Tryz.prog 153 := ⟨Tryz.f153, _, Tryz.func153, by kernel_rfl, rfl⟩
theorem enters37 : Ab.Enters Tryz.prog 37 := ⟨Tryz.f37, _, Tryz.func37, by kernel_rfl, rfl⟩
theorem enters62 : Ab.Enters Tryz.prog 62 := ⟨Tryz.f62, _, Tryz.func62, by kernel_rfl, rfl⟩
theorem enters25 : Ab.Enters Tryz.prog 25 := ⟨Tryz.f25, _, Tryz.func25, by kernel_rfl, rfl⟩
section
variable {W : World} (K : WOK W)
include K
theorem summ0_ok : SummOK Tryz.prog W.heap.size W summ0 := by
  intro f args h d hd
  unfold summ0 at hd
  split at hd
  · rename_i hf
    have hf := Nat.eq_of_beq_eq_true hf
    subst hf
    split at hd
    · rename_i s t
      split at hd
      · rename_i hs
        have hs := Nat.le_of_ble_eq_true hs
        simp only [Option.some.injEq] at hd
        subst hd
        refine ⟨enters82, fun G argsV w Q R hv hq => ?_⟩
        exact s_contains Tryz.lays144 (w0 := W) K.maxLen (by have := K.globs; rw [globs12] at this; show 2 < _; omega) (by omega) R hv hq
      · cases hd
    · cases hd
  · cases hd
end
def rdOf (s : List Nat) : Option (Nat × List (TypeId × List AVal)) :=
  match eqL s tF with
  | true => some (4, osF)
  | false => (match eqL s tS with
    | true => some (4, osS)
    | false => (match eqL s tN with
      | true => some (3, osN)
      | false => none))
def strsOf : List AVal → Option (List (List Nat))
  | [] => some []
  | .str s :: r => (match strsOf r with | some l => some (s :: l) | none => none)
  | _ => none
theorem strsOf_sound : ∀ {vs : List AVal} {l : List (List Nat)}, strsOf vs = some l → vs = l.map AVal.str
  | [], l, h => by simp only [strsOf, Option.some.injEq] at h; subst h; rfl
  | v :: r, l, h => by
    unfold strsOf at h
    split at h
    · rename_i heq; cases heq
    · rename_i s r' heq
      cases heq
      split at h
      · rename_i l' hl
        simp only [Option.some.injEq] at h
        subst h
        rw [strsOf_sound hl]; rfl
      · cases h
    · cases h
theorem strsOf_map : ∀ l : List (List Nat), strsOf (l.map AVal.str) = some l
  | [] => rfl
  | s :: l => by
    rw [List.map_cons]
    show (match strsOf (l.map AVal.str) with | some l => some (s :: l) | none => none) = _
    rw [strsOf_map l]
def summ1 : FuncId → List AVal → AHeap → Option (D (AVal × AHeap)) := fun f args h =>
  if f = 82 then (match args with
    | [.str s, .str t] => if s.length ≤ 2000 then some (.ret (.bool (inL s t), h)) else none
    | _ => none)
  else if f = 119 then (match args with
    | [.int .i64 n] => if -9223372036854775808 ≤ n ∧ n ≤ 9223372036854775807 then some (.ret (.str (itoaN n), h)) else none
    | _ => none)
  else if f = 176 then (match args with
    | [.ptr (some (b, 0))] => (match h.objs.get b with
      | some (_, .cells false e [.ptr none, s]) => if e = 252 ∧ Go.Ab.one s = true then some (.ret (.tuple [], putObjA h b (.cells false 252 [.ptr (some (b, 0)), s]))) else none
      | some (_, .cells false e [.ptr (some (c, 0)), _]) => if e = 252 ∧ c = b then some (.ret (.tuple [], h)) else none
      | _ => none)
    | _ => none)
  else if f = 153 then (match args with
    | [.ptr (some (b, 0))] => (match h.objs.get b with
      | some (_, .cells false _ [_, .slice (some (c, 0)) n]) => (match h.objs.get c with
        | some (_, .cells false e vs) => (match bytesOf (vs.take n) with
          | some l => if e = 5 ∧ l ≠ [] ∧ l.length = n ∧ n ≤ 1000000 then some (.ret (.str (numsOf l), dropA h c)) else none
          | none => none)
        | _ => none)
      | _ => none)
    | _ => none)
  else if f = 25 then (match args with
    | [.str s] => (match rdOf s with
      | some (n, os) => some (.ret (mapV (h.next + ·) (vR n), layH h.next os h))
      | none => none)
    | _ => none)
  else if f = 37 then (match args with
    | [.slice none n] => if n = 0 then some (.ret (.tuple [], h)) else none
    | [.slice0] => some (.ret (.tuple [], h))
    | [.slice (some (b, 0)) n] => (match h.objs.get b with
      | some (_, .cells false e vs) => (match strsOf (vs.take n) with
        | some l => if e = 9 ∧ l.length = n ∧ n ≤ 2147483648 ∧ (l.all fun s => s.all fun c => decide (c < 256)) = true then some (.ret (.tuple [], putObjA h b (.cells false 9 ((sortL l).map AVal.str ++ vs.drop n)))) else none
        | none => none)
      | _ => none)
    | _ => none)
  else if f = 62 then (match args with
    | [.slice none z, .int .i64 n] => if z = 0 ∧ n = 0 then some (.ret (.slice none 0, h)) else if z = 0 ∧ 0 < n ∧ n ≤ 2147483648 then some (.ret (.slice (some (h.next, 0)) 0, newA h (.cells false 9 []))) else none
    | _ => none)
  else none
section
variable {W : World} (K : WOK W)
include K
theorem read_ok {s : List Nat} {keep : List Nat} {n : Nat} {os : List (TypeId × List AVal)} (hk : keep.length = os.length) (hnd : keep.Nodup) (hpl : ∀ o ∈ os, plainVs os.length o.2 = true) (hv0 : plainV os.length (vR n) = true)
    (he : ((run (fnsP Tryz.prog) summ0 4000).call 25 [.str s] (tblH 1 200 tabA)).all (isAt keep (vR n) os) = true) {h : AHeap} {G : GM} {argsV : Array Value} {w : World} {Q : AVal × AHeap → Prop} (R : Rel Tryz.prog W.heap.size W G h w) (hv : VsR Tryz.prog G [.str s] argsV.toList) (hq : (D.ret (mapV (h.next + ·) (vR n), layH h.next os h)).sat Q) :
    CallsIn (FR none) 0 Tryz.prog 25 argsV w (PostC Tryz.prog W.heap.size W G h w Q) :=
  summ_run mixed (fnsP_ok _) (summ0_ok K) K.space rfl hk hnd hpl hv0 he R hv hq
theorem summ1_ok : SummOK Tryz.prog W.heap.size W summ1 := by
  intro f args h d hd
  unfold summ1 at hd
  split at hd
  · rename_i hf
    subst hf
    split at hd
    · split at hd
      · simp only [Option.some.injEq] at hd
        subst hd
        refine ⟨enters82, fun G argsV w Q R hv hq => ?_⟩
        rw [D.sat_ret, inL_N] at hq
        exact s_contains Tryz.lays144 (w0 := W) K.maxLen (by have := K.globs; rw [globs12] at this; show 2 < _; omega) (by omega) R hv hq
      · cases hd
    · cases hd
  split at hd
  · rename_i hf
    subst hf
    split at hd
    · split at hd
      · rename_i n hn
        simp only [Option.some.injEq] at hd
        subst hd
        refine ⟨enters119, fun G argsV w Q R hv hq => ?_⟩
        rw [D.sat_ret, ← itoa_eq hn.1 hn.2] at hq
        exact s_itoa Tryz.laysM171 n hn.1 hn.2 K.pow R hv hq
      · cases hd
    · cases hd
  split at hd
  · rename_i hf
    subst hf
    split at hd
    · rename_i b
      split at hd
      · rename_i ver e s hb
        split at hd
        · rename_i he
          obtain ⟨rfl, hs⟩ := he
          simp only [Option.some.injEq] at hd
          subst hd
          exact ⟨enters176, fun G argsV w Q R hv hq => s_check_fresh Tryz.lays240 Tryz.Builder_X72_240 hs hb R hv hq⟩
        · cases hd
      · rename_i ver e c s hb
        split at hd
        · rename_i he
          obtain ⟨rfl, rfl⟩ := he
          simp only [Option.some.injEq] at hd
          subst hd
          exact ⟨enters176, fun G argsV w Q R hv hq => s_check_used (ro := false) Tryz.lays240 Tryz.Builder_X72_240 hb R hv hq⟩
        · cases hd
      · cases hd
    · cases hd
  split at hd
  · rename_i hf
    subst hf
    split at hd
    · rename_i b
      split at hd
      · rename_i ver e x0 c n hb
        split at hd
        · rename_i ver' e' vs hc
          split at hd
          · rename_i l hl
            split at hd
            · rename_i he
              obtain ⟨rfl, h1, rfl, h3⟩ := he
              simp only [Option.some.injEq] at hd
              subst hd
              exact ⟨enters153, fun G argsV w Q R hv hq => s_string Tryz.lays169 Tryz.Builder_Extra_169 h1 hb hc (bytesOf_sound hl) h3 R hv hq⟩
            · cases hd
          · cases hd
        · cases hd
      · cases hd
    · cases hd
  split at hd
  · rename_i hf
    subst hf
    split at hd
    · rename_i s
      split at hd
      · rename_i n os hr
        simp only [Option.some.injEq] at hd
        subst hd
        refine ⟨enters25, fun G argsV w Q R hv hq => ?_⟩
        unfold rdOf at hr
        split at hr
        · rename_i hs
          rw [eqL_iff.1 hs] at hv
          simp only [Option.some.injEq, Prod.mk.injEq] at hr
          obtain ⟨rfl, rfl⟩ := hr
          exact read_ok K rfl (by decide) (by decide) (by decide) readF R hv hq
        split at hr
        · rename_i hs
          rw [eqL_iff.1 hs] at hv
          simp only [Option.some.injEq, Prod.mk.injEq] at hr
          obtain ⟨rfl, rfl⟩ := hr
          exact read_ok K rfl (by decide) (by decide) (by decide) readS R hv hq
        split at hr
        · rename_i hs
          rw [eqL_iff.1 hs] at hv
          simp only [Option.some.injEq, Prod.mk.injEq] at hr
          obtain ⟨rfl, rfl⟩ := hr
          exact read_ok K rfl (by decide) (by decide) (by decide) readN R hv hq
        · cases hr
      · cases hd
    · cases hd
  split at hd
  · rename_i hf
    subst hf
    split at hd
    · split at hd
      · rename_i hn
        subst hn
        simp only [Option.some.injEq] at hd
        subst hd
        exact ⟨enters37, fun G argsV w Q R hv hq => s_sort_none Tryz.lays190 (.inl rfl) R hv hq⟩
      · cases hd
    · simp only [Option.some.injEq] at hd
      subst hd
      exact ⟨enters37, fun G argsV w Q R hv hq => s_sort_none Tryz.lays190 (.inr rfl) R hv hq⟩
    · rename_i b n
      split at hd
      · rename_i ver e vs hb
        split at hd
        · rename_i l hl
          split at hd
          · rename_i he
            obtain ⟨rfl, rfl, h3, h4⟩ := he
            simp only [Option.some.injEq] at hd
            subst hd
            refine ⟨enters37, fun G argsV w Q R hv hq => s_sort Tryz.lays190 (fun s hs c hc => ?_) h3 hb (strsOf_sound hl) R hv hq⟩
            exact of_decide_eq_true (List.all_eq_true.1 (List.all_eq_true.1 h4 s hs) c hc)
          · cases hd
        · cases hd
      · cases hd
    · cases hd
  split at hd
  · rename_i hf
    subst hf
    split at hd
    · rename_i z n
      split at hd
      · rename_i hn
        obtain ⟨rfl, rfl⟩ := hn
        simp only [Option.some.injEq] at hd
        subst hd
        exact ⟨enters62, fun G argsV w Q R hv hq => s_grow_none Tryz.growS R hv hq⟩
      · split at hd
        · rename_i hn
          obtain ⟨rfl, h0, h1⟩ := hn
          obtain ⟨m, rfl⟩ : ∃ m : Nat, n = (m : Int) := ⟨n.toNat, by omega⟩
          simp only [Option.some.injEq] at hd
          subst hd
          obtain ⟨i, j1, j2, j3, j4⟩ := Tryz.strInfo
          exact ⟨enters62, fun G argsV w Q R hv hq => s_grow Tryz.growS j1 j2 j3 j4 (by kernel_rfl) rfl (by omega) (by omega) R hv hq⟩
        · cases hd
    · cases hd
  · cases hd
end
end Go.Proofs
end
section
/-
  All that the walk takes at its word is so.
-/
namespace Go.Proofs
open Go Go.Ab Go.Ab.S
theorem hasTab : Has tab summ1 where
  contains := fun s t h hs => by
    unfold summ1
    rw [if_pos rfl]
    simp only [hs, if_true]
  itoa := fun n h h0 h1 => by
    unfold summ1
    rw [if_neg (by decide), if_pos rfl]
    simp only [h0, h1, and_self, if_true]
  checkNew := fun b ver s h hb hs => by
    unfold summ1
    rw [if_neg (by decide), if_neg (by decide), if_pos rfl]
    simp only [hb, hs, and_self, if_true]
  checkOld := fun b ver s h hb => by
    unfold summ1
    rw [if_neg (by decide), if_neg (by decide), if_pos rfl]
    simp only [hb, and_self, if_true]
  text := fun b ver p c ver' vs l h hb hc ht hn hl hs => by
    obtain ⟨bs, h1, h2, h3⟩ := bytesOf_map l hl
    unfold summ1
    rw [if_neg (by decide), if_neg (by decide), if_neg (by decide), if_pos rfl]
    have hne : bs ≠ [] := by rintro rfl; simp at h3; exact hn (by simpa using h3.symm)
    simp only [hb, hc, ht, h1]
    rw [if_pos ⟨trivial, hne, h3, hs⟩, h2]
  funs := fun _ _ h => h
  other := fun f fn hf a h => by
    unfold summ1
    by_cases h1 : f = 82
    · subst h1; cases hf
    by_cases h2 : f = 119
    · subst h2; cases hf
    by_cases h3 : f = 176
    · subst h3; cases hf
    by_cases h4 : f = 153
    · subst h4; cases hf
    by_cases h5 : f = 25
    · subst h5; cases hf
    by_cases h6 : f = 37
    · subst h6; cases hf
    by_cases h7 : f = 62
    · subst h7; cases hf
    rw [if_neg h1, if_neg h2, if_neg h3, if_neg h4, if_neg h5, if_neg h6, if_neg h7]
theorem layH_grow (n : Nat) : ∀ (os : List (TypeId × List AVal)) {h0 h : AHeap}, Grow h0 h → Grow h0 (layH n os h)
  | [], _, _, g => g
  | (e, vs) :: r, _, _, g => by rw [layH]; exact layH_grow n r (g.new _)
theorem sl_of {h : AHeap} {b ver : Nat} {ro : Bool} {e : TypeId} {vs : List AVal} {sz n : Nat} {xs : List (List AVal)} (hb : h.objs.get b = some (ver, .cells ro e vs)) (hn : n = xs.length) (hx : ∀ x ∈ xs, x.length = sz) (hv : vs = xs.flatten) : SlAt h sz (.slice (some (b, 0)) n) xs := by
  subst hn; subst hv
  refine ⟨rfl, fun i x hi => ?_⟩
  have hil := (List.getElem?_eq_some_iff.1 hi).1
  have hxl := hx x (List.mem_of_getElem? hi)
  refine ⟨hxl, b, 0 + i * sz, ver, ro, e, _, by simp [slA, hil], hb, ?_⟩
  clear hb
  induction xs generalizing i with
  | nil => simp at hi
  | cons y xs ih =>
    cases i with
    | zero =>
      simp only [List.getElem?_cons_zero, Option.some.injEq] at hi
      subst hi
      simp only [Nat.zero_mul, Nat.add_zero, List.drop_zero, List.flatten_cons]
      rw [List.take_append_of_le_length (by omega), List.take_of_length_le (by omega)]
    | succ i =>
      have hy := hx y (by simp)
      have := ih (fun x hx' => hx x (by simp [hx'])) i (by simpa using hi) (by simpa using hil)
      rw [← this, List.flatten_cons]
      have he : 0 + (i + 1) * sz = y.length + (0 + i * sz) := by rw [hy, Nat.add_mul]; omega
      rw [he, List.drop_append, List.drop_eq_nil_of_le (by omega)]
      simp
theorem sl_nil (h : AHeap) (sz : Nat) : SlAt h sz (.slice none 0) [] := ⟨rfl, fun i x hx => by simp at hx⟩
theorem ints_of {h : AHeap} {b ver : Nat} {ro : Bool} {e : TypeId} {n : Nat} {l : List Int} (hb : h.objs.get b = some (ver, .cells ro e (l.map fun k => .int .i64 k))) (hn : n = l.length) : IntsAt h (.slice (some (b, 0)) n) l := by
  refine sl_of hb (by simp [hn]) (fun x hx => ?_) ?_
  · obtain ⟨k, _, rfl⟩ := List.mem_map.1 hx; rfl
  · clear hb hn; induction l with
    | nil => rfl
    | cons a l ih => rw [List.map_cons, List.map_cons, List.flatten_cons, ← ih]; rfl
theorem nodes3 {h : AHeap} {v : AVal} {c1 c2 c3 : List AVal} {n1 n2 n3 : Ab.Node} (hs : SlAt h 5 v [c1, c2, c3]) (h1 : NodeAt h c1 n1) (h2 : NodeAt h c2 n2) (h3 : NodeAt h c3 n3) : NodesAt h v [n1, n2, n3] := by
  refine ⟨_, hs, rfl, fun i n c hn hc => ?_⟩
  match i with
  | 0 => cases hn; cases hc; exact h1
  | 1 => cases hn; cases hc; exact h2
  | 2 => cases hn; cases hc; exact h3
  | i + 3 => simp at hn
theorem nodes4 {h : AHeap} {v : AVal} {c1 c2 c3 c4 : List AVal} {n1 n2 n3 n4 : Ab.Node} (hs : SlAt h 5 v [c1, c2, c3, c4]) (h1 : NodeAt h c1 n1) (h2 : NodeAt h c2 n2) (h3 : NodeAt h c3 n3) (h4 : NodeAt h c4 n4) : NodesAt h v [n1, n2, n3, n4] := by
  refine ⟨_, hs, rfl, fun i n c hn hc => ?_⟩
  match i with
  | 0 => cases hn; cases hc; exact h1
  | 1 => cases hn; cases hc; exact h2
  | 2 => cases hn; cases hc; exact h3
  | 3 => cases hn; cases hc; exact h4
  | i + 4 => simp at hn
theorem nilI (h : AHeap) : IntsAt h (.slice none 0) [] := sl_nil h 1
theorem nilS (h : AHeap) : StrsAt h (.slice none 0) [] := sl_nil h 1
theorem node_bool (h : AHeap) : NodeAt h [.int .i64 2, .str [98, 111, 111, 108], .slice none 0, .slice none 0, .bool false] boolN := ⟨_, _, rfl, nilI h, nilS h⟩
theorem node_v (h : AHeap) : NodeAt h [.int .i64 1, .str [], .slice none 0, .slice none 0, .bool false] varN := ⟨_, _, rfl, nilI h, nilS h⟩
theorem five3 {c1 c2 c3 : List AVal} (h1 : c1.length = 5) (h2 : c2.length = 5) (h3 : c3.length = 5) : ∀ x ∈ [c1, c2, c3], x.length = 5 := by
  intro x hx
  simp only [List.mem_cons, List.not_mem_nil, or_false] at hx
  rcases hx with rfl | rfl | rfl <;> assumption
theorem five4 {c1 c2 c3 c4 : List AVal} (h1 : c1.length = 5) (h2 : c2.length = 5) (h3 : c3.length = 5) (h4 : c4.length = 5) : ∀ x ∈ [c1, c2, c3, c4], x.length = 5 := by
  intro x hx
  simp only [List.mem_cons, List.not_mem_nil, or_false] at hx
  rcases hx with rfl | rfl | rfl | rfl <;> assumption
theorem readGF (h : AHeap) : GraphAt (layH h.next osF h) (.agg [.slice (some (h.next + 0, 0)) 4, .int .i64 0]) gF :=
  ⟨_, rfl, nodes4 (c1 := [.int .i64 2, .str [45, 62], .slice (some (h.next + 1, 0)) 2, .slice none 0, .bool false]) (c2 := [.int .i64 2, .str [42], .slice (some (h.next + 2, 0)) 2, .slice none 0, .bool false]) (sl_of (layH_new h.next osF h 0 60 _ rfl) rfl (five4 rfl rfl rfl rfl) rfl) ⟨_, _, rfl, ints_of (l := [1, 2]) (layH_new h.next osF h 1 3 _ rfl) rfl, nilS _⟩ ⟨_, _, rfl, ints_of (l := [2, 3]) (layH_new h.next osF h 2 3 _ rfl) rfl, nilS _⟩ (node_v _) (node_v _)⟩
theorem readGS (h : AHeap) : GraphAt (layH h.next osS h) (.agg [.slice (some (h.next + 0, 0)) 4, .int .i64 0]) gS :=
  ⟨_, rfl, nodes4 (c1 := [.int .i64 2, .str [45, 62], .slice (some (h.next + 1, 0)) 2, .slice none 0, .bool false]) (c2 := [.int .i64 2, .str [42], .slice (some (h.next + 2, 0)) 2, .slice none 0, .bool false]) (sl_of (layH_new h.next osS h 0 60 _ rfl) rfl (five4 rfl rfl rfl rfl) rfl) ⟨_, _, rfl, ints_of (l := [1, 3]) (layH_new h.next osS h 1 3 _ rfl) rfl, nilS _⟩ ⟨_, _, rfl, ints_of (l := [2, 3]) (layH_new h.next osS h 2 3 _ rfl) rfl, nilS _⟩ (node_v _) (node_v _)⟩
theorem readGN (h : AHeap) : GraphAt (layH h.next osN h) (.agg [.slice (some (h.next + 0, 0)) 3, .int .i64 0]) gN :=
  ⟨_, rfl, nodes3 (c1 := [.int .i64 2, .str [45, 62], .slice (some (h.next + 1, 0)) 2, .slice none 0, .bool false]) (sl_of (layH_new h.next osN h 0 60 _ rfl) rfl (five3 rfl rfl rfl) rfl) ⟨_, _, rfl, ints_of (l := [1, 2]) (layH_new h.next osN h 1 3 _ rfl) rfl, nilS _⟩ (node_bool _) (node_bool _)⟩
theorem summ1_read (s : List Nat) (h : AHeap) {n : Nat} {os : List (TypeId × List AVal)} (hr : rdOf s = some (n, os)) : summ1 25 [.str s] h = some (.ret (.tuple [.agg [.slice (some (h.next + 0, 0)) n, .int .i64 0], .int .i64 0], layH h.next os h)) := by
  unfold summ1
  rw [if_neg (by decide), if_neg (by decide), if_neg (by decide), if_neg (by decide), if_pos rfl]
  dsimp only
  rw [hr]; rfl
theorem hasRead : HasRead summ1 := by
  refine ⟨fun s G hm h hw => ?_⟩
  simp only [List.mem_cons, Prod.mk.injEq, List.not_mem_nil, or_false] at hm
  rcases hm with ⟨rfl, rfl⟩ | ⟨rfl, rfl⟩ | ⟨rfl, rfl⟩
  · exact ⟨_, _, summ1_read _ h rfl, readGF h, layH_grow _ _ (Grow.refl hw)⟩
  · exact ⟨_, _, summ1_read _ h rfl, readGS h, layH_grow _ _ (Grow.refl hw)⟩
  · exact ⟨_, _, summ1_read _ h rfl, readGN h, layH_grow _ _ (Grow.refl hw)⟩
theorem hasSort : HasSort summ1 where
  none := fun h => by
    unfold summ1
    rw [if_neg (by decide), if_neg (by decide), if_neg (by decide), if_neg (by decide), if_neg (by decide), if_pos rfl]
    simp
  zero := fun h => by
    unfold summ1
    rw [if_neg (by decide), if_neg (by decide), if_neg (by decide), if_neg (by decide), if_neg (by decide), if_pos rfl]
  some := fun l hl hn h b ver vs hw hb hle ht => by
    unfold summ1
    rw [if_neg (by decide), if_neg (by decide), if_neg (by decide), if_neg (by decide), if_neg (by decide), if_pos rfl]
    simp only [hb, ht, strsOf_map]
    have h31 : (2 : Nat) ^ 31 = 2147483648 := by decide
    rw [if_pos ⟨trivial, trivial, by omega, List.all_eq_true.2 fun s hs => List.all_eq_true.2 fun c hc => decide_eq_true (hl s hs c hc)⟩]
theorem hasGrow : HasGrow summ1 where
  zero := fun h => by
    unfold summ1
    rw [if_neg (by decide), if_neg (by decide), if_neg (by decide), if_neg (by decide), if_neg (by decide), if_neg (by decide), if_pos rfl]
    simp
  more := fun n h h0 h1 => by
    have h31 : (2 : Nat) ^ 31 = 2147483648 := by decide
    unfold summ1
    rw [if_neg (by decide), if_neg (by decide), if_neg (by decide), if_neg (by decide), if_neg (by decide), if_neg (by decide), if_pos rfl]
    dsimp only
    rw [if_neg (by omega), if_pos ⟨rfl, by omega, by omega⟩]
end Go.Proofs
end
