/- The zero cells of the types. -/
import Derived.Test.YtiedaccgagnofaaGreatKe
import Derived.Test.YtiedaccgagnofaaGreatTab
namespace Go.Proofs.YtiedaccgagnofaaGreat
open Go.RowKit
set_option maxRecDepth 1000000
theorem zc_1 : zv1.cells.toList = [.nilFunc] := rfl
theorem zc_2 : zv2.cells.toList = [.int .i64 0] := rfl
theorem zc_3 : zv3.cells.toList = [.int .i64 0] := rfl
theorem zc_4 : zv4.cells.toList = [.bool false] := rfl
theorem zc_5 : zv5.cells.toList = [.int .u8 0] := rfl
theorem zc_9 : zv9.cells.toList = [.string emptyBytes] := rfl
theorem zc_20 : zv20.cells.toList = [.nilIface] := rfl
theorem zc_21 : zv21.cells.toList = [.int .i32 0] := rfl
theorem zc_22 : zv22.cells.toList = [.slice none 0 0] := rfl
theorem zc_23 : zv23.cells.toList = [.slice none 0 0] := rfl
theorem zc_25 : zv25.cells.toList = [.pointer none] := rfl
theorem zc_27 : zv27.cells.toList = [.bool false, .int .i64 0, .int .i64 0] := rfl
theorem zc_28 : zv28.cells.toList = [.int .i64 0] := rfl
theorem zc_31 : zv31.cells.toList = [.pointer none] := rfl
theorem zc_34 : zv34.cells.toList = [.int .i64 0, .int .i64 0] := rfl
theorem zc_35 : zv35.cells.toList = [.float .f64 0] := rfl
theorem zc_37 : zv37.cells.toList = [.int .i64 0, .int .i64 0, .float .f64 0, .float .f64 0] := rfl
theorem zc_39 : zv39.cells.toList = [.int .i64 0, .int .i64 0, .int .i64 0, .int .i64 0, .int .i64 0, .int .i64 0, .float .f64 0, .float .f64 0] := rfl
theorem zc_41 : zv41.cells.toList = [.pointer none] := rfl
theorem zc_43 : zv43.cells.toList = [.slice none 0 0] := rfl
theorem zc_46 : zv46.cells.toList = [.slice none 0 0] := rfl
theorem zc_48 : zv48.cells.toList = [.int .i64 0, .slice none 0 0] := rfl
theorem zc_57 : zv57.cells.toList = [.int .i64 0, .int .i64 0, .slice none 0 0] := rfl
theorem zc_58 : zv58.cells.toList = [] := rfl
theorem zc_59 : zv59.cells.toList = [] := rfl
theorem zc_60 : zv60.cells.toList = [.int .u32 0] := rfl
theorem zc_62 : zv62.cells.toList = [.int .i32 0, .int .u32 0] := rfl
theorem zc_64 : zv64.cells.toList = [.int .i32 0, .int .u32 0] := rfl
theorem zc_65 : zv65.cells.toList = [.pointer none] := rfl
theorem zc_67 : zv67.cells.toList = [.int .i32 0, .int .u32 0, .pointer none] := rfl
theorem zc_68 : zv68.cells.toList = [.slice none 0 0] := rfl
theorem zc_70 : zv70.cells.toList = [.int .i64 0, .int .i64 0, .slice none 0 0] := rfl
theorem zc_74 : zv74.cells.toList = [.nilFunc] := rfl
theorem zc_77 : zv77.cells.toList = [.int .i64 0, .int .i64 0, .int .i64 0, .int .i64 0, .int .i64 0, .int .i64 0, .int .i64 0, .int .i64 0, .float .f64 0, .bool false, .bool false, .bool false, .int .i64 0] := rfl
theorem zc_81 : zv81.cells.toList = [.slice none 0 0] := rfl
theorem zc_83 : zv83.cells.toList = [.int .i64 0, .slice none 0 0] := rfl
theorem zc_84 : zv84.cells.toList = [.pointer none] := rfl
theorem zc_86 : zv86.cells.toList = [.pointer none, .pointer none, .int .i64 0, .slice none 0 0, .int .i64 0, .int .i64 0, .bool false] := rfl
theorem zc_92 : zv92.cells.toList = [.slice none 0 0] := rfl
theorem zc_93 : zv93.cells.toList = [.slice none 0 0] := rfl
theorem zc_95 : zv95.cells.toList = [.int .i64 0, .int .i64 0, .int .i64 0, .int .i64 0, .int .i64 0, .slice none 0 0, .bool false, .bool false] := rfl
theorem zc_105 : zv105.cells.toList = [.map none] := rfl
theorem zc_106 : zv106.cells.toList = [.slice none 0 0] := rfl
theorem zc_108 : zv108.cells.toList = [.int .i64 0, .int .i64 0, .int .i64 0, .int .i64 0, .int .i64 0, .int .i64 0, .int .i64 0, .int .i64 0, .int .i64 0] := rfl
theorem zc_110 : zv110.cells.toList = [.bool false, .bool false, .int .i64 0, .map none, .map none, .slice none 0 0, .int .i64 0, .int .i64 0, .int .i64 0, .int .i64 0, .int .i64 0, .int .i64 0, .int .i64 0, .int .i64 0, .int .i64 0, .slice none 0 0, .int .i64 0] := rfl
theorem zc_112 : zv112.cells.toList = [.int .i32 0, .int .u32 0, .pointer none, .int .i64 0] := rfl
theorem zc_119 : zv119.cells.toList = [.slice none 0 0] := rfl
theorem zc_122 : zv122.cells.toList = [.int .i64 0, .slice none 0 0] := rfl
theorem zc_123 : zv123.cells.toList = [.pointer none] := rfl
theorem zc_127 : zv127.cells.toList = [.map none] := rfl
theorem zc_129 : zv129.cells.toList = [.int .i64 0, .int .i64 0, .int .i64 0] := rfl
theorem zc_132 : zv132.cells.toList = [.pointer none] := rfl
theorem zc_135 : zv135.cells.toList = [.int .i64 0, .int .i64 0, .int .i64 0, .int .i64 0, .int .i64 0, .slice none 0 0, .bool false, .bool false] := rfl
theorem zc_137 : zv137.cells.toList = [.nilFunc] := rfl
theorem zc_138 : zv138.cells.toList = [.pointer none] := rfl
theorem zc_141 : zv141.cells.toList = [.pointer none] := rfl
theorem zc_144 : zv144.cells.toList = [.pointer none] := rfl
theorem zc_147 : zv147.cells.toList = [.pointer none] := rfl
theorem zc_150 : zv150.cells.toList = [.map none] := rfl
theorem zc_151 : zv151.cells.toList = [.map none] := rfl
theorem zc_153 : zv153.cells.toList = [.int .i64 0, .int .i64 0, .int .i64 0, .int .i64 0, .int .i64 0, .bool false, .bool false, .int .i64 0] := rfl
theorem zc_155 : zv155.cells.toList = [.slice none 0 0] := rfl
theorem zc_156 : zv156.cells.toList = [.pointer none] := rfl
theorem zc_158 : zv158.cells.toList = [.int .i64 0, .int .i64 0, .int .i64 0, .int .i64 0, .int .i64 0, .int .i64 0, .float .f64 0, .float .f64 0, .pointer none, .pointer none, .pointer none, .pointer none, .slice none 0 0, .slice none 0 0, .map none, .map none, .int .i64 0, .pointer none, .float .f64 0, .slice none 0 0, .int .i64 0, .bool false, .bool false, .int .i64 0] := rfl
theorem zc_162 : zv162.cells.toList = [.int .i64 0, .int .i64 0, .int .i64 0] := rfl
theorem zc_165 : zv165.cells.toList = [.nilFunc] := rfl
theorem zc_166 : zv166.cells.toList = [.nilFunc] := rfl
theorem zc_168 : zv168.cells.toList = [.int .i64 0, .nilFunc, .nilFunc] := rfl
theorem zc_170 : zv170.cells.toList = [.int .i64 0, .int .i64 0, .int .i64 0, .slice none 0 0, .int .i64 0, .bool false, .int .i64 0, .nilFunc, .nilFunc, .int .i64 0, .nilFunc, .nilFunc, .int .i64 0, .int .i64 0, .slice none 0 0] := rfl
theorem zc_172 : zv172.cells.toList = [.nilIface] := rfl
theorem zc_176 : zv176.cells.toList = [.nilFunc] := rfl
theorem zc_180 : zv180.cells.toList = [.slice none 0 0, .slice none 0 0, .int .i64 0] := rfl
theorem zc_184 : zv184.cells.toList = [] := rfl
theorem zc_187 : zv187.cells.toList = [.map none] := rfl
theorem zc_188 : zv188.cells.toList = [.slice none 0 0] := rfl
theorem zc_190 : zv190.cells.toList = [.slice none 0 0, .int .i64 0, .int .i64 0] := rfl
theorem zc_192 : zv192.cells.toList = [.int .i64 0, .int .i64 0, .int .i64 0, .slice none 0 0, .int .i64 0, .int .i64 0, .slice none 0 0, .map none] := rfl
theorem zc_195 : zv195.cells.toList = [.bool false, .int .i64 0, .int .i64 0, .float .f64 0, .float .f64 0, .float .f64 0] := rfl
theorem zc_196 : zv196.cells.toList = [.pointer none] := rfl
theorem zc_197 : zv197.cells.toList = [.slice none 0 0] := rfl
theorem zc_199 : zv199.cells.toList = [.int .i64 0, .int .i64 0, .slice none 0 0] := rfl
theorem zc_200 : zv200.cells.toList = [.slice none 0 0] := rfl
theorem zc_202 : zv202.cells.toList = [.pointer none, .int .i64 0, .int .i64 0, .int .i64 0, .int .i64 0, .slice none 0 0, .slice none 0 0, .int .i64 0, .int .i64 0, .bool false, .bool false, .int .i64 0] := rfl
theorem zc_204 : zv204.cells.toList = [.pointer none, .bool false, .int .i64 0, .int .i64 0] := rfl
theorem zc_210 : zv210.cells.toList = [.slice none 0 0] := rfl
theorem zc_212 : zv212.cells.toList = [.bool false, .float .f64 0, .int .i64 0, .slice none 0 0] := rfl
theorem zc_218 : zv218.cells.toList = [.pointer none] := rfl
theorem zc_220 : zv220.cells.toList = [.pointer none] := rfl
theorem zc_222 : zv222.cells.toList = [.pointer none] := rfl
theorem zc_229 : zv229.cells.toList = [.int .u64 0] := rfl
theorem zc_232 : zv232.cells.toList = [.int .i64 0] := rfl
theorem zc_234 : zv234.cells.toList = [.int .i64 0] := rfl
theorem zc_242 : zv242.cells.toList = [.int .i64 0, .int .i64 0, .int .u32 0] := rfl
theorem zc_244 : zv244.cells.toList = [.string emptyBytes, .int .i64 0, .int .i64 0, .int .u32 0, .int .i64 0, .int .i64 0, .int .u32 0, .bool false] := rfl
theorem zc_245 : zv245.cells.toList = [.pointer none] := rfl
theorem zc_253 : zv253.cells.toList = [.int .i64 0] := rfl
theorem zc_257 : zv257.cells.toList = [.bool false, .float .f64 0] := rfl
theorem zc_259 : zv259.cells.toList = [.slice none 0 0] := rfl
theorem zc_262 : zv262.cells.toList = [.nilFunc] := rfl
theorem zc_263 : zv263.cells.toList = [.int .u64 0] := rfl
theorem zc_266 : zv266.cells.toList = [.pointer none] := rfl
theorem zc_271 : zv271.cells.toList = [.pointer none] := rfl
theorem zc_277 : zv277.cells.toList = [.int .i64 0, .int .i64 0, .int .u32 0, .int .i64 0, .int .i64 0] := rfl
theorem zc_284 : zv284.cells.toList = [.pointer none] := rfl
theorem zc_285 : zv285.cells.toList = [.map none] := rfl
theorem zc_287 : zv287.cells.toList = [.pointer none, .string emptyBytes, .int .i64 0, .int .i64 0, .int .u32 0, .int .i64 0, .int .i64 0, .int .u32 0, .bool false, .bool false, .pointer none, .map none] := rfl
theorem zc_289 : zv289.cells.toList = [.slice none 0 0] := rfl
theorem zc_294 : zv294.cells.toList = [.int .i64 0, .float .f64 0] := rfl
theorem zc_296 : zv296.cells.toList = [.pointer none] := rfl
theorem zc_298 : zv298.cells.toList = [.int .i64 0] := rfl
theorem zc_318 : zv318.cells.toList = [.int .i64 0, .int .i64 0, .int .i64 0, .int .u32 0, .int .i64 0] := rfl
theorem zc_333 : zv333.cells.toList = [.int .i64 0, .int .i64 0] := rfl
theorem zc_335 : zv335.cells.toList = [.nilIface] := rfl
theorem zc_339 : zv339.cells.toList = [.int .u64 0] := rfl
theorem zc_343 : zv343.cells.toList = [.pointer none] := rfl
theorem zc_347 : zv347.cells.toList = [.pointer none] := rfl
theorem zc_351 : zv351.cells.toList = [.int .u8 0, .int .u8 0, .int .u8 0, .int .u8 0, .int .u8 0, .int .u8 0, .int .u8 0, .int .u8 0, .int .u8 0, .int .u8 0, .int .u8 0, .int .u8 0, .int .u8 0, .int .u8 0, .int .u8 0, .int .u8 0] := rfl
theorem zc_360 : zv360.cells.toList = [.slice none 0 0] := rfl
theorem zc_363 : zv363.cells.toList = [.string emptyBytes, .int .i64 0] := rfl
theorem zc_367 : zv367.cells.toList = [.string emptyBytes, .string emptyBytes] := rfl
theorem zc_372 : zv372.cells.toList = [.string emptyBytes, .pointer none] := rfl
theorem zc_381 : zv381.cells.toList = [.pointer none] := rfl
theorem zc_388 : zv388.cells.toList = [.slice none 0 0, .int .i64 0, .int .i64 0] := rfl
theorem zc_398 : zv398.cells.toList = [.string emptyBytes] := rfl
theorem zc_400 : zv400.cells.toList = [.pointer none] := rfl
theorem zc_408 : zv408.cells.toList = [.int .i64 0, .int .i64 0] := rfl
theorem zc_413 : zv413.cells.toList = [.slice none 0 0] := rfl
theorem zc_415 : zv415.cells.toList = [.int .i64 0, .slice none 0 0, .bool false, .int .i64 0, .int .i64 0] := rfl
theorem zc_425 : zv425.cells.toList = [.int .i64 0] := rfl
theorem zc_444 : zv444.cells.toList = [.nilFunc] := rfl
theorem zc_461 : zv461.cells.toList = [.slice none 0 0] := rfl
theorem ZCS : (zv1.cells.toList = [.nilFunc]) ∧ (zv2.cells.toList = [.int .i64 0]) ∧ (zv3.cells.toList = [.int .i64 0]) ∧ (zv4.cells.toList = [.bool false]) ∧ (zv5.cells.toList = [.int .u8 0]) ∧ (zv9.cells.toList = [.string emptyBytes]) ∧ (zv20.cells.toList = [.nilIface]) ∧ (zv21.cells.toList = [.int .i32 0]) ∧ (zv22.cells.toList = [.slice none 0 0]) ∧ (zv23.cells.toList = [.slice none 0 0]) ∧ (zv25.cells.toList = [.pointer none]) ∧ (zv27.cells.toList = [.bool false, .int .i64 0, .int .i64 0]) ∧ (zv28.cells.toList = [.int .i64 0]) ∧ (zv31.cells.toList = [.pointer none]) ∧ (zv34.cells.toList = [.int .i64 0, .int .i64 0]) ∧ (zv35.cells.toList = [.float .f64 0]) ∧ (zv37.cells.toList = [.int .i64 0, .int .i64 0, .float .f64 0, .float .f64 0]) ∧ (zv39.cells.toList = [.int .i64 0, .int .i64 0, .int .i64 0, .int .i64 0, .int .i64 0, .int .i64 0, .float .f64 0, .float .f64 0]) ∧ (zv41.cells.toList = [.pointer none]) ∧ (zv43.cells.toList = [.slice none 0 0]) ∧ (zv46.cells.toList = [.slice none 0 0]) ∧ (zv48.cells.toList = [.int .i64 0, .slice none 0 0]) ∧ (zv57.cells.toList = [.int .i64 0, .int .i64 0, .slice none 0 0]) ∧ (zv58.cells.toList = []) ∧ (zv59.cells.toList = []) ∧ (zv60.cells.toList = [.int .u32 0]) ∧ (zv62.cells.toList = [.int .i32 0, .int .u32 0]) ∧ (zv64.cells.toList = [.int .i32 0, .int .u32 0]) ∧ (zv65.cells.toList = [.pointer none]) ∧ (zv67.cells.toList = [.int .i32 0, .int .u32 0, .pointer none]) ∧ (zv68.cells.toList = [.slice none 0 0]) ∧ (zv70.cells.toList = [.int .i64 0, .int .i64 0, .slice none 0 0]) ∧ (zv74.cells.toList = [.nilFunc]) ∧ (zv77.cells.toList = [.int .i64 0, .int .i64 0, .int .i64 0, .int .i64 0, .int .i64 0, .int .i64 0, .int .i64 0, .int .i64 0, .float .f64 0, .bool false, .bool false, .bool false, .int .i64 0]) ∧ (zv81.cells.toList = [.slice none 0 0]) ∧ (zv83.cells.toList = [.int .i64 0, .slice none 0 0]) ∧ (zv84.cells.toList = [.pointer none]) ∧ (zv86.cells.toList = [.pointer none, .pointer none, .int .i64 0, .slice none 0 0, .int .i64 0, .int .i64 0, .bool false]) ∧ (zv92.cells.toList = [.slice none 0 0]) ∧ (zv93.cells.toList = [.slice none 0 0]) ∧ (zv95.cells.toList = [.int .i64 0, .int .i64 0, .int .i64 0, .int .i64 0, .int .i64 0, .slice none 0 0, .bool false, .bool false]) ∧ (zv105.cells.toList = [.map none]) ∧ (zv106.cells.toList = [.slice none 0 0]) ∧ (zv108.cells.toList = [.int .i64 0, .int .i64 0, .int .i64 0, .int .i64 0, .int .i64 0, .int .i64 0, .int .i64 0, .int .i64 0, .int .i64 0]) ∧ (zv110.cells.toList = [.bool false, .bool false, .int .i64 0, .map none, .map none, .slice none 0 0, .int .i64 0, .int .i64 0, .int .i64 0, .int .i64 0, .int .i64 0, .int .i64 0, .int .i64 0, .int .i64 0, .int .i64 0, .slice none 0 0, .int .i64 0]) ∧ (zv112.cells.toList = [.int .i32 0, .int .u32 0, .pointer none, .int .i64 0]) ∧ (zv119.cells.toList = [.slice none 0 0]) ∧ (zv122.cells.toList = [.int .i64 0, .slice none 0 0]) ∧ (zv123.cells.toList = [.pointer none]) ∧ (zv127.cells.toList = [.map none]) ∧ (zv129.cells.toList = [.int .i64 0, .int .i64 0, .int .i64 0]) ∧ (zv132.cells.toList = [.pointer none]) ∧ (zv135.cells.toList = [.int .i64 0, .int .i64 0, .int .i64 0, .int .i64 0, .int .i64 0, .slice none 0 0, .bool false, .bool false]) ∧ (zv137.cells.toList = [.nilFunc]) ∧ (zv138.cells.toList = [.pointer none]) ∧ (zv141.cells.toList = [.pointer none]) ∧ (zv144.cells.toList = [.pointer none]) ∧ (zv147.cells.toList = [.pointer none]) ∧ (zv150.cells.toList = [.map none]) ∧ (zv151.cells.toList = [.map none]) ∧ (zv153.cells.toList = [.int .i64 0, .int .i64 0, .int .i64 0, .int .i64 0, .int .i64 0, .bool false, .bool false, .int .i64 0]) ∧ (zv155.cells.toList = [.slice none 0 0]) ∧ (zv156.cells.toList = [.pointer none]) ∧ (zv158.cells.toList = [.int .i64 0, .int .i64 0, .int .i64 0, .int .i64 0, .int .i64 0, .int .i64 0, .float .f64 0, .float .f64 0, .pointer none, .pointer none, .pointer none, .pointer none, .slice none 0 0, .slice none 0 0, .map none, .map none, .int .i64 0, .pointer none, .float .f64 0, .slice none 0 0, .int .i64 0, .bool false, .bool false, .int .i64 0]) ∧ (zv162.cells.toList = [.int .i64 0, .int .i64 0, .int .i64 0]) ∧ (zv165.cells.toList = [.nilFunc]) ∧ (zv166.cells.toList = [.nilFunc]) ∧ (zv168.cells.toList = [.int .i64 0, .nilFunc, .nilFunc]) ∧ (zv170.cells.toList = [.int .i64 0, .int .i64 0, .int .i64 0, .slice none 0 0, .int .i64 0, .bool false, .int .i64 0, .nilFunc, .nilFunc, .int .i64 0, .nilFunc, .nilFunc, .int .i64 0, .int .i64 0, .slice none 0 0]) ∧ (zv172.cells.toList = [.nilIface]) ∧ (zv176.cells.toList = [.nilFunc]) ∧ (zv180.cells.toList = [.slice none 0 0, .slice none 0 0, .int .i64 0]) ∧ (zv184.cells.toList = []) ∧ (zv187.cells.toList = [.map none]) ∧ (zv188.cells.toList = [.slice none 0 0]) ∧ (zv190.cells.toList = [.slice none 0 0, .int .i64 0, .int .i64 0]) ∧ (zv192.cells.toList = [.int .i64 0, .int .i64 0, .int .i64 0, .slice none 0 0, .int .i64 0, .int .i64 0, .slice none 0 0, .map none]) ∧ (zv195.cells.toList = [.bool false, .int .i64 0, .int .i64 0, .float .f64 0, .float .f64 0, .float .f64 0]) ∧ (zv196.cells.toList = [.pointer none]) ∧ (zv197.cells.toList = [.slice none 0 0]) ∧ (zv199.cells.toList = [.int .i64 0, .int .i64 0, .slice none 0 0]) ∧ (zv200.cells.toList = [.slice none 0 0]) ∧ (zv202.cells.toList = [.pointer none, .int .i64 0, .int .i64 0, .int .i64 0, .int .i64 0, .slice none 0 0, .slice none 0 0, .int .i64 0, .int .i64 0, .bool false, .bool false, .int .i64 0]) ∧ (zv204.cells.toList = [.pointer none, .bool false, .int .i64 0, .int .i64 0]) ∧ (zv210.cells.toList = [.slice none 0 0]) ∧ (zv212.cells.toList = [.bool false, .float .f64 0, .int .i64 0, .slice none 0 0]) ∧ (zv218.cells.toList = [.pointer none]) ∧ (zv220.cells.toList = [.pointer none]) ∧ (zv222.cells.toList = [.pointer none]) ∧ (zv229.cells.toList = [.int .u64 0]) ∧ (zv232.cells.toList = [.int .i64 0]) ∧ (zv234.cells.toList = [.int .i64 0]) ∧ (zv242.cells.toList = [.int .i64 0, .int .i64 0, .int .u32 0]) ∧ (zv244.cells.toList = [.string emptyBytes, .int .i64 0, .int .i64 0, .int .u32 0, .int .i64 0, .int .i64 0, .int .u32 0, .bool false]) ∧ (zv245.cells.toList = [.pointer none]) ∧ (zv253.cells.toList = [.int .i64 0]) ∧ (zv257.cells.toList = [.bool false, .float .f64 0]) ∧ (zv259.cells.toList = [.slice none 0 0]) ∧ (zv262.cells.toList = [.nilFunc]) ∧ (zv263.cells.toList = [.int .u64 0]) ∧ (zv266.cells.toList = [.pointer none]) ∧ (zv271.cells.toList = [.pointer none]) ∧ (zv277.cells.toList = [.int .i64 0, .int .i64 0, .int .u32 0, .int .i64 0, .int .i64 0]) ∧ (zv284.cells.toList = [.pointer none]) ∧ (zv285.cells.toList = [.map none]) ∧ (zv287.cells.toList = [.pointer none, .string emptyBytes, .int .i64 0, .int .i64 0, .int .u32 0, .int .i64 0, .int .i64 0, .int .u32 0, .bool false, .bool false, .pointer none, .map none]) ∧ (zv289.cells.toList = [.slice none 0 0]) ∧ (zv294.cells.toList = [.int .i64 0, .float .f64 0]) ∧ (zv296.cells.toList = [.pointer none]) ∧ (zv298.cells.toList = [.int .i64 0]) ∧ (zv318.cells.toList = [.int .i64 0, .int .i64 0, .int .i64 0, .int .u32 0, .int .i64 0]) ∧ (zv333.cells.toList = [.int .i64 0, .int .i64 0]) ∧ (zv335.cells.toList = [.nilIface]) ∧ (zv339.cells.toList = [.int .u64 0]) ∧ (zv343.cells.toList = [.pointer none]) ∧ (zv347.cells.toList = [.pointer none]) ∧ (zv351.cells.toList = [.int .u8 0, .int .u8 0, .int .u8 0, .int .u8 0, .int .u8 0, .int .u8 0, .int .u8 0, .int .u8 0, .int .u8 0, .int .u8 0, .int .u8 0, .int .u8 0, .int .u8 0, .int .u8 0, .int .u8 0, .int .u8 0]) ∧ (zv360.cells.toList = [.slice none 0 0]) ∧ (zv363.cells.toList = [.string emptyBytes, .int .i64 0]) ∧ (zv367.cells.toList = [.string emptyBytes, .string emptyBytes]) ∧ (zv372.cells.toList = [.string emptyBytes, .pointer none]) ∧ (zv381.cells.toList = [.pointer none]) ∧ (zv388.cells.toList = [.slice none 0 0, .int .i64 0, .int .i64 0]) ∧ (zv398.cells.toList = [.string emptyBytes]) ∧ (zv400.cells.toList = [.pointer none]) ∧ (zv408.cells.toList = [.int .i64 0, .int .i64 0]) ∧ (zv413.cells.toList = [.slice none 0 0]) ∧ (zv415.cells.toList = [.int .i64 0, .slice none 0 0, .bool false, .int .i64 0, .int .i64 0]) ∧ (zv425.cells.toList = [.int .i64 0]) ∧ (zv444.cells.toList = [.nilFunc]) ∧ (zv461.cells.toList = [.slice none 0 0]) := ⟨rfl, rfl, rfl, rfl, rfl, rfl, rfl, rfl, rfl, rfl, rfl, rfl, rfl, rfl, rfl, rfl, rfl, rfl, rfl, rfl, rfl, rfl, rfl, rfl, rfl, rfl, rfl, rfl, rfl, rfl, rfl, rfl, rfl, rfl, rfl, rfl, rfl, rfl, rfl, rfl, rfl, rfl, rfl, rfl, rfl, rfl, rfl, rfl, rfl, rfl, rfl, rfl, rfl, rfl, rfl, rfl, rfl, rfl, rfl, rfl, rfl, rfl, rfl, rfl, rfl, rfl, rfl, rfl, rfl, rfl, rfl, rfl, rfl, rfl, rfl, rfl, rfl, rfl, rfl, rfl, rfl, rfl, rfl, rfl, rfl, rfl, rfl, rfl, rfl, rfl, rfl, rfl, rfl, rfl, rfl, rfl, rfl, rfl, rfl, rfl, rfl, rfl, rfl, rfl, rfl, rfl, rfl, rfl, rfl, rfl, rfl, rfl, rfl, rfl, rfl, rfl, rfl, rfl, rfl, rfl, rfl, rfl, rfl, rfl, rfl, rfl, rfl, rfl, rfl, rfl, rfl⟩
end Go.Proofs.YtiedaccgagnofaaGreat
