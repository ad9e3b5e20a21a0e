/- A part of the proof of a law of module cupola: Types. It has no conditions of its own. -/
import Derived.Test.YtoaboplnnhifpaaGreatSimE
import Derived.Test.YtoaboplnnhifpaaGreatSimUu
import Derived.Test.YtoaboplnnhifpaaGreatOrcs
import Derived.Test.YtoaboplnnhifpaaGreatProg
import Derived.KernelRfl
set_option linter.all false
namespace Go.Sim
open Enc (enc)
open Go.Proofs
@[go_sem] theorem kd1 : kdOf Tryz.prog 1 = .fn := by kernel_rfl
@[go_sem] theorem ty1 : tyOf Tryz.prog 1 = some (false, 1) := by kernel_rfl
@[go_sem] theorem in1 : infoOf Tryz.prog 1 = some (1, 8) := by kernel_rfl
@[go_sem] theorem ze1 : zeroV Tryz.prog 1 = some (.t .nilf) := by kernel_rfl
@[go_sem] theorem kd2 : kdOf Tryz.prog 2 = (.int .i64) := by kernel_rfl
@[go_sem] theorem ty2 : tyOf Tryz.prog 2 = some (false, 1) := by kernel_rfl
@[go_sem] theorem in2 : infoOf Tryz.prog 2 = some (1, 8) := by kernel_rfl
@[go_sem] theorem ze2 : zeroV Tryz.prog 2 = some (.t (.int .i64 0)) := by kernel_rfl
@[go_sem] theorem kd3 : kdOf Tryz.prog 3 = (.int .i64) := by kernel_rfl
@[go_sem] theorem ty3 : tyOf Tryz.prog 3 = some (false, 1) := by kernel_rfl
@[go_sem] theorem in3 : infoOf Tryz.prog 3 = some (1, 8) := by kernel_rfl
@[go_sem] theorem ze3 : zeroV Tryz.prog 3 = some (.t (.int .i64 0)) := by kernel_rfl
@[go_sem] theorem kd4 : kdOf Tryz.prog 4 = .bool := by kernel_rfl
@[go_sem] theorem ty4 : tyOf Tryz.prog 4 = some (false, 1) := by kernel_rfl
@[go_sem] theorem in4 : infoOf Tryz.prog 4 = some (1, 1) := by kernel_rfl
@[go_sem] theorem ze4 : zeroV Tryz.prog 4 = some (.t (.bool false)) := by kernel_rfl
@[go_sem] theorem kd5 : kdOf Tryz.prog 5 = (.int .u8) := by kernel_rfl
@[go_sem] theorem ty5 : tyOf Tryz.prog 5 = some (false, 1) := by kernel_rfl
@[go_sem] theorem in5 : infoOf Tryz.prog 5 = some (1, 1) := by kernel_rfl
@[go_sem] theorem ze5 : zeroV Tryz.prog 5 = some (.t (.int .u8 0)) := by kernel_rfl
@[go_sem] theorem kd9 : kdOf Tryz.prog 9 = .str := by kernel_rfl
@[go_sem] theorem ty9 : tyOf Tryz.prog 9 = some (false, 1) := by kernel_rfl
@[go_sem] theorem in9 : infoOf Tryz.prog 9 = some (1, 16) := by kernel_rfl
@[go_sem] theorem ze9 : zeroV Tryz.prog 9 = some (.t (.str ByteArray.empty)) := by kernel_rfl
@[go_sem] theorem kd22 : kdOf Tryz.prog 22 = (.sl 2) := by kernel_rfl
@[go_sem] theorem ty22 : tyOf Tryz.prog 22 = some (false, 1) := by kernel_rfl
@[go_sem] theorem in22 : infoOf Tryz.prog 22 = some (1, 24) := by kernel_rfl
@[go_sem] theorem ze22 : zeroV Tryz.prog 22 = some (.ex []) := by kernel_rfl
@[go_sem] theorem kd23 : kdOf Tryz.prog 23 = (.sl 85) := by kernel_rfl
@[go_sem] theorem ty23 : tyOf Tryz.prog 23 = some (false, 1) := by kernel_rfl
@[go_sem] theorem in23 : infoOf Tryz.prog 23 = some (1, 24) := by kernel_rfl
@[go_sem] theorem ze23 : zeroV Tryz.prog 23 = some (.ex []) := by kernel_rfl
@[go_sem] theorem kd25 : kdOf Tryz.prog 25 = .struct := by kernel_rfl
@[go_sem] theorem ty25 : tyOf Tryz.prog 25 = some (true, 2) := by kernel_rfl
@[go_sem] theorem in25 : infoOf Tryz.prog 25 = some (2, 48) := by kernel_rfl
@[go_sem] theorem ze25 : zeroV Tryz.prog 25 = some (.agg [.ex [], .ex []]) := by kernel_rfl
@[go_sem] theorem fs25 : fldsOf Tryz.prog 25 = some [(0, 1), (1, 1)] := by kernel_rfl
@[go_sem] theorem fl25x0 : fldOf Tryz.prog 25 0 = some (0, 1) := by kernel_rfl
@[go_sem] theorem fl25x1 : fldOf Tryz.prog 25 1 = some (1, 1) := by kernel_rfl
@[go_sem] theorem kd26 : kdOf Tryz.prog 26 = (.int .u16) := by kernel_rfl
@[go_sem] theorem ty26 : tyOf Tryz.prog 26 = some (false, 1) := by kernel_rfl
@[go_sem] theorem in26 : infoOf Tryz.prog 26 = some (1, 2) := by kernel_rfl
@[go_sem] theorem ze26 : zeroV Tryz.prog 26 = some (.t (.int .u16 0)) := by kernel_rfl
@[go_sem] theorem kd27 : kdOf Tryz.prog 27 = (.sl 5) := by kernel_rfl
@[go_sem] theorem ty27 : tyOf Tryz.prog 27 = some (false, 1) := by kernel_rfl
@[go_sem] theorem in27 : infoOf Tryz.prog 27 = some (1, 24) := by kernel_rfl
@[go_sem] theorem ze27 : zeroV Tryz.prog 27 = some (.ex []) := by kernel_rfl
@[go_sem] theorem kd30 : kdOf Tryz.prog 30 = (.sl 53) := by kernel_rfl
@[go_sem] theorem ty30 : tyOf Tryz.prog 30 = some (false, 1) := by kernel_rfl
@[go_sem] theorem in30 : infoOf Tryz.prog 30 = some (1, 24) := by kernel_rfl
@[go_sem] theorem ze30 : zeroV Tryz.prog 30 = some (.ex []) := by kernel_rfl
@[go_sem] theorem kd31 : kdOf Tryz.prog 31 = (.sl 38) := by kernel_rfl
@[go_sem] theorem ty31 : tyOf Tryz.prog 31 = some (false, 1) := by kernel_rfl
@[go_sem] theorem in31 : infoOf Tryz.prog 31 = some (1, 24) := by kernel_rfl
@[go_sem] theorem ze31 : zeroV Tryz.prog 31 = some (.ex []) := by kernel_rfl
@[go_sem] theorem kd32 : kdOf Tryz.prog 32 = (.sl 38) := by kernel_rfl
@[go_sem] theorem ty32 : tyOf Tryz.prog 32 = some (false, 1) := by kernel_rfl
@[go_sem] theorem in32 : infoOf Tryz.prog 32 = some (1, 24) := by kernel_rfl
@[go_sem] theorem ze32 : zeroV Tryz.prog 32 = some (.ex []) := by kernel_rfl
@[go_sem] theorem kd33 : kdOf Tryz.prog 33 = (.sl 22) := by kernel_rfl
@[go_sem] theorem ty33 : tyOf Tryz.prog 33 = some (false, 1) := by kernel_rfl
@[go_sem] theorem in33 : infoOf Tryz.prog 33 = some (1, 24) := by kernel_rfl
@[go_sem] theorem ze33 : zeroV Tryz.prog 33 = some (.ex []) := by kernel_rfl
@[go_sem] theorem kd35 : kdOf Tryz.prog 35 = .struct := by kernel_rfl
@[go_sem] theorem ty35 : tyOf Tryz.prog 35 = some (true, 7) := by kernel_rfl
@[go_sem] theorem in35 : infoOf Tryz.prog 35 = some (7, 168) := by kernel_rfl
@[go_sem] theorem ze35 : zeroV Tryz.prog 35 = some (.agg [.ex [], .ex [], .ex [], .ex [], .ex [], .ex [], .ex []]) := by kernel_rfl
@[go_sem] theorem fs35 : fldsOf Tryz.prog 35 = some [(0, 1), (1, 1), (2, 1), (3, 1), (4, 1), (5, 1), (6, 1)] := by kernel_rfl
@[go_sem] theorem fl35x0 : fldOf Tryz.prog 35 0 = some (0, 1) := by kernel_rfl
@[go_sem] theorem fl35x1 : fldOf Tryz.prog 35 1 = some (1, 1) := by kernel_rfl
@[go_sem] theorem fl35x2 : fldOf Tryz.prog 35 2 = some (2, 1) := by kernel_rfl
@[go_sem] theorem fl35x3 : fldOf Tryz.prog 35 3 = some (3, 1) := by kernel_rfl
@[go_sem] theorem fl35x4 : fldOf Tryz.prog 35 4 = some (4, 1) := by kernel_rfl
@[go_sem] theorem fl35x5 : fldOf Tryz.prog 35 5 = some (5, 1) := by kernel_rfl
@[go_sem] theorem fl35x6 : fldOf Tryz.prog 35 6 = some (6, 1) := by kernel_rfl
@[go_sem] theorem kd38 : kdOf Tryz.prog 38 = (.int .u32) := by kernel_rfl
@[go_sem] theorem ty38 : tyOf Tryz.prog 38 = some (false, 1) := by kernel_rfl
@[go_sem] theorem in38 : infoOf Tryz.prog 38 = some (1, 4) := by kernel_rfl
@[go_sem] theorem ze38 : zeroV Tryz.prog 38 = some (.t (.int .u32 0)) := by kernel_rfl
@[go_sem] theorem kd39 : kdOf Tryz.prog 39 = (.sl 3) := by kernel_rfl
@[go_sem] theorem ty39 : tyOf Tryz.prog 39 = some (false, 1) := by kernel_rfl
@[go_sem] theorem in39 : infoOf Tryz.prog 39 = some (1, 24) := by kernel_rfl
@[go_sem] theorem ze39 : zeroV Tryz.prog 39 = some (.ex []) := by kernel_rfl
@[go_sem] theorem kd40 : kdOf Tryz.prog 40 = (.sl 39) := by kernel_rfl
@[go_sem] theorem ty40 : tyOf Tryz.prog 40 = some (false, 1) := by kernel_rfl
@[go_sem] theorem in40 : infoOf Tryz.prog 40 = some (1, 24) := by kernel_rfl
@[go_sem] theorem ze40 : zeroV Tryz.prog 40 = some (.ex []) := by kernel_rfl
@[go_sem] theorem kd42 : kdOf Tryz.prog 42 = .struct := by kernel_rfl
@[go_sem] theorem ty42 : tyOf Tryz.prog 42 = some (true, 3) := by kernel_rfl
@[go_sem] theorem in42 : infoOf Tryz.prog 42 = some (3, 56) := by kernel_rfl
@[go_sem] theorem ze42 : zeroV Tryz.prog 42 = some (.agg [.t (.int .u32 0), .ex [], .ex []]) := by kernel_rfl
@[go_sem] theorem fs42 : fldsOf Tryz.prog 42 = some [(0, 1), (1, 1), (2, 1)] := by kernel_rfl
@[go_sem] theorem fl42x0 : fldOf Tryz.prog 42 0 = some (0, 1) := by kernel_rfl
@[go_sem] theorem fl42x1 : fldOf Tryz.prog 42 1 = some (1, 1) := by kernel_rfl
@[go_sem] theorem fl42x2 : fldOf Tryz.prog 42 2 = some (2, 1) := by kernel_rfl
@[go_sem] theorem kd44 : kdOf Tryz.prog 44 = (.sl 47) := by kernel_rfl
@[go_sem] theorem ty44 : tyOf Tryz.prog 44 = some (false, 1) := by kernel_rfl
@[go_sem] theorem in44 : infoOf Tryz.prog 44 = some (1, 24) := by kernel_rfl
@[go_sem] theorem ze44 : zeroV Tryz.prog 44 = some (.ex []) := by kernel_rfl
@[go_sem] theorem kd47 : kdOf Tryz.prog 47 = .struct := by kernel_rfl
@[go_sem] theorem ty47 : tyOf Tryz.prog 47 = some (true, 2) := by kernel_rfl
@[go_sem] theorem in47 : infoOf Tryz.prog 47 = some (2, 16) := by kernel_rfl
@[go_sem] theorem ze47 : zeroV Tryz.prog 47 = some (.t (.agg [(.int .i64 0), (.bool false)])) := by kernel_rfl
@[go_sem] theorem fs47 : fldsOf Tryz.prog 47 = some [(0, 1), (1, 1)] := by kernel_rfl
@[go_sem] theorem fl47x0 : fldOf Tryz.prog 47 0 = some (0, 1) := by kernel_rfl
@[go_sem] theorem fl47x1 : fldOf Tryz.prog 47 1 = some (1, 1) := by kernel_rfl
@[go_sem] theorem kd48 : kdOf Tryz.prog 48 = (.int .i64) := by kernel_rfl
@[go_sem] theorem ty48 : tyOf Tryz.prog 48 = some (false, 1) := by kernel_rfl
@[go_sem] theorem in48 : infoOf Tryz.prog 48 = some (1, 8) := by kernel_rfl
@[go_sem] theorem ze48 : zeroV Tryz.prog 48 = some (.t (.int .i64 0)) := by kernel_rfl
@[go_sem] theorem kd51 : kdOf Tryz.prog 51 = (.int .u64) := by kernel_rfl
@[go_sem] theorem ty51 : tyOf Tryz.prog 51 = some (false, 1) := by kernel_rfl
@[go_sem] theorem in51 : infoOf Tryz.prog 51 = some (1, 8) := by kernel_rfl
@[go_sem] theorem ze51 : zeroV Tryz.prog 51 = some (.t (.int .u64 0)) := by kernel_rfl
@[go_sem] theorem kd53 : kdOf Tryz.prog 53 = .struct := by kernel_rfl
@[go_sem] theorem ty53 : tyOf Tryz.prog 53 = some (true, 7) := by kernel_rfl
@[go_sem] theorem in53 : infoOf Tryz.prog 53 = some (7, 40) := by kernel_rfl
@[go_sem] theorem ze53 : zeroV Tryz.prog 53 = some (.t (.agg [(.int .i64 0), (.int .i64 0), (.int .i64 0), (.int .i64 0), (.bool false), (.bool false), (.bool false)])) := by kernel_rfl
@[go_sem] theorem fs53 : fldsOf Tryz.prog 53 = some [(0, 1), (1, 1), (2, 1), (3, 1), (4, 1), (5, 1), (6, 1)] := by kernel_rfl
@[go_sem] theorem fl53x0 : fldOf Tryz.prog 53 0 = some (0, 1) := by kernel_rfl
@[go_sem] theorem fl53x1 : fldOf Tryz.prog 53 1 = some (1, 1) := by kernel_rfl
@[go_sem] theorem fl53x2 : fldOf Tryz.prog 53 2 = some (2, 1) := by kernel_rfl
@[go_sem] theorem fl53x3 : fldOf Tryz.prog 53 3 = some (3, 1) := by kernel_rfl
@[go_sem] theorem fl53x4 : fldOf Tryz.prog 53 4 = some (4, 1) := by kernel_rfl
@[go_sem] theorem fl53x5 : fldOf Tryz.prog 53 5 = some (5, 1) := by kernel_rfl
@[go_sem] theorem fl53x6 : fldOf Tryz.prog 53 6 = some (6, 1) := by kernel_rfl
@[go_sem] theorem kd55 : kdOf Tryz.prog 55 = (.sl 42) := by kernel_rfl
@[go_sem] theorem ty55 : tyOf Tryz.prog 55 = some (false, 1) := by kernel_rfl
@[go_sem] theorem in55 : infoOf Tryz.prog 55 = some (1, 24) := by kernel_rfl
@[go_sem] theorem ze55 : zeroV Tryz.prog 55 = some (.ex []) := by kernel_rfl
@[go_sem] theorem kd62 : kdOf Tryz.prog 62 = (.sl 120) := by kernel_rfl
@[go_sem] theorem ty62 : tyOf Tryz.prog 62 = some (false, 1) := by kernel_rfl
@[go_sem] theorem in62 : infoOf Tryz.prog 62 = some (1, 24) := by kernel_rfl
@[go_sem] theorem ze62 : zeroV Tryz.prog 62 = some (.ex []) := by kernel_rfl
@[go_sem] theorem kd66 : kdOf Tryz.prog 66 = .fn := by kernel_rfl
@[go_sem] theorem ty66 : tyOf Tryz.prog 66 = some (false, 1) := by kernel_rfl
@[go_sem] theorem in66 : infoOf Tryz.prog 66 = some (1, 8) := by kernel_rfl
@[go_sem] theorem ze66 : zeroV Tryz.prog 66 = some (.t .nilf) := by kernel_rfl
@[go_sem] theorem kd67 : kdOf Tryz.prog 67 = (.arr 3 26) := by kernel_rfl
@[go_sem] theorem ty67 : tyOf Tryz.prog 67 = some (true, 3) := by kernel_rfl
@[go_sem] theorem in67 : infoOf Tryz.prog 67 = some (3, 6) := by kernel_rfl
@[go_sem] theorem ze67 : zeroV Tryz.prog 67 = some (.t (.agg [(.int .u16 0), (.int .u16 0), (.int .u16 0)])) := by kernel_rfl
@[go_sem] theorem kd69 : kdOf Tryz.prog 69 = (.sl 32) := by kernel_rfl
@[go_sem] theorem ty69 : tyOf Tryz.prog 69 = some (false, 1) := by kernel_rfl
@[go_sem] theorem in69 : infoOf Tryz.prog 69 = some (1, 24) := by kernel_rfl
@[go_sem] theorem ze69 : zeroV Tryz.prog 69 = some (.ex []) := by kernel_rfl
@[go_sem] theorem kd85 : kdOf Tryz.prog 85 = (.sl 89) := by kernel_rfl
@[go_sem] theorem ty85 : tyOf Tryz.prog 85 = some (false, 1) := by kernel_rfl
@[go_sem] theorem in85 : infoOf Tryz.prog 85 = some (1, 24) := by kernel_rfl
@[go_sem] theorem ze85 : zeroV Tryz.prog 85 = some (.ex []) := by kernel_rfl
@[go_sem] theorem kd89 : kdOf Tryz.prog 89 = .struct := by kernel_rfl
@[go_sem] theorem ty89 : tyOf Tryz.prog 89 = some (true, 6) := by kernel_rfl
@[go_sem] theorem in89 : infoOf Tryz.prog 89 = some (6, 48) := by kernel_rfl
@[go_sem] theorem ze89 : zeroV Tryz.prog 89 = some (.t (.agg [(.int .i64 0), (.int .i64 0), (.int .i64 0), (.int .i64 0), (.int .i64 0), (.int .i64 0)])) := by kernel_rfl
@[go_sem] theorem fs89 : fldsOf Tryz.prog 89 = some [(0, 1), (1, 1), (2, 1), (3, 1), (4, 1), (5, 1)] := by kernel_rfl
@[go_sem] theorem fl89x0 : fldOf Tryz.prog 89 0 = some (0, 1) := by kernel_rfl
@[go_sem] theorem fl89x1 : fldOf Tryz.prog 89 1 = some (1, 1) := by kernel_rfl
@[go_sem] theorem fl89x2 : fldOf Tryz.prog 89 2 = some (2, 1) := by kernel_rfl
@[go_sem] theorem fl89x3 : fldOf Tryz.prog 89 3 = some (3, 1) := by kernel_rfl
@[go_sem] theorem fl89x4 : fldOf Tryz.prog 89 4 = some (4, 1) := by kernel_rfl
@[go_sem] theorem fl89x5 : fldOf Tryz.prog 89 5 = some (5, 1) := by kernel_rfl
@[go_sem] theorem kd93 : kdOf Tryz.prog 93 = (.sl 35) := by kernel_rfl
@[go_sem] theorem ty93 : tyOf Tryz.prog 93 = some (false, 1) := by kernel_rfl
@[go_sem] theorem in93 : infoOf Tryz.prog 93 = some (1, 24) := by kernel_rfl
@[go_sem] theorem ze93 : zeroV Tryz.prog 93 = some (.ex []) := by kernel_rfl
@[go_sem] theorem kd112 : kdOf Tryz.prog 112 = (.sl 4) := by kernel_rfl
@[go_sem] theorem ty112 : tyOf Tryz.prog 112 = some (false, 1) := by kernel_rfl
@[go_sem] theorem in112 : infoOf Tryz.prog 112 = some (1, 24) := by kernel_rfl
@[go_sem] theorem ze112 : zeroV Tryz.prog 112 = some (.ex []) := by kernel_rfl
@[go_sem] theorem kd117 : kdOf Tryz.prog 117 = .fn := by kernel_rfl
@[go_sem] theorem ty117 : tyOf Tryz.prog 117 = some (false, 1) := by kernel_rfl
@[go_sem] theorem in117 : infoOf Tryz.prog 117 = some (1, 8) := by kernel_rfl
@[go_sem] theorem ze117 : zeroV Tryz.prog 117 = some (.t .nilf) := by kernel_rfl
@[go_sem] theorem kd120 : kdOf Tryz.prog 120 = (.arr 2 3) := by kernel_rfl
@[go_sem] theorem ty120 : tyOf Tryz.prog 120 = some (true, 2) := by kernel_rfl
@[go_sem] theorem in120 : infoOf Tryz.prog 120 = some (2, 16) := by kernel_rfl
@[go_sem] theorem ze120 : zeroV Tryz.prog 120 = some (.t (.agg [(.int .i64 0), (.int .i64 0)])) := by kernel_rfl
@[go_sem] theorem kd125 : kdOf Tryz.prog 125 = .fn := by kernel_rfl
@[go_sem] theorem ty125 : tyOf Tryz.prog 125 = some (false, 1) := by kernel_rfl
@[go_sem] theorem in125 : infoOf Tryz.prog 125 = some (1, 8) := by kernel_rfl
@[go_sem] theorem ze125 : zeroV Tryz.prog 125 = some (.t .nilf) := by kernel_rfl
@[go_sem] theorem kd129 : kdOf Tryz.prog 129 = (.arr 3 66) := by kernel_rfl
@[go_sem] theorem ty129 : tyOf Tryz.prog 129 = some (true, 3) := by kernel_rfl
@[go_sem] theorem in129 : infoOf Tryz.prog 129 = some (3, 24) := by kernel_rfl
@[go_sem] theorem ze129 : zeroV Tryz.prog 129 = some (.t (.agg [.nilf, .nilf, .nilf])) := by kernel_rfl
@[go_sem] theorem kd143 : kdOf Tryz.prog 143 = (.sl 156) := by kernel_rfl
@[go_sem] theorem ty143 : tyOf Tryz.prog 143 = some (false, 1) := by kernel_rfl
@[go_sem] theorem in143 : infoOf Tryz.prog 143 = some (1, 24) := by kernel_rfl
@[go_sem] theorem ze143 : zeroV Tryz.prog 143 = some (.ex []) := by kernel_rfl
@[go_sem] theorem kd150 : kdOf Tryz.prog 150 = (.sl 143) := by kernel_rfl
@[go_sem] theorem ty150 : tyOf Tryz.prog 150 = some (false, 1) := by kernel_rfl
@[go_sem] theorem in150 : infoOf Tryz.prog 150 = some (1, 24) := by kernel_rfl
@[go_sem] theorem ze150 : zeroV Tryz.prog 150 = some (.ex []) := by kernel_rfl
@[go_sem] theorem kd151 : kdOf Tryz.prog 151 = (.arr 4 2) := by kernel_rfl
@[go_sem] theorem ty151 : tyOf Tryz.prog 151 = some (true, 4) := by kernel_rfl
@[go_sem] theorem in151 : infoOf Tryz.prog 151 = some (4, 32) := by kernel_rfl
@[go_sem] theorem ze151 : zeroV Tryz.prog 151 = some (.t (.agg [(.int .i64 0), (.int .i64 0), (.int .i64 0), (.int .i64 0)])) := by kernel_rfl
@[go_sem] theorem kd152 : kdOf Tryz.prog 152 = (.arr 4 38) := by kernel_rfl
@[go_sem] theorem ty152 : tyOf Tryz.prog 152 = some (true, 4) := by kernel_rfl
@[go_sem] theorem in152 : infoOf Tryz.prog 152 = some (4, 16) := by kernel_rfl
@[go_sem] theorem ze152 : zeroV Tryz.prog 152 = some (.t (.agg [(.int .u32 0), (.int .u32 0), (.int .u32 0), (.int .u32 0)])) := by kernel_rfl
@[go_sem] theorem kd154 : kdOf Tryz.prog 154 = .struct := by kernel_rfl
@[go_sem] theorem ty154 : tyOf Tryz.prog 154 = some (true, 8) := by kernel_rfl
@[go_sem] theorem in154 : infoOf Tryz.prog 154 = some (8, 48) := by kernel_rfl
@[go_sem] theorem ze154 : zeroV Tryz.prog 154 = some (.t (.agg [(.int .i64 0), (.int .i64 0), (.int .i64 0), (.int .i64 0), (.int .u32 0), (.int .u32 0), (.int .u32 0), (.int .u32 0)])) := by kernel_rfl
@[go_sem] theorem fs154 : fldsOf Tryz.prog 154 = some [(0, 4), (4, 4)] := by kernel_rfl
@[go_sem] theorem fl154x0 : fldOf Tryz.prog 154 0 = some (0, 4) := by kernel_rfl
@[go_sem] theorem fl154x1 : fldOf Tryz.prog 154 1 = some (4, 4) := by kernel_rfl
@[go_sem] theorem kd156 : kdOf Tryz.prog 156 = .struct := by kernel_rfl
@[go_sem] theorem ty156 : tyOf Tryz.prog 156 = some (true, 16) := by kernel_rfl
@[go_sem] theorem in156 : infoOf Tryz.prog 156 = some (16, 192) := by kernel_rfl
@[go_sem] theorem ze156 : zeroV Tryz.prog 156 = some (.agg [.ex [], .ex [], .ex [], .ex [], .ex [], .t (.int .i64 0), .t (.int .i64 0), .t (.int .i64 0), .t (.int .i64 0), .t (.int .u32 0), .t (.int .u32 0), .t (.int .u32 0), .t (.int .u32 0), .t (.int .i64 0), .t (.int .i64 0), .t (.int .i64 0)]) := by kernel_rfl
@[go_sem] theorem fs156 : fldsOf Tryz.prog 156 = some [(0, 1), (1, 1), (2, 1), (3, 1), (4, 1), (5, 8), (13, 1), (14, 1), (15, 1)] := by kernel_rfl
@[go_sem] theorem fl156x0 : fldOf Tryz.prog 156 0 = some (0, 1) := by kernel_rfl
@[go_sem] theorem fl156x1 : fldOf Tryz.prog 156 1 = some (1, 1) := by kernel_rfl
@[go_sem] theorem fl156x2 : fldOf Tryz.prog 156 2 = some (2, 1) := by kernel_rfl
@[go_sem] theorem fl156x3 : fldOf Tryz.prog 156 3 = some (3, 1) := by kernel_rfl
@[go_sem] theorem fl156x4 : fldOf Tryz.prog 156 4 = some (4, 1) := by kernel_rfl
@[go_sem] theorem fl156x5 : fldOf Tryz.prog 156 5 = some (5, 8) := by kernel_rfl
@[go_sem] theorem fl156x6 : fldOf Tryz.prog 156 6 = some (13, 1) := by kernel_rfl
@[go_sem] theorem fl156x7 : fldOf Tryz.prog 156 7 = some (14, 1) := by kernel_rfl
@[go_sem] theorem fl156x8 : fldOf Tryz.prog 156 8 = some (15, 1) := by kernel_rfl
@[go_sem] theorem kd195 : kdOf Tryz.prog 195 = .fn := by kernel_rfl
@[go_sem] theorem ty195 : tyOf Tryz.prog 195 = some (false, 1) := by kernel_rfl
@[go_sem] theorem in195 : infoOf Tryz.prog 195 = some (1, 8) := by kernel_rfl
@[go_sem] theorem ze195 : zeroV Tryz.prog 195 = some (.t .nilf) := by kernel_rfl
@[go_sem] theorem kd216 : kdOf Tryz.prog 216 = .other := by kernel_rfl
@[go_sem] theorem ty216 : tyOf Tryz.prog 216 = some (false, 1) := by kernel_rfl
@[go_sem] theorem in216 : infoOf Tryz.prog 216 = some (1, 8) := by kernel_rfl
@[go_sem] theorem kd219 : kdOf Tryz.prog 219 = .fn := by kernel_rfl
@[go_sem] theorem ty219 : tyOf Tryz.prog 219 = some (false, 1) := by kernel_rfl
@[go_sem] theorem in219 : infoOf Tryz.prog 219 = some (1, 8) := by kernel_rfl
@[go_sem] theorem ze219 : zeroV Tryz.prog 219 = some (.t .nilf) := by kernel_rfl
@[go_sem] theorem kd225 : kdOf Tryz.prog 225 = .fn := by kernel_rfl
@[go_sem] theorem ty225 : tyOf Tryz.prog 225 = some (false, 1) := by kernel_rfl
@[go_sem] theorem in225 : infoOf Tryz.prog 225 = some (1, 8) := by kernel_rfl
@[go_sem] theorem ze225 : zeroV Tryz.prog 225 = some (.t .nilf) := by kernel_rfl
@[go_sem] theorem kd242 : kdOf Tryz.prog 242 = (.int .u64) := by kernel_rfl
@[go_sem] theorem ty242 : tyOf Tryz.prog 242 = some (false, 1) := by kernel_rfl
@[go_sem] theorem in242 : infoOf Tryz.prog 242 = some (1, 8) := by kernel_rfl
@[go_sem] theorem ze242 : zeroV Tryz.prog 242 = some (.t (.int .u64 0)) := by kernel_rfl
@[go_sem] theorem kd244 : kdOf Tryz.prog 244 = .fn := by kernel_rfl
@[go_sem] theorem ty244 : tyOf Tryz.prog 244 = some (false, 1) := by kernel_rfl
@[go_sem] theorem in244 : infoOf Tryz.prog 244 = some (1, 8) := by kernel_rfl
@[go_sem] theorem ze244 : zeroV Tryz.prog 244 = some (.t .nilf) := by kernel_rfl
@[go_sem] theorem kd254 : kdOf Tryz.prog 254 = .struct := by kernel_rfl
@[go_sem] theorem ty254 : tyOf Tryz.prog 254 = some (true, 2) := by kernel_rfl
@[go_sem] theorem in254 : infoOf Tryz.prog 254 = some (2, 24) := by kernel_rfl
@[go_sem] theorem ze254 : zeroV Tryz.prog 254 = some (.t (.agg [(.str ByteArray.empty), (.int .i64 0)])) := by kernel_rfl
@[go_sem] theorem fs254 : fldsOf Tryz.prog 254 = some [(0, 1), (1, 1)] := by kernel_rfl
@[go_sem] theorem fl254x0 : fldOf Tryz.prog 254 0 = some (0, 1) := by kernel_rfl
@[go_sem] theorem fl254x1 : fldOf Tryz.prog 254 1 = some (1, 1) := by kernel_rfl
@[go_sem] theorem kd256 : kdOf Tryz.prog 256 = .struct := by kernel_rfl
@[go_sem] theorem ty256 : tyOf Tryz.prog 256 = some (true, 4) := by kernel_rfl
@[go_sem] theorem in256 : infoOf Tryz.prog 256 = some (4, 32) := by kernel_rfl
@[go_sem] theorem ze256 : zeroV Tryz.prog 256 = some (.t (.agg [(.int .i64 0), (.int .i64 0), (.int .i64 0), (.int .i64 0)])) := by kernel_rfl
@[go_sem] theorem fs256 : fldsOf Tryz.prog 256 = some [(0, 1), (1, 1), (2, 1), (3, 1)] := by kernel_rfl
@[go_sem] theorem fl256x0 : fldOf Tryz.prog 256 0 = some (0, 1) := by kernel_rfl
@[go_sem] theorem fl256x1 : fldOf Tryz.prog 256 1 = some (1, 1) := by kernel_rfl
@[go_sem] theorem fl256x2 : fldOf Tryz.prog 256 2 = some (2, 1) := by kernel_rfl
@[go_sem] theorem fl256x3 : fldOf Tryz.prog 256 3 = some (3, 1) := by kernel_rfl
@[go_sem] theorem kd257 : kdOf Tryz.prog 257 = (.sl 256) := by kernel_rfl
@[go_sem] theorem ty257 : tyOf Tryz.prog 257 = some (false, 1) := by kernel_rfl
@[go_sem] theorem in257 : infoOf Tryz.prog 257 = some (1, 24) := by kernel_rfl
@[go_sem] theorem ze257 : zeroV Tryz.prog 257 = some (.ex []) := by kernel_rfl
@[go_sem] theorem kd263 : kdOf Tryz.prog 263 = .other := by kernel_rfl
@[go_sem] theorem ty263 : tyOf Tryz.prog 263 = some (false, 1) := by kernel_rfl
@[go_sem] theorem in263 : infoOf Tryz.prog 263 = some (1, 8) := by kernel_rfl
@[go_sem] theorem ze263 : zeroV Tryz.prog 263 = some (.t .nilp) := by kernel_rfl
@[go_sem] theorem kd265 : kdOf Tryz.prog 265 = .struct := by kernel_rfl
@[go_sem] theorem ty265 : tyOf Tryz.prog 265 = some (true, 22) := by kernel_rfl
@[go_sem] theorem in265 : infoOf Tryz.prog 265 = some (22, 272) := by kernel_rfl
@[go_sem] theorem ze265 : zeroV Tryz.prog 265 = some (.agg [.ex [], .ex [], .ex [], .ex [], .ex [], .t (.int .i64 0), .t (.int .i64 0), .t (.int .i64 0), .t (.int .i64 0), .t (.int .u32 0), .t (.int .u32 0), .t (.int .u32 0), .t (.int .u32 0), .t (.int .i64 0), .t (.int .i64 0), .t (.int .i64 0), .t (.int .i64 0), .ex [], .ex [], .t (.int .u32 0), .t (.int .i64 0), .t (.int .i64 0)]) := by kernel_rfl
@[go_sem] theorem fs265 : fldsOf Tryz.prog 265 = some [(0, 16), (16, 1), (17, 1), (18, 1), (19, 1), (20, 1), (21, 1)] := by kernel_rfl
@[go_sem] theorem fl265x0 : fldOf Tryz.prog 265 0 = some (0, 16) := by kernel_rfl
@[go_sem] theorem fl265x1 : fldOf Tryz.prog 265 1 = some (16, 1) := by kernel_rfl
@[go_sem] theorem fl265x2 : fldOf Tryz.prog 265 2 = some (17, 1) := by kernel_rfl
@[go_sem] theorem fl265x3 : fldOf Tryz.prog 265 3 = some (18, 1) := by kernel_rfl
@[go_sem] theorem fl265x4 : fldOf Tryz.prog 265 4 = some (19, 1) := by kernel_rfl
@[go_sem] theorem fl265x5 : fldOf Tryz.prog 265 5 = some (20, 1) := by kernel_rfl
@[go_sem] theorem fl265x6 : fldOf Tryz.prog 265 6 = some (21, 1) := by kernel_rfl
@[go_sem] theorem kd270 : kdOf Tryz.prog 270 = .other := by kernel_rfl
@[go_sem] theorem ty270 : tyOf Tryz.prog 270 = some (false, 1) := by kernel_rfl
@[go_sem] theorem in270 : infoOf Tryz.prog 270 = some (1, 8) := by kernel_rfl
@[go_sem] theorem ze270 : zeroV Tryz.prog 270 = some (.t .nilp) := by kernel_rfl
@[go_sem] theorem kd292 : kdOf Tryz.prog 292 = (.sl 254) := by kernel_rfl
@[go_sem] theorem ty292 : tyOf Tryz.prog 292 = some (false, 1) := by kernel_rfl
@[go_sem] theorem in292 : infoOf Tryz.prog 292 = some (1, 24) := by kernel_rfl
@[go_sem] theorem ze292 : zeroV Tryz.prog 292 = some (.ex []) := by kernel_rfl
@[go_sem] theorem kd334 : kdOf Tryz.prog 334 = .fn := by kernel_rfl
@[go_sem] theorem ty334 : tyOf Tryz.prog 334 = some (false, 1) := by kernel_rfl
@[go_sem] theorem in334 : infoOf Tryz.prog 334 = some (1, 8) := by kernel_rfl
@[go_sem] theorem ze334 : zeroV Tryz.prog 334 = some (.t .nilf) := by kernel_rfl
@[go_sem] theorem kd341 : kdOf Tryz.prog 341 = .other := by kernel_rfl
@[go_sem] theorem ty341 : tyOf Tryz.prog 341 = some (false, 1) := by kernel_rfl
@[go_sem] theorem in341 : infoOf Tryz.prog 341 = some (1, 8) := by kernel_rfl
end Go.Sim
