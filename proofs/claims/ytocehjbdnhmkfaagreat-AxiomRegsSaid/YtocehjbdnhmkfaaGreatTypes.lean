/- A part of the proof of a law of module cupola: Types. It has no conditions of its own. -/
import Derived.Test.YtocehjbdnhmkfaaGreatSimE
import Derived.Test.YtocehjbdnhmkfaaGreatSimUu
import Derived.Test.YtocehjbdnhmkfaaGreatOrcs
import Derived.Test.YtocehjbdnhmkfaaGreatProg
import Derived.KernelRfl
set_option linter.all false
namespace Go.Sim
open Enc (enc)
open Go.Proofs
@[go_sem] theorem kd0 : kdOf Tryz.prog 0 = .other := by kernel_rfl
@[go_sem] theorem ty0 : tyOf Tryz.prog 0 = some (false, 1) := by kernel_rfl
@[go_sem] theorem in0 : infoOf Tryz.prog 0 = some (1, 0) := by kernel_rfl
@[go_sem] theorem kd1 : kdOf Tryz.prog 1 = .fn := by kernel_rfl
@[go_sem] theorem ty1 : tyOf Tryz.prog 1 = some (false, 1) := by kernel_rfl
@[go_sem] theorem in1 : infoOf Tryz.prog 1 = some (1, 8) := by kernel_rfl
@[go_sem] theorem ze1 : zeroV Tryz.prog 1 = some (.t .nilf) := by kernel_rfl
@[go_sem] theorem kd2 : kdOf Tryz.prog 2 = (.int .i64) := by kernel_rfl
@[go_sem] theorem ty2 : tyOf Tryz.prog 2 = some (false, 1) := by kernel_rfl
@[go_sem] theorem in2 : infoOf Tryz.prog 2 = some (1, 8) := by kernel_rfl
@[go_sem] theorem ze2 : zeroV Tryz.prog 2 = some (.t (.int .i64 0)) := by kernel_rfl
@[go_sem] theorem kd3 : kdOf Tryz.prog 3 = (.int .i64) := by kernel_rfl
@[go_sem] theorem ty3 : tyOf Tryz.prog 3 = some (false, 1) := by kernel_rfl
@[go_sem] theorem in3 : infoOf Tryz.prog 3 = some (1, 8) := by kernel_rfl
@[go_sem] theorem ze3 : zeroV Tryz.prog 3 = some (.t (.int .i64 0)) := by kernel_rfl
@[go_sem] theorem kd4 : kdOf Tryz.prog 4 = .bool := by kernel_rfl
@[go_sem] theorem ty4 : tyOf Tryz.prog 4 = some (false, 1) := by kernel_rfl
@[go_sem] theorem in4 : infoOf Tryz.prog 4 = some (1, 1) := by kernel_rfl
@[go_sem] theorem ze4 : zeroV Tryz.prog 4 = some (.t (.bool false)) := by kernel_rfl
@[go_sem] theorem kd5 : kdOf Tryz.prog 5 = (.int .u8) := by kernel_rfl
@[go_sem] theorem ty5 : tyOf Tryz.prog 5 = some (false, 1) := by kernel_rfl
@[go_sem] theorem in5 : infoOf Tryz.prog 5 = some (1, 1) := by kernel_rfl
@[go_sem] theorem ze5 : zeroV Tryz.prog 5 = some (.t (.int .u8 0)) := by kernel_rfl
@[go_sem] theorem kd6 : kdOf Tryz.prog 6 = (.int .u8) := by kernel_rfl
@[go_sem] theorem ty6 : tyOf Tryz.prog 6 = some (false, 1) := by kernel_rfl
@[go_sem] theorem in6 : infoOf Tryz.prog 6 = some (1, 1) := by kernel_rfl
@[go_sem] theorem ze6 : zeroV Tryz.prog 6 = some (.t (.int .u8 0)) := by kernel_rfl
@[go_sem] theorem kd7 : kdOf Tryz.prog 7 = .struct := by kernel_rfl
@[go_sem] theorem ty7 : tyOf Tryz.prog 7 = some (true, 4) := by kernel_rfl
@[go_sem] theorem in7 : infoOf Tryz.prog 7 = some (4, 24) := by kernel_rfl
@[go_sem] theorem ze7 : zeroV Tryz.prog 7 = some (.t (.agg [(.int .i64 0), (.int .i64 0), (.bool false), (.int .u8 0)])) := by kernel_rfl
@[go_sem] theorem fs7 : fldsOf Tryz.prog 7 = some [(0, 1), (1, 1), (2, 1), (3, 1)] := by kernel_rfl
@[go_sem] theorem fl7x0 : fldOf Tryz.prog 7 0 = some (0, 1) := by kernel_rfl
@[go_sem] theorem fl7x1 : fldOf Tryz.prog 7 1 = some (1, 1) := by kernel_rfl
@[go_sem] theorem fl7x2 : fldOf Tryz.prog 7 2 = some (2, 1) := by kernel_rfl
@[go_sem] theorem fl7x3 : fldOf Tryz.prog 7 3 = some (3, 1) := by kernel_rfl
@[go_sem] theorem kd8 : kdOf Tryz.prog 8 = .struct := by kernel_rfl
@[go_sem] theorem ty8 : tyOf Tryz.prog 8 = some (true, 4) := by kernel_rfl
@[go_sem] theorem in8 : infoOf Tryz.prog 8 = some (4, 24) := by kernel_rfl
@[go_sem] theorem ze8 : zeroV Tryz.prog 8 = some (.t (.agg [(.int .i64 0), (.int .i64 0), (.bool false), (.int .u8 0)])) := by kernel_rfl
@[go_sem] theorem fs8 : fldsOf Tryz.prog 8 = some [(0, 1), (1, 1), (2, 1), (3, 1)] := by kernel_rfl
@[go_sem] theorem fl8x0 : fldOf Tryz.prog 8 0 = some (0, 1) := by kernel_rfl
@[go_sem] theorem fl8x1 : fldOf Tryz.prog 8 1 = some (1, 1) := by kernel_rfl
@[go_sem] theorem fl8x2 : fldOf Tryz.prog 8 2 = some (2, 1) := by kernel_rfl
@[go_sem] theorem fl8x3 : fldOf Tryz.prog 8 3 = some (3, 1) := by kernel_rfl
@[go_sem] theorem kd9 : kdOf Tryz.prog 9 = .str := by kernel_rfl
@[go_sem] theorem ty9 : tyOf Tryz.prog 9 = some (false, 1) := by kernel_rfl
@[go_sem] theorem in9 : infoOf Tryz.prog 9 = some (1, 16) := by kernel_rfl
@[go_sem] theorem ze9 : zeroV Tryz.prog 9 = some (.t (.str ByteArray.empty)) := by kernel_rfl
@[go_sem] theorem kd10 : kdOf Tryz.prog 10 = .str := by kernel_rfl
@[go_sem] theorem ty10 : tyOf Tryz.prog 10 = some (false, 1) := by kernel_rfl
@[go_sem] theorem in10 : infoOf Tryz.prog 10 = some (1, 16) := by kernel_rfl
@[go_sem] theorem ze10 : zeroV Tryz.prog 10 = some (.t (.str ByteArray.empty)) := by kernel_rfl
@[go_sem] theorem kd11 : kdOf Tryz.prog 11 = .str := by kernel_rfl
@[go_sem] theorem ty11 : tyOf Tryz.prog 11 = some (false, 1) := by kernel_rfl
@[go_sem] theorem in11 : infoOf Tryz.prog 11 = some (1, 16) := by kernel_rfl
@[go_sem] theorem ze11 : zeroV Tryz.prog 11 = some (.t (.str ByteArray.empty)) := by kernel_rfl
@[go_sem] theorem kd12 : kdOf Tryz.prog 12 = (.int .u64) := by kernel_rfl
@[go_sem] theorem ty12 : tyOf Tryz.prog 12 = some (false, 1) := by kernel_rfl
@[go_sem] theorem in12 : infoOf Tryz.prog 12 = some (1, 8) := by kernel_rfl
@[go_sem] theorem ze12 : zeroV Tryz.prog 12 = some (.t (.int .u64 0)) := by kernel_rfl
@[go_sem] theorem kd13 : kdOf Tryz.prog 13 = .struct := by kernel_rfl
@[go_sem] theorem ty13 : tyOf Tryz.prog 13 = some (true, 2) := by kernel_rfl
@[go_sem] theorem in13 : infoOf Tryz.prog 13 = some (2, 24) := by kernel_rfl
@[go_sem] theorem ze13 : zeroV Tryz.prog 13 = some (.t (.agg [(.str ByteArray.empty), (.int .u64 0)])) := by kernel_rfl
@[go_sem] theorem fs13 : fldsOf Tryz.prog 13 = some [(0, 1), (1, 1)] := by kernel_rfl
@[go_sem] theorem fl13x0 : fldOf Tryz.prog 13 0 = some (0, 1) := by kernel_rfl
@[go_sem] theorem fl13x1 : fldOf Tryz.prog 13 1 = some (1, 1) := by kernel_rfl
@[go_sem] theorem kd14 : kdOf Tryz.prog 14 = .struct := by kernel_rfl
@[go_sem] theorem ty14 : tyOf Tryz.prog 14 = some (true, 2) := by kernel_rfl
@[go_sem] theorem in14 : infoOf Tryz.prog 14 = some (2, 24) := by kernel_rfl
@[go_sem] theorem ze14 : zeroV Tryz.prog 14 = some (.t (.agg [(.str ByteArray.empty), (.int .u64 0)])) := by kernel_rfl
@[go_sem] theorem fs14 : fldsOf Tryz.prog 14 = some [(0, 1), (1, 1)] := by kernel_rfl
@[go_sem] theorem fl14x0 : fldOf Tryz.prog 14 0 = some (0, 1) := by kernel_rfl
@[go_sem] theorem fl14x1 : fldOf Tryz.prog 14 1 = some (1, 1) := by kernel_rfl
@[go_sem] theorem kd15 : kdOf Tryz.prog 15 = .other := by kernel_rfl
@[go_sem] theorem ty15 : tyOf Tryz.prog 15 = some (false, 1) := by kernel_rfl
@[go_sem] theorem in15 : infoOf Tryz.prog 15 = some (1, 8) := by kernel_rfl
@[go_sem] theorem ze15 : zeroV Tryz.prog 15 = some (.t .nilp) := by kernel_rfl
@[go_sem] theorem kd16 : kdOf Tryz.prog 16 = .other := by kernel_rfl
@[go_sem] theorem ty16 : tyOf Tryz.prog 16 = some (false, 1) := by kernel_rfl
@[go_sem] theorem in16 : infoOf Tryz.prog 16 = some (1, 8) := by kernel_rfl
@[go_sem] theorem ze16 : zeroV Tryz.prog 16 = some (.t .nilp) := by kernel_rfl
@[go_sem] theorem kd17 : kdOf Tryz.prog 17 = .other := by kernel_rfl
@[go_sem] theorem ty17 : tyOf Tryz.prog 17 = some (false, 1) := by kernel_rfl
@[go_sem] theorem in17 : infoOf Tryz.prog 17 = some (1, 8) := by kernel_rfl
@[go_sem] theorem ze17 : zeroV Tryz.prog 17 = some (.t .nilp) := by kernel_rfl
@[go_sem] theorem kd18 : kdOf Tryz.prog 18 = .struct := by kernel_rfl
@[go_sem] theorem ty18 : tyOf Tryz.prog 18 = some (true, 1) := by kernel_rfl
@[go_sem] theorem in18 : infoOf Tryz.prog 18 = some (1, 8) := by kernel_rfl
@[go_sem] theorem ze18 : zeroV Tryz.prog 18 = some (.t (.agg [.nilp])) := by kernel_rfl
@[go_sem] theorem fs18 : fldsOf Tryz.prog 18 = some [(0, 1)] := by kernel_rfl
@[go_sem] theorem fl18x0 : fldOf Tryz.prog 18 0 = some (0, 1) := by kernel_rfl
@[go_sem] theorem kd19 : kdOf Tryz.prog 19 = .struct := by kernel_rfl
@[go_sem] theorem ty19 : tyOf Tryz.prog 19 = some (true, 1) := by kernel_rfl
@[go_sem] theorem in19 : infoOf Tryz.prog 19 = some (1, 8) := by kernel_rfl
@[go_sem] theorem ze19 : zeroV Tryz.prog 19 = some (.t (.agg [.nilp])) := by kernel_rfl
@[go_sem] theorem fs19 : fldsOf Tryz.prog 19 = some [(0, 1)] := by kernel_rfl
@[go_sem] theorem fl19x0 : fldOf Tryz.prog 19 0 = some (0, 1) := by kernel_rfl
@[go_sem] theorem kd20 : kdOf Tryz.prog 20 = .other := by kernel_rfl
@[go_sem] theorem ty20 : tyOf Tryz.prog 20 = some (false, 1) := by kernel_rfl
@[go_sem] theorem in20 : infoOf Tryz.prog 20 = some (1, 16) := by kernel_rfl
@[go_sem] theorem ze20 : zeroV Tryz.prog 20 = some (.t .nili) := by kernel_rfl
@[go_sem] theorem kd21 : kdOf Tryz.prog 21 = (.int .i32) := by kernel_rfl
@[go_sem] theorem ty21 : tyOf Tryz.prog 21 = some (false, 1) := by kernel_rfl
@[go_sem] theorem in21 : infoOf Tryz.prog 21 = some (1, 4) := by kernel_rfl
@[go_sem] theorem ze21 : zeroV Tryz.prog 21 = some (.t (.int .i32 0)) := by kernel_rfl
@[go_sem] theorem kd22 : kdOf Tryz.prog 22 = (.sl 51) := by kernel_rfl
@[go_sem] theorem ty22 : tyOf Tryz.prog 22 = some (false, 1) := by kernel_rfl
@[go_sem] theorem in22 : infoOf Tryz.prog 22 = some (1, 24) := by kernel_rfl
@[go_sem] theorem ze22 : zeroV Tryz.prog 22 = some (.ex []) := by kernel_rfl
@[go_sem] theorem kd23 : kdOf Tryz.prog 23 = (.sl 60) := by kernel_rfl
@[go_sem] theorem ty23 : tyOf Tryz.prog 23 = some (false, 1) := by kernel_rfl
@[go_sem] theorem in23 : infoOf Tryz.prog 23 = some (1, 24) := by kernel_rfl
@[go_sem] theorem ze23 : zeroV Tryz.prog 23 = some (.ex []) := by kernel_rfl
@[go_sem] theorem kd24 : kdOf Tryz.prog 24 = (.sl 39) := by kernel_rfl
@[go_sem] theorem ty24 : tyOf Tryz.prog 24 = some (false, 1) := by kernel_rfl
@[go_sem] theorem in24 : infoOf Tryz.prog 24 = some (1, 24) := by kernel_rfl
@[go_sem] theorem ze24 : zeroV Tryz.prog 24 = some (.ex []) := by kernel_rfl
@[go_sem] theorem kd25 : kdOf Tryz.prog 25 = .struct := by kernel_rfl
@[go_sem] theorem ty25 : tyOf Tryz.prog 25 = some (true, 7) := by kernel_rfl
@[go_sem] theorem in25 : infoOf Tryz.prog 25 = some (7, 168) := by kernel_rfl
@[go_sem] theorem ze25 : zeroV Tryz.prog 25 = some (.agg [.ex [], .ex [], .ex [], .ex [], .ex [], .ex [], .ex []]) := by kernel_rfl
@[go_sem] theorem fs25 : fldsOf Tryz.prog 25 = some [(0, 1), (1, 1), (2, 1), (3, 1), (4, 1), (5, 1), (6, 1)] := by kernel_rfl
@[go_sem] theorem fl25x0 : fldOf Tryz.prog 25 0 = some (0, 1) := by kernel_rfl
@[go_sem] theorem fl25x1 : fldOf Tryz.prog 25 1 = some (1, 1) := by kernel_rfl
@[go_sem] theorem fl25x2 : fldOf Tryz.prog 25 2 = some (2, 1) := by kernel_rfl
@[go_sem] theorem fl25x3 : fldOf Tryz.prog 25 3 = some (3, 1) := by kernel_rfl
@[go_sem] theorem fl25x4 : fldOf Tryz.prog 25 4 = some (4, 1) := by kernel_rfl
@[go_sem] theorem fl25x5 : fldOf Tryz.prog 25 5 = some (5, 1) := by kernel_rfl
@[go_sem] theorem fl25x6 : fldOf Tryz.prog 25 6 = some (6, 1) := by kernel_rfl
@[go_sem] theorem kd26 : kdOf Tryz.prog 26 = .struct := by kernel_rfl
@[go_sem] theorem ty26 : tyOf Tryz.prog 26 = some (true, 7) := by kernel_rfl
@[go_sem] theorem in26 : infoOf Tryz.prog 26 = some (7, 168) := by kernel_rfl
@[go_sem] theorem ze26 : zeroV Tryz.prog 26 = some (.agg [.ex [], .ex [], .ex [], .ex [], .ex [], .ex [], .ex []]) := by kernel_rfl
@[go_sem] theorem fs26 : fldsOf Tryz.prog 26 = some [(0, 1), (1, 1), (2, 1), (3, 1), (4, 1), (5, 1), (6, 1)] := by kernel_rfl
@[go_sem] theorem fl26x0 : fldOf Tryz.prog 26 0 = some (0, 1) := by kernel_rfl
@[go_sem] theorem fl26x1 : fldOf Tryz.prog 26 1 = some (1, 1) := by kernel_rfl
@[go_sem] theorem fl26x2 : fldOf Tryz.prog 26 2 = some (2, 1) := by kernel_rfl
@[go_sem] theorem fl26x3 : fldOf Tryz.prog 26 3 = some (3, 1) := by kernel_rfl
@[go_sem] theorem fl26x4 : fldOf Tryz.prog 26 4 = some (4, 1) := by kernel_rfl
@[go_sem] theorem fl26x5 : fldOf Tryz.prog 26 5 = some (5, 1) := by kernel_rfl
@[go_sem] theorem fl26x6 : fldOf Tryz.prog 26 6 = some (6, 1) := by kernel_rfl
@[go_sem] theorem kd27 : kdOf Tryz.prog 27 = (.sl 3) := by kernel_rfl
@[go_sem] theorem ty27 : tyOf Tryz.prog 27 = some (false, 1) := by kernel_rfl
@[go_sem] theorem in27 : infoOf Tryz.prog 27 = some (1, 24) := by kernel_rfl
@[go_sem] theorem ze27 : zeroV Tryz.prog 27 = some (.ex []) := by kernel_rfl
@[go_sem] theorem kd28 : kdOf Tryz.prog 28 = .fn := by kernel_rfl
@[go_sem] theorem ty28 : tyOf Tryz.prog 28 = some (false, 1) := by kernel_rfl
@[go_sem] theorem in28 : infoOf Tryz.prog 28 = some (1, 8) := by kernel_rfl
@[go_sem] theorem ze28 : zeroV Tryz.prog 28 = some (.t .nilf) := by kernel_rfl
@[go_sem] theorem kd29 : kdOf Tryz.prog 29 = .fn := by kernel_rfl
@[go_sem] theorem ty29 : tyOf Tryz.prog 29 = some (false, 1) := by kernel_rfl
@[go_sem] theorem in29 : infoOf Tryz.prog 29 = some (1, 8) := by kernel_rfl
@[go_sem] theorem ze29 : zeroV Tryz.prog 29 = some (.t .nilf) := by kernel_rfl
@[go_sem] theorem kd30 : kdOf Tryz.prog 30 = (.sl 60) := by kernel_rfl
@[go_sem] theorem ty30 : tyOf Tryz.prog 30 = some (false, 1) := by kernel_rfl
@[go_sem] theorem in30 : infoOf Tryz.prog 30 = some (1, 24) := by kernel_rfl
@[go_sem] theorem ze30 : zeroV Tryz.prog 30 = some (.ex []) := by kernel_rfl
@[go_sem] theorem kd31 : kdOf Tryz.prog 31 = .struct := by kernel_rfl
@[go_sem] theorem ty31 : tyOf Tryz.prog 31 = some (true, 7) := by kernel_rfl
@[go_sem] theorem in31 : infoOf Tryz.prog 31 = some (7, 168) := by kernel_rfl
@[go_sem] theorem ze31 : zeroV Tryz.prog 31 = some (.agg [.ex [], .ex [], .ex [], .ex [], .ex [], .ex [], .ex []]) := by kernel_rfl
@[go_sem] theorem fs31 : fldsOf Tryz.prog 31 = some [(0, 1), (1, 1), (2, 1), (3, 1), (4, 1), (5, 1), (6, 1)] := by kernel_rfl
@[go_sem] theorem fl31x0 : fldOf Tryz.prog 31 0 = some (0, 1) := by kernel_rfl
@[go_sem] theorem fl31x1 : fldOf Tryz.prog 31 1 = some (1, 1) := by kernel_rfl
@[go_sem] theorem fl31x2 : fldOf Tryz.prog 31 2 = some (2, 1) := by kernel_rfl
@[go_sem] theorem fl31x3 : fldOf Tryz.prog 31 3 = some (3, 1) := by kernel_rfl
@[go_sem] theorem fl31x4 : fldOf Tryz.prog 31 4 = some (4, 1) := by kernel_rfl
@[go_sem] theorem fl31x5 : fldOf Tryz.prog 31 5 = some (5, 1) := by kernel_rfl
@[go_sem] theorem fl31x6 : fldOf Tryz.prog 31 6 = some (6, 1) := by kernel_rfl
@[go_sem] theorem kd32 : kdOf Tryz.prog 32 = .struct := by kernel_rfl
@[go_sem] theorem ty32 : tyOf Tryz.prog 32 = some (true, 7) := by kernel_rfl
@[go_sem] theorem in32 : infoOf Tryz.prog 32 = some (7, 168) := by kernel_rfl
@[go_sem] theorem ze32 : zeroV Tryz.prog 32 = some (.agg [.ex [], .ex [], .ex [], .ex [], .ex [], .ex [], .ex []]) := by kernel_rfl
@[go_sem] theorem fs32 : fldsOf Tryz.prog 32 = some [(0, 1), (1, 1), (2, 1), (3, 1), (4, 1), (5, 1), (6, 1)] := by kernel_rfl
@[go_sem] theorem fl32x0 : fldOf Tryz.prog 32 0 = some (0, 1) := by kernel_rfl
@[go_sem] theorem fl32x1 : fldOf Tryz.prog 32 1 = some (1, 1) := by kernel_rfl
@[go_sem] theorem fl32x2 : fldOf Tryz.prog 32 2 = some (2, 1) := by kernel_rfl
@[go_sem] theorem fl32x3 : fldOf Tryz.prog 32 3 = some (3, 1) := by kernel_rfl
@[go_sem] theorem fl32x4 : fldOf Tryz.prog 32 4 = some (4, 1) := by kernel_rfl
@[go_sem] theorem fl32x5 : fldOf Tryz.prog 32 5 = some (5, 1) := by kernel_rfl
@[go_sem] theorem fl32x6 : fldOf Tryz.prog 32 6 = some (6, 1) := by kernel_rfl
@[go_sem] theorem kd33 : kdOf Tryz.prog 33 = .fn := by kernel_rfl
@[go_sem] theorem ty33 : tyOf Tryz.prog 33 = some (false, 1) := by kernel_rfl
@[go_sem] theorem in33 : infoOf Tryz.prog 33 = some (1, 8) := by kernel_rfl
@[go_sem] theorem ze33 : zeroV Tryz.prog 33 = some (.t .nilf) := by kernel_rfl
@[go_sem] theorem kd34 : kdOf Tryz.prog 34 = .fn := by kernel_rfl
@[go_sem] theorem ty34 : tyOf Tryz.prog 34 = some (false, 1) := by kernel_rfl
@[go_sem] theorem in34 : infoOf Tryz.prog 34 = some (1, 8) := by kernel_rfl
@[go_sem] theorem ze34 : zeroV Tryz.prog 34 = some (.t .nilf) := by kernel_rfl
@[go_sem] theorem kd35 : kdOf Tryz.prog 35 = .fn := by kernel_rfl
@[go_sem] theorem ty35 : tyOf Tryz.prog 35 = some (false, 1) := by kernel_rfl
@[go_sem] theorem in35 : infoOf Tryz.prog 35 = some (1, 8) := by kernel_rfl
@[go_sem] theorem ze35 : zeroV Tryz.prog 35 = some (.t .nilf) := by kernel_rfl
@[go_sem] theorem kd36 : kdOf Tryz.prog 36 = .fn := by kernel_rfl
@[go_sem] theorem ty36 : tyOf Tryz.prog 36 = some (false, 1) := by kernel_rfl
@[go_sem] theorem in36 : infoOf Tryz.prog 36 = some (1, 8) := by kernel_rfl
@[go_sem] theorem ze36 : zeroV Tryz.prog 36 = some (.t .nilf) := by kernel_rfl
@[go_sem] theorem kd37 : kdOf Tryz.prog 37 = .fn := by kernel_rfl
@[go_sem] theorem ty37 : tyOf Tryz.prog 37 = some (false, 1) := by kernel_rfl
@[go_sem] theorem in37 : infoOf Tryz.prog 37 = some (1, 8) := by kernel_rfl
@[go_sem] theorem ze37 : zeroV Tryz.prog 37 = some (.t .nilf) := by kernel_rfl
@[go_sem] theorem kd38 : kdOf Tryz.prog 38 = .fn := by kernel_rfl
@[go_sem] theorem ty38 : tyOf Tryz.prog 38 = some (false, 1) := by kernel_rfl
@[go_sem] theorem in38 : infoOf Tryz.prog 38 = some (1, 8) := by kernel_rfl
@[go_sem] theorem ze38 : zeroV Tryz.prog 38 = some (.t .nilf) := by kernel_rfl
@[go_sem] theorem kd39 : kdOf Tryz.prog 39 = (.sl 2) := by kernel_rfl
@[go_sem] theorem ty39 : tyOf Tryz.prog 39 = some (false, 1) := by kernel_rfl
@[go_sem] theorem in39 : infoOf Tryz.prog 39 = some (1, 24) := by kernel_rfl
@[go_sem] theorem ze39 : zeroV Tryz.prog 39 = some (.ex []) := by kernel_rfl
@[go_sem] theorem kd40 : kdOf Tryz.prog 40 = (.sl 90) := by kernel_rfl
@[go_sem] theorem ty40 : tyOf Tryz.prog 40 = some (false, 1) := by kernel_rfl
@[go_sem] theorem in40 : infoOf Tryz.prog 40 = some (1, 24) := by kernel_rfl
@[go_sem] theorem ze40 : zeroV Tryz.prog 40 = some (.ex []) := by kernel_rfl
@[go_sem] theorem kd41 : kdOf Tryz.prog 41 = .struct := by kernel_rfl
@[go_sem] theorem ty41 : tyOf Tryz.prog 41 = some (true, 2) := by kernel_rfl
@[go_sem] theorem in41 : infoOf Tryz.prog 41 = some (2, 48) := by kernel_rfl
@[go_sem] theorem ze41 : zeroV Tryz.prog 41 = some (.agg [.ex [], .ex []]) := by kernel_rfl
@[go_sem] theorem fs41 : fldsOf Tryz.prog 41 = some [(0, 1), (1, 1)] := by kernel_rfl
@[go_sem] theorem fl41x0 : fldOf Tryz.prog 41 0 = some (0, 1) := by kernel_rfl
@[go_sem] theorem fl41x1 : fldOf Tryz.prog 41 1 = some (1, 1) := by kernel_rfl
@[go_sem] theorem kd42 : kdOf Tryz.prog 42 = .struct := by kernel_rfl
@[go_sem] theorem ty42 : tyOf Tryz.prog 42 = some (true, 2) := by kernel_rfl
@[go_sem] theorem in42 : infoOf Tryz.prog 42 = some (2, 48) := by kernel_rfl
@[go_sem] theorem ze42 : zeroV Tryz.prog 42 = some (.agg [.ex [], .ex []]) := by kernel_rfl
@[go_sem] theorem fs42 : fldsOf Tryz.prog 42 = some [(0, 1), (1, 1)] := by kernel_rfl
@[go_sem] theorem fl42x0 : fldOf Tryz.prog 42 0 = some (0, 1) := by kernel_rfl
@[go_sem] theorem fl42x1 : fldOf Tryz.prog 42 1 = some (1, 1) := by kernel_rfl
@[go_sem] theorem kd43 : kdOf Tryz.prog 43 = (.int .u16) := by kernel_rfl
@[go_sem] theorem ty43 : tyOf Tryz.prog 43 = some (false, 1) := by kernel_rfl
@[go_sem] theorem in43 : infoOf Tryz.prog 43 = some (1, 2) := by kernel_rfl
@[go_sem] theorem ze43 : zeroV Tryz.prog 43 = some (.t (.int .u16 0)) := by kernel_rfl
@[go_sem] theorem kd44 : kdOf Tryz.prog 44 = .fn := by kernel_rfl
@[go_sem] theorem ty44 : tyOf Tryz.prog 44 = some (false, 1) := by kernel_rfl
@[go_sem] theorem in44 : infoOf Tryz.prog 44 = some (1, 8) := by kernel_rfl
@[go_sem] theorem ze44 : zeroV Tryz.prog 44 = some (.t .nilf) := by kernel_rfl
@[go_sem] theorem kd45 : kdOf Tryz.prog 45 = (.sl 32) := by kernel_rfl
@[go_sem] theorem ty45 : tyOf Tryz.prog 45 = some (false, 1) := by kernel_rfl
@[go_sem] theorem in45 : infoOf Tryz.prog 45 = some (1, 24) := by kernel_rfl
@[go_sem] theorem ze45 : zeroV Tryz.prog 45 = some (.ex []) := by kernel_rfl
@[go_sem] theorem kd46 : kdOf Tryz.prog 46 = (.int .i64) := by kernel_rfl
@[go_sem] theorem ty46 : tyOf Tryz.prog 46 = some (false, 1) := by kernel_rfl
@[go_sem] theorem in46 : infoOf Tryz.prog 46 = some (1, 8) := by kernel_rfl
@[go_sem] theorem ze46 : zeroV Tryz.prog 46 = some (.t (.int .i64 0)) := by kernel_rfl
@[go_sem] theorem kd47 : kdOf Tryz.prog 47 = .other := by kernel_rfl
@[go_sem] theorem ty47 : tyOf Tryz.prog 47 = some (false, 1) := by kernel_rfl
@[go_sem] theorem in47 : infoOf Tryz.prog 47 = some (1, 0) := by kernel_rfl
@[go_sem] theorem kd48 : kdOf Tryz.prog 48 = .fn := by kernel_rfl
@[go_sem] theorem ty48 : tyOf Tryz.prog 48 = some (false, 1) := by kernel_rfl
@[go_sem] theorem in48 : infoOf Tryz.prog 48 = some (1, 8) := by kernel_rfl
@[go_sem] theorem ze48 : zeroV Tryz.prog 48 = some (.t .nilf) := by kernel_rfl
@[go_sem] theorem kd49 : kdOf Tryz.prog 49 = .fn := by kernel_rfl
@[go_sem] theorem ty49 : tyOf Tryz.prog 49 = some (false, 1) := by kernel_rfl
@[go_sem] theorem in49 : infoOf Tryz.prog 49 = some (1, 8) := by kernel_rfl
@[go_sem] theorem ze49 : zeroV Tryz.prog 49 = some (.t .nilf) := by kernel_rfl
@[go_sem] theorem kd50 : kdOf Tryz.prog 50 = .struct := by kernel_rfl
@[go_sem] theorem ty50 : tyOf Tryz.prog 50 = some (true, 7) := by kernel_rfl
@[go_sem] theorem in50 : infoOf Tryz.prog 50 = some (7, 40) := by kernel_rfl
@[go_sem] theorem ze50 : zeroV Tryz.prog 50 = some (.t (.agg [(.int .i64 0), (.int .i64 0), (.int .i64 0), (.int .i64 0), (.bool false), (.bool false), (.bool false)])) := by kernel_rfl
@[go_sem] theorem fs50 : fldsOf Tryz.prog 50 = some [(0, 1), (1, 1), (2, 1), (3, 1), (4, 1), (5, 1), (6, 1)] := by kernel_rfl
@[go_sem] theorem fl50x0 : fldOf Tryz.prog 50 0 = some (0, 1) := by kernel_rfl
@[go_sem] theorem fl50x1 : fldOf Tryz.prog 50 1 = some (1, 1) := by kernel_rfl
@[go_sem] theorem fl50x2 : fldOf Tryz.prog 50 2 = some (2, 1) := by kernel_rfl
@[go_sem] theorem fl50x3 : fldOf Tryz.prog 50 3 = some (3, 1) := by kernel_rfl
@[go_sem] theorem fl50x4 : fldOf Tryz.prog 50 4 = some (4, 1) := by kernel_rfl
@[go_sem] theorem fl50x5 : fldOf Tryz.prog 50 5 = some (5, 1) := by kernel_rfl
@[go_sem] theorem fl50x6 : fldOf Tryz.prog 50 6 = some (6, 1) := by kernel_rfl
@[go_sem] theorem kd51 : kdOf Tryz.prog 51 = .struct := by kernel_rfl
@[go_sem] theorem ty51 : tyOf Tryz.prog 51 = some (true, 7) := by kernel_rfl
@[go_sem] theorem in51 : infoOf Tryz.prog 51 = some (7, 40) := by kernel_rfl
@[go_sem] theorem ze51 : zeroV Tryz.prog 51 = some (.t (.agg [(.int .i64 0), (.int .i64 0), (.int .i64 0), (.int .i64 0), (.bool false), (.bool false), (.bool false)])) := by kernel_rfl
@[go_sem] theorem fs51 : fldsOf Tryz.prog 51 = some [(0, 1), (1, 1), (2, 1), (3, 1), (4, 1), (5, 1), (6, 1)] := by kernel_rfl
@[go_sem] theorem fl51x0 : fldOf Tryz.prog 51 0 = some (0, 1) := by kernel_rfl
@[go_sem] theorem fl51x1 : fldOf Tryz.prog 51 1 = some (1, 1) := by kernel_rfl
@[go_sem] theorem fl51x2 : fldOf Tryz.prog 51 2 = some (2, 1) := by kernel_rfl
@[go_sem] theorem fl51x3 : fldOf Tryz.prog 51 3 = some (3, 1) := by kernel_rfl
@[go_sem] theorem fl51x4 : fldOf Tryz.prog 51 4 = some (4, 1) := by kernel_rfl
@[go_sem] theorem fl51x5 : fldOf Tryz.prog 51 5 = some (5, 1) := by kernel_rfl
@[go_sem] theorem fl51x6 : fldOf Tryz.prog 51 6 = some (6, 1) := by kernel_rfl
@[go_sem] theorem kd52 : kdOf Tryz.prog 52 = .fn := by kernel_rfl
@[go_sem] theorem ty52 : tyOf Tryz.prog 52 = some (false, 1) := by kernel_rfl
@[go_sem] theorem in52 : infoOf Tryz.prog 52 = some (1, 8) := by kernel_rfl
@[go_sem] theorem ze52 : zeroV Tryz.prog 52 = some (.t .nilf) := by kernel_rfl
@[go_sem] theorem kd53 : kdOf Tryz.prog 53 = .fn := by kernel_rfl
@[go_sem] theorem ty53 : tyOf Tryz.prog 53 = some (false, 1) := by kernel_rfl
@[go_sem] theorem in53 : infoOf Tryz.prog 53 = some (1, 8) := by kernel_rfl
@[go_sem] theorem ze53 : zeroV Tryz.prog 53 = some (.t .nilf) := by kernel_rfl
@[go_sem] theorem kd54 : kdOf Tryz.prog 54 = .fn := by kernel_rfl
@[go_sem] theorem ty54 : tyOf Tryz.prog 54 = some (false, 1) := by kernel_rfl
@[go_sem] theorem in54 : infoOf Tryz.prog 54 = some (1, 8) := by kernel_rfl
@[go_sem] theorem ze54 : zeroV Tryz.prog 54 = some (.t .nilf) := by kernel_rfl
@[go_sem] theorem kd55 : kdOf Tryz.prog 55 = .fn := by kernel_rfl
@[go_sem] theorem ty55 : tyOf Tryz.prog 55 = some (false, 1) := by kernel_rfl
@[go_sem] theorem in55 : infoOf Tryz.prog 55 = some (1, 8) := by kernel_rfl
@[go_sem] theorem ze55 : zeroV Tryz.prog 55 = some (.t .nilf) := by kernel_rfl
@[go_sem] theorem kd56 : kdOf Tryz.prog 56 = .fn := by kernel_rfl
@[go_sem] theorem ty56 : tyOf Tryz.prog 56 = some (false, 1) := by kernel_rfl
@[go_sem] theorem in56 : infoOf Tryz.prog 56 = some (1, 8) := by kernel_rfl
@[go_sem] theorem ze56 : zeroV Tryz.prog 56 = some (.t .nilf) := by kernel_rfl
@[go_sem] theorem kd57 : kdOf Tryz.prog 57 = .fn := by kernel_rfl
@[go_sem] theorem ty57 : tyOf Tryz.prog 57 = some (false, 1) := by kernel_rfl
@[go_sem] theorem in57 : infoOf Tryz.prog 57 = some (1, 8) := by kernel_rfl
@[go_sem] theorem ze57 : zeroV Tryz.prog 57 = some (.t .nilf) := by kernel_rfl
@[go_sem] theorem kd58 : kdOf Tryz.prog 58 = .fn := by kernel_rfl
@[go_sem] theorem ty58 : tyOf Tryz.prog 58 = some (false, 1) := by kernel_rfl
@[go_sem] theorem in58 : infoOf Tryz.prog 58 = some (1, 8) := by kernel_rfl
@[go_sem] theorem ze58 : zeroV Tryz.prog 58 = some (.t .nilf) := by kernel_rfl
@[go_sem] theorem kd59 : kdOf Tryz.prog 59 = .fn := by kernel_rfl
@[go_sem] theorem ty59 : tyOf Tryz.prog 59 = some (false, 1) := by kernel_rfl
@[go_sem] theorem in59 : infoOf Tryz.prog 59 = some (1, 8) := by kernel_rfl
@[go_sem] theorem ze59 : zeroV Tryz.prog 59 = some (.t .nilf) := by kernel_rfl
@[go_sem] theorem kd60 : kdOf Tryz.prog 60 = (.int .u32) := by kernel_rfl
@[go_sem] theorem ty60 : tyOf Tryz.prog 60 = some (false, 1) := by kernel_rfl
@[go_sem] theorem in60 : infoOf Tryz.prog 60 = some (1, 4) := by kernel_rfl
@[go_sem] theorem ze60 : zeroV Tryz.prog 60 = some (.t (.int .u32 0)) := by kernel_rfl
@[go_sem] theorem kd61 : kdOf Tryz.prog 61 = .fn := by kernel_rfl
@[go_sem] theorem ty61 : tyOf Tryz.prog 61 = some (false, 1) := by kernel_rfl
@[go_sem] theorem in61 : infoOf Tryz.prog 61 = some (1, 8) := by kernel_rfl
@[go_sem] theorem ze61 : zeroV Tryz.prog 61 = some (.t .nilf) := by kernel_rfl
@[go_sem] theorem kd62 : kdOf Tryz.prog 62 = .fn := by kernel_rfl
@[go_sem] theorem ty62 : tyOf Tryz.prog 62 = some (false, 1) := by kernel_rfl
@[go_sem] theorem in62 : infoOf Tryz.prog 62 = some (1, 8) := by kernel_rfl
@[go_sem] theorem ze62 : zeroV Tryz.prog 62 = some (.t .nilf) := by kernel_rfl
@[go_sem] theorem kd63 : kdOf Tryz.prog 63 = .fn := by kernel_rfl
@[go_sem] theorem ty63 : tyOf Tryz.prog 63 = some (false, 1) := by kernel_rfl
@[go_sem] theorem in63 : infoOf Tryz.prog 63 = some (1, 8) := by kernel_rfl
@[go_sem] theorem ze63 : zeroV Tryz.prog 63 = some (.t .nilf) := by kernel_rfl
@[go_sem] theorem kd64 : kdOf Tryz.prog 64 = (.arr 3 43) := by kernel_rfl
@[go_sem] theorem ty64 : tyOf Tryz.prog 64 = some (true, 3) := by kernel_rfl
@[go_sem] theorem in64 : infoOf Tryz.prog 64 = some (3, 6) := by kernel_rfl
@[go_sem] theorem ze64 : zeroV Tryz.prog 64 = some (.t (.agg [(.int .u16 0), (.int .u16 0), (.int .u16 0)])) := by kernel_rfl
@[go_sem] theorem kd65 : kdOf Tryz.prog 65 = .other := by kernel_rfl
@[go_sem] theorem ty65 : tyOf Tryz.prog 65 = some (false, 1) := by kernel_rfl
@[go_sem] theorem in65 : infoOf Tryz.prog 65 = some (1, 0) := by kernel_rfl
@[go_sem] theorem kd66 : kdOf Tryz.prog 66 = .fn := by kernel_rfl
@[go_sem] theorem ty66 : tyOf Tryz.prog 66 = some (false, 1) := by kernel_rfl
@[go_sem] theorem in66 : infoOf Tryz.prog 66 = some (1, 8) := by kernel_rfl
@[go_sem] theorem ze66 : zeroV Tryz.prog 66 = some (.t .nilf) := by kernel_rfl
@[go_sem] theorem kd67 : kdOf Tryz.prog 67 = .fn := by kernel_rfl
@[go_sem] theorem ty67 : tyOf Tryz.prog 67 = some (false, 1) := by kernel_rfl
@[go_sem] theorem in67 : infoOf Tryz.prog 67 = some (1, 8) := by kernel_rfl
@[go_sem] theorem ze67 : zeroV Tryz.prog 67 = some (.t .nilf) := by kernel_rfl
@[go_sem] theorem kd68 : kdOf Tryz.prog 68 = (.sl 27) := by kernel_rfl
@[go_sem] theorem ty68 : tyOf Tryz.prog 68 = some (false, 1) := by kernel_rfl
@[go_sem] theorem in68 : infoOf Tryz.prog 68 = some (1, 24) := by kernel_rfl
@[go_sem] theorem ze68 : zeroV Tryz.prog 68 = some (.ex []) := by kernel_rfl
@[go_sem] theorem kd69 : kdOf Tryz.prog 69 = .fn := by kernel_rfl
@[go_sem] theorem ty69 : tyOf Tryz.prog 69 = some (false, 1) := by kernel_rfl
@[go_sem] theorem in69 : infoOf Tryz.prog 69 = some (1, 8) := by kernel_rfl
@[go_sem] theorem ze69 : zeroV Tryz.prog 69 = some (.t .nilf) := by kernel_rfl
@[go_sem] theorem kd70 : kdOf Tryz.prog 70 = (.sl 30) := by kernel_rfl
@[go_sem] theorem ty70 : tyOf Tryz.prog 70 = some (false, 1) := by kernel_rfl
@[go_sem] theorem in70 : infoOf Tryz.prog 70 = some (1, 24) := by kernel_rfl
@[go_sem] theorem ze70 : zeroV Tryz.prog 70 = some (.ex []) := by kernel_rfl
@[go_sem] theorem kd71 : kdOf Tryz.prog 71 = .fn := by kernel_rfl
@[go_sem] theorem ty71 : tyOf Tryz.prog 71 = some (false, 1) := by kernel_rfl
@[go_sem] theorem in71 : infoOf Tryz.prog 71 = some (1, 8) := by kernel_rfl
@[go_sem] theorem ze71 : zeroV Tryz.prog 71 = some (.t .nilf) := by kernel_rfl
@[go_sem] theorem kd72 : kdOf Tryz.prog 72 = .fn := by kernel_rfl
@[go_sem] theorem ty72 : tyOf Tryz.prog 72 = some (false, 1) := by kernel_rfl
@[go_sem] theorem in72 : infoOf Tryz.prog 72 = some (1, 8) := by kernel_rfl
@[go_sem] theorem ze72 : zeroV Tryz.prog 72 = some (.t .nilf) := by kernel_rfl
@[go_sem] theorem kd73 : kdOf Tryz.prog 73 = .fn := by kernel_rfl
@[go_sem] theorem ty73 : tyOf Tryz.prog 73 = some (false, 1) := by kernel_rfl
@[go_sem] theorem in73 : infoOf Tryz.prog 73 = some (1, 8) := by kernel_rfl
@[go_sem] theorem ze73 : zeroV Tryz.prog 73 = some (.t .nilf) := by kernel_rfl
@[go_sem] theorem kd74 : kdOf Tryz.prog 74 = .fn := by kernel_rfl
@[go_sem] theorem ty74 : tyOf Tryz.prog 74 = some (false, 1) := by kernel_rfl
@[go_sem] theorem in74 : infoOf Tryz.prog 74 = some (1, 8) := by kernel_rfl
@[go_sem] theorem ze74 : zeroV Tryz.prog 74 = some (.t .nilf) := by kernel_rfl
@[go_sem] theorem kd75 : kdOf Tryz.prog 75 = .fn := by kernel_rfl
@[go_sem] theorem ty75 : tyOf Tryz.prog 75 = some (false, 1) := by kernel_rfl
@[go_sem] theorem in75 : infoOf Tryz.prog 75 = some (1, 8) := by kernel_rfl
@[go_sem] theorem ze75 : zeroV Tryz.prog 75 = some (.t .nilf) := by kernel_rfl
@[go_sem] theorem kd76 : kdOf Tryz.prog 76 = (.int .u64) := by kernel_rfl
@[go_sem] theorem ty76 : tyOf Tryz.prog 76 = some (false, 1) := by kernel_rfl
@[go_sem] theorem in76 : infoOf Tryz.prog 76 = some (1, 8) := by kernel_rfl
@[go_sem] theorem ze76 : zeroV Tryz.prog 76 = some (.t (.int .u64 0)) := by kernel_rfl
@[go_sem] theorem kd77 : kdOf Tryz.prog 77 = .fn := by kernel_rfl
@[go_sem] theorem ty77 : tyOf Tryz.prog 77 = some (false, 1) := by kernel_rfl
@[go_sem] theorem in77 : infoOf Tryz.prog 77 = some (1, 8) := by kernel_rfl
@[go_sem] theorem ze77 : zeroV Tryz.prog 77 = some (.t .nilf) := by kernel_rfl
@[go_sem] theorem kd78 : kdOf Tryz.prog 78 = .fn := by kernel_rfl
@[go_sem] theorem ty78 : tyOf Tryz.prog 78 = some (false, 1) := by kernel_rfl
@[go_sem] theorem in78 : infoOf Tryz.prog 78 = some (1, 8) := by kernel_rfl
@[go_sem] theorem ze78 : zeroV Tryz.prog 78 = some (.t .nilf) := by kernel_rfl
@[go_sem] theorem kd79 : kdOf Tryz.prog 79 = .fn := by kernel_rfl
@[go_sem] theorem ty79 : tyOf Tryz.prog 79 = some (false, 1) := by kernel_rfl
@[go_sem] theorem in79 : infoOf Tryz.prog 79 = some (1, 8) := by kernel_rfl
@[go_sem] theorem ze79 : zeroV Tryz.prog 79 = some (.t .nilf) := by kernel_rfl
@[go_sem] theorem kd80 : kdOf Tryz.prog 80 = .fn := by kernel_rfl
@[go_sem] theorem ty80 : tyOf Tryz.prog 80 = some (false, 1) := by kernel_rfl
@[go_sem] theorem in80 : infoOf Tryz.prog 80 = some (1, 8) := by kernel_rfl
@[go_sem] theorem ze80 : zeroV Tryz.prog 80 = some (.t .nilf) := by kernel_rfl
@[go_sem] theorem kd81 : kdOf Tryz.prog 81 = (.sl 86) := by kernel_rfl
@[go_sem] theorem ty81 : tyOf Tryz.prog 81 = some (false, 1) := by kernel_rfl
@[go_sem] theorem in81 : infoOf Tryz.prog 81 = some (1, 24) := by kernel_rfl
@[go_sem] theorem ze81 : zeroV Tryz.prog 81 = some (.ex []) := by kernel_rfl
@[go_sem] theorem kd82 : kdOf Tryz.prog 82 = .fn := by kernel_rfl
@[go_sem] theorem ty82 : tyOf Tryz.prog 82 = some (false, 1) := by kernel_rfl
@[go_sem] theorem in82 : infoOf Tryz.prog 82 = some (1, 8) := by kernel_rfl
@[go_sem] theorem ze82 : zeroV Tryz.prog 82 = some (.t .nilf) := by kernel_rfl
@[go_sem] theorem kd83 : kdOf Tryz.prog 83 = .fn := by kernel_rfl
@[go_sem] theorem ty83 : tyOf Tryz.prog 83 = some (false, 1) := by kernel_rfl
@[go_sem] theorem in83 : infoOf Tryz.prog 83 = some (1, 8) := by kernel_rfl
@[go_sem] theorem ze83 : zeroV Tryz.prog 83 = some (.t .nilf) := by kernel_rfl
@[go_sem] theorem kd84 : kdOf Tryz.prog 84 = .fn := by kernel_rfl
@[go_sem] theorem ty84 : tyOf Tryz.prog 84 = some (false, 1) := by kernel_rfl
@[go_sem] theorem in84 : infoOf Tryz.prog 84 = some (1, 8) := by kernel_rfl
@[go_sem] theorem ze84 : zeroV Tryz.prog 84 = some (.t .nilf) := by kernel_rfl
@[go_sem] theorem kd85 : kdOf Tryz.prog 85 = .fn := by kernel_rfl
@[go_sem] theorem ty85 : tyOf Tryz.prog 85 = some (false, 1) := by kernel_rfl
@[go_sem] theorem in85 : infoOf Tryz.prog 85 = some (1, 8) := by kernel_rfl
@[go_sem] theorem ze85 : zeroV Tryz.prog 85 = some (.t .nilf) := by kernel_rfl
@[go_sem] theorem kd86 : kdOf Tryz.prog 86 = (.arr 2 3) := by kernel_rfl
@[go_sem] theorem ty86 : tyOf Tryz.prog 86 = some (true, 2) := by kernel_rfl
@[go_sem] theorem in86 : infoOf Tryz.prog 86 = some (2, 16) := by kernel_rfl
@[go_sem] theorem ze86 : zeroV Tryz.prog 86 = some (.t (.agg [(.int .i64 0), (.int .i64 0)])) := by kernel_rfl
@[go_sem] theorem kd87 : kdOf Tryz.prog 87 = (.arr 3 34) := by kernel_rfl
@[go_sem] theorem ty87 : tyOf Tryz.prog 87 = some (true, 3) := by kernel_rfl
@[go_sem] theorem in87 : infoOf Tryz.prog 87 = some (3, 24) := by kernel_rfl
@[go_sem] theorem ze87 : zeroV Tryz.prog 87 = some (.t (.agg [.nilf, .nilf, .nilf])) := by kernel_rfl
@[go_sem] theorem kd88 : kdOf Tryz.prog 88 = .fn := by kernel_rfl
@[go_sem] theorem ty88 : tyOf Tryz.prog 88 = some (false, 1) := by kernel_rfl
@[go_sem] theorem in88 : infoOf Tryz.prog 88 = some (1, 8) := by kernel_rfl
@[go_sem] theorem ze88 : zeroV Tryz.prog 88 = some (.t .nilf) := by kernel_rfl
@[go_sem] theorem kd89 : kdOf Tryz.prog 89 = .fn := by kernel_rfl
@[go_sem] theorem ty89 : tyOf Tryz.prog 89 = some (false, 1) := by kernel_rfl
@[go_sem] theorem in89 : infoOf Tryz.prog 89 = some (1, 8) := by kernel_rfl
@[go_sem] theorem ze89 : zeroV Tryz.prog 89 = some (.t .nilf) := by kernel_rfl
@[go_sem] theorem kd90 : kdOf Tryz.prog 90 = (.sl 152) := by kernel_rfl
@[go_sem] theorem ty90 : tyOf Tryz.prog 90 = some (false, 1) := by kernel_rfl
@[go_sem] theorem in90 : infoOf Tryz.prog 90 = some (1, 24) := by kernel_rfl
@[go_sem] theorem ze90 : zeroV Tryz.prog 90 = some (.ex []) := by kernel_rfl
@[go_sem] theorem kd91 : kdOf Tryz.prog 91 = .other := by kernel_rfl
@[go_sem] theorem ty91 : tyOf Tryz.prog 91 = some (false, 1) := by kernel_rfl
@[go_sem] theorem in91 : infoOf Tryz.prog 91 = some (1, 0) := by kernel_rfl
@[go_sem] theorem kd92 : kdOf Tryz.prog 92 = .fn := by kernel_rfl
@[go_sem] theorem ty92 : tyOf Tryz.prog 92 = some (false, 1) := by kernel_rfl
@[go_sem] theorem in92 : infoOf Tryz.prog 92 = some (1, 8) := by kernel_rfl
@[go_sem] theorem ze92 : zeroV Tryz.prog 92 = some (.t .nilf) := by kernel_rfl
@[go_sem] theorem kd93 : kdOf Tryz.prog 93 = (.sl 94) := by kernel_rfl
@[go_sem] theorem ty93 : tyOf Tryz.prog 93 = some (false, 1) := by kernel_rfl
@[go_sem] theorem in93 : infoOf Tryz.prog 93 = some (1, 24) := by kernel_rfl
@[go_sem] theorem ze93 : zeroV Tryz.prog 93 = some (.ex []) := by kernel_rfl
@[go_sem] theorem kd94 : kdOf Tryz.prog 94 = (.sl 101) := by kernel_rfl
@[go_sem] theorem ty94 : tyOf Tryz.prog 94 = some (false, 1) := by kernel_rfl
@[go_sem] theorem in94 : infoOf Tryz.prog 94 = some (1, 24) := by kernel_rfl
@[go_sem] theorem ze94 : zeroV Tryz.prog 94 = some (.ex []) := by kernel_rfl
@[go_sem] theorem kd95 : kdOf Tryz.prog 95 = .fn := by kernel_rfl
@[go_sem] theorem ty95 : tyOf Tryz.prog 95 = some (false, 1) := by kernel_rfl
@[go_sem] theorem in95 : infoOf Tryz.prog 95 = some (1, 8) := by kernel_rfl
@[go_sem] theorem ze95 : zeroV Tryz.prog 95 = some (.t .nilf) := by kernel_rfl
@[go_sem] theorem kd96 : kdOf Tryz.prog 96 = (.arr 4 2) := by kernel_rfl
@[go_sem] theorem ty96 : tyOf Tryz.prog 96 = some (true, 4) := by kernel_rfl
@[go_sem] theorem in96 : infoOf Tryz.prog 96 = some (4, 32) := by kernel_rfl
@[go_sem] theorem ze96 : zeroV Tryz.prog 96 = some (.t (.agg [(.int .i64 0), (.int .i64 0), (.int .i64 0), (.int .i64 0)])) := by kernel_rfl
@[go_sem] theorem kd97 : kdOf Tryz.prog 97 = (.arr 4 60) := by kernel_rfl
@[go_sem] theorem ty97 : tyOf Tryz.prog 97 = some (true, 4) := by kernel_rfl
@[go_sem] theorem in97 : infoOf Tryz.prog 97 = some (4, 16) := by kernel_rfl
@[go_sem] theorem ze97 : zeroV Tryz.prog 97 = some (.t (.agg [(.int .u32 0), (.int .u32 0), (.int .u32 0), (.int .u32 0)])) := by kernel_rfl
@[go_sem] theorem kd98 : kdOf Tryz.prog 98 = .struct := by kernel_rfl
@[go_sem] theorem ty98 : tyOf Tryz.prog 98 = some (true, 8) := by kernel_rfl
@[go_sem] theorem in98 : infoOf Tryz.prog 98 = some (8, 48) := by kernel_rfl
@[go_sem] theorem ze98 : zeroV Tryz.prog 98 = some (.t (.agg [(.int .i64 0), (.int .i64 0), (.int .i64 0), (.int .i64 0), (.int .u32 0), (.int .u32 0), (.int .u32 0), (.int .u32 0)])) := by kernel_rfl
@[go_sem] theorem fs98 : fldsOf Tryz.prog 98 = some [(0, 4), (4, 4)] := by kernel_rfl
@[go_sem] theorem fl98x0 : fldOf Tryz.prog 98 0 = some (0, 4) := by kernel_rfl
@[go_sem] theorem fl98x1 : fldOf Tryz.prog 98 1 = some (4, 4) := by kernel_rfl
@[go_sem] theorem kd99 : kdOf Tryz.prog 99 = .struct := by kernel_rfl
@[go_sem] theorem ty99 : tyOf Tryz.prog 99 = some (true, 8) := by kernel_rfl
@[go_sem] theorem in99 : infoOf Tryz.prog 99 = some (8, 48) := by kernel_rfl
@[go_sem] theorem ze99 : zeroV Tryz.prog 99 = some (.t (.agg [(.int .i64 0), (.int .i64 0), (.int .i64 0), (.int .i64 0), (.int .u32 0), (.int .u32 0), (.int .u32 0), (.int .u32 0)])) := by kernel_rfl
@[go_sem] theorem fs99 : fldsOf Tryz.prog 99 = some [(0, 4), (4, 4)] := by kernel_rfl
@[go_sem] theorem fl99x0 : fldOf Tryz.prog 99 0 = some (0, 4) := by kernel_rfl
@[go_sem] theorem fl99x1 : fldOf Tryz.prog 99 1 = some (4, 4) := by kernel_rfl
@[go_sem] theorem kd100 : kdOf Tryz.prog 100 = .struct := by kernel_rfl
@[go_sem] theorem ty100 : tyOf Tryz.prog 100 = some (true, 16) := by kernel_rfl
@[go_sem] theorem in100 : infoOf Tryz.prog 100 = some (16, 192) := by kernel_rfl
@[go_sem] theorem ze100 : zeroV Tryz.prog 100 = some (.agg [.ex [], .ex [], .ex [], .ex [], .ex [], .t (.int .i64 0), .t (.int .i64 0), .t (.int .i64 0), .t (.int .i64 0), .t (.int .u32 0), .t (.int .u32 0), .t (.int .u32 0), .t (.int .u32 0), .t (.int .i64 0), .t (.int .i64 0), .t (.int .i64 0)]) := by kernel_rfl
@[go_sem] theorem fs100 : fldsOf Tryz.prog 100 = some [(0, 1), (1, 1), (2, 1), (3, 1), (4, 1), (5, 8), (13, 1), (14, 1), (15, 1)] := by kernel_rfl
@[go_sem] theorem fl100x0 : fldOf Tryz.prog 100 0 = some (0, 1) := by kernel_rfl
@[go_sem] theorem fl100x1 : fldOf Tryz.prog 100 1 = some (1, 1) := by kernel_rfl
@[go_sem] theorem fl100x2 : fldOf Tryz.prog 100 2 = some (2, 1) := by kernel_rfl
@[go_sem] theorem fl100x3 : fldOf Tryz.prog 100 3 = some (3, 1) := by kernel_rfl
@[go_sem] theorem fl100x4 : fldOf Tryz.prog 100 4 = some (4, 1) := by kernel_rfl
@[go_sem] theorem fl100x5 : fldOf Tryz.prog 100 5 = some (5, 8) := by kernel_rfl
@[go_sem] theorem fl100x6 : fldOf Tryz.prog 100 6 = some (13, 1) := by kernel_rfl
@[go_sem] theorem fl100x7 : fldOf Tryz.prog 100 7 = some (14, 1) := by kernel_rfl
@[go_sem] theorem fl100x8 : fldOf Tryz.prog 100 8 = some (15, 1) := by kernel_rfl
@[go_sem] theorem kd101 : kdOf Tryz.prog 101 = .struct := by kernel_rfl
@[go_sem] theorem ty101 : tyOf Tryz.prog 101 = some (true, 16) := by kernel_rfl
@[go_sem] theorem in101 : infoOf Tryz.prog 101 = some (16, 192) := by kernel_rfl
@[go_sem] theorem ze101 : zeroV Tryz.prog 101 = some (.agg [.ex [], .ex [], .ex [], .ex [], .ex [], .t (.int .i64 0), .t (.int .i64 0), .t (.int .i64 0), .t (.int .i64 0), .t (.int .u32 0), .t (.int .u32 0), .t (.int .u32 0), .t (.int .u32 0), .t (.int .i64 0), .t (.int .i64 0), .t (.int .i64 0)]) := by kernel_rfl
@[go_sem] theorem fs101 : fldsOf Tryz.prog 101 = some [(0, 1), (1, 1), (2, 1), (3, 1), (4, 1), (5, 8), (13, 1), (14, 1), (15, 1)] := by kernel_rfl
@[go_sem] theorem fl101x0 : fldOf Tryz.prog 101 0 = some (0, 1) := by kernel_rfl
@[go_sem] theorem fl101x1 : fldOf Tryz.prog 101 1 = some (1, 1) := by kernel_rfl
@[go_sem] theorem fl101x2 : fldOf Tryz.prog 101 2 = some (2, 1) := by kernel_rfl
@[go_sem] theorem fl101x3 : fldOf Tryz.prog 101 3 = some (3, 1) := by kernel_rfl
@[go_sem] theorem fl101x4 : fldOf Tryz.prog 101 4 = some (4, 1) := by kernel_rfl
@[go_sem] theorem fl101x5 : fldOf Tryz.prog 101 5 = some (5, 8) := by kernel_rfl
@[go_sem] theorem fl101x6 : fldOf Tryz.prog 101 6 = some (13, 1) := by kernel_rfl
@[go_sem] theorem fl101x7 : fldOf Tryz.prog 101 7 = some (14, 1) := by kernel_rfl
@[go_sem] theorem fl101x8 : fldOf Tryz.prog 101 8 = some (15, 1) := by kernel_rfl
@[go_sem] theorem kd102 : kdOf Tryz.prog 102 = .other := by kernel_rfl
@[go_sem] theorem ty102 : tyOf Tryz.prog 102 = some (false, 1) := by kernel_rfl
@[go_sem] theorem in102 : infoOf Tryz.prog 102 = some (1, 0) := by kernel_rfl
@[go_sem] theorem kd103 : kdOf Tryz.prog 103 = .fn := by kernel_rfl
@[go_sem] theorem ty103 : tyOf Tryz.prog 103 = some (false, 1) := by kernel_rfl
@[go_sem] theorem in103 : infoOf Tryz.prog 103 = some (1, 8) := by kernel_rfl
@[go_sem] theorem ze103 : zeroV Tryz.prog 103 = some (.t .nilf) := by kernel_rfl
@[go_sem] theorem kd104 : kdOf Tryz.prog 104 = .fn := by kernel_rfl
@[go_sem] theorem ty104 : tyOf Tryz.prog 104 = some (false, 1) := by kernel_rfl
@[go_sem] theorem in104 : infoOf Tryz.prog 104 = some (1, 8) := by kernel_rfl
@[go_sem] theorem ze104 : zeroV Tryz.prog 104 = some (.t .nilf) := by kernel_rfl
@[go_sem] theorem kd105 : kdOf Tryz.prog 105 = .fn := by kernel_rfl
@[go_sem] theorem ty105 : tyOf Tryz.prog 105 = some (false, 1) := by kernel_rfl
@[go_sem] theorem in105 : infoOf Tryz.prog 105 = some (1, 8) := by kernel_rfl
@[go_sem] theorem ze105 : zeroV Tryz.prog 105 = some (.t .nilf) := by kernel_rfl
@[go_sem] theorem kd106 : kdOf Tryz.prog 106 = .fn := by kernel_rfl
@[go_sem] theorem ty106 : tyOf Tryz.prog 106 = some (false, 1) := by kernel_rfl
@[go_sem] theorem in106 : infoOf Tryz.prog 106 = some (1, 8) := by kernel_rfl
@[go_sem] theorem ze106 : zeroV Tryz.prog 106 = some (.t .nilf) := by kernel_rfl
@[go_sem] theorem kd107 : kdOf Tryz.prog 107 = .fn := by kernel_rfl
@[go_sem] theorem ty107 : tyOf Tryz.prog 107 = some (false, 1) := by kernel_rfl
@[go_sem] theorem in107 : infoOf Tryz.prog 107 = some (1, 8) := by kernel_rfl
@[go_sem] theorem ze107 : zeroV Tryz.prog 107 = some (.t .nilf) := by kernel_rfl
@[go_sem] theorem kd108 : kdOf Tryz.prog 108 = .fn := by kernel_rfl
@[go_sem] theorem ty108 : tyOf Tryz.prog 108 = some (false, 1) := by kernel_rfl
@[go_sem] theorem in108 : infoOf Tryz.prog 108 = some (1, 8) := by kernel_rfl
@[go_sem] theorem ze108 : zeroV Tryz.prog 108 = some (.t .nilf) := by kernel_rfl
@[go_sem] theorem kd109 : kdOf Tryz.prog 109 = .fn := by kernel_rfl
@[go_sem] theorem ty109 : tyOf Tryz.prog 109 = some (false, 1) := by kernel_rfl
@[go_sem] theorem in109 : infoOf Tryz.prog 109 = some (1, 8) := by kernel_rfl
@[go_sem] theorem ze109 : zeroV Tryz.prog 109 = some (.t .nilf) := by kernel_rfl
@[go_sem] theorem kd110 : kdOf Tryz.prog 110 = .fn := by kernel_rfl
@[go_sem] theorem ty110 : tyOf Tryz.prog 110 = some (false, 1) := by kernel_rfl
@[go_sem] theorem in110 : infoOf Tryz.prog 110 = some (1, 8) := by kernel_rfl
@[go_sem] theorem ze110 : zeroV Tryz.prog 110 = some (.t .nilf) := by kernel_rfl
@[go_sem] theorem kd111 : kdOf Tryz.prog 111 = .fn := by kernel_rfl
@[go_sem] theorem ty111 : tyOf Tryz.prog 111 = some (false, 1) := by kernel_rfl
@[go_sem] theorem in111 : infoOf Tryz.prog 111 = some (1, 8) := by kernel_rfl
@[go_sem] theorem ze111 : zeroV Tryz.prog 111 = some (.t .nilf) := by kernel_rfl
@[go_sem] theorem kd112 : kdOf Tryz.prog 112 = .fn := by kernel_rfl
@[go_sem] theorem ty112 : tyOf Tryz.prog 112 = some (false, 1) := by kernel_rfl
@[go_sem] theorem in112 : infoOf Tryz.prog 112 = some (1, 8) := by kernel_rfl
@[go_sem] theorem ze112 : zeroV Tryz.prog 112 = some (.t .nilf) := by kernel_rfl
@[go_sem] theorem kd113 : kdOf Tryz.prog 113 = .fn := by kernel_rfl
@[go_sem] theorem ty113 : tyOf Tryz.prog 113 = some (false, 1) := by kernel_rfl
@[go_sem] theorem in113 : infoOf Tryz.prog 113 = some (1, 8) := by kernel_rfl
@[go_sem] theorem ze113 : zeroV Tryz.prog 113 = some (.t .nilf) := by kernel_rfl
@[go_sem] theorem kd114 : kdOf Tryz.prog 114 = .fn := by kernel_rfl
@[go_sem] theorem ty114 : tyOf Tryz.prog 114 = some (false, 1) := by kernel_rfl
@[go_sem] theorem in114 : infoOf Tryz.prog 114 = some (1, 8) := by kernel_rfl
@[go_sem] theorem ze114 : zeroV Tryz.prog 114 = some (.t .nilf) := by kernel_rfl
@[go_sem] theorem kd115 : kdOf Tryz.prog 115 = .fn := by kernel_rfl
@[go_sem] theorem ty115 : tyOf Tryz.prog 115 = some (false, 1) := by kernel_rfl
@[go_sem] theorem in115 : infoOf Tryz.prog 115 = some (1, 8) := by kernel_rfl
@[go_sem] theorem ze115 : zeroV Tryz.prog 115 = some (.t .nilf) := by kernel_rfl
@[go_sem] theorem kd116 : kdOf Tryz.prog 116 = .fn := by kernel_rfl
@[go_sem] theorem ty116 : tyOf Tryz.prog 116 = some (false, 1) := by kernel_rfl
@[go_sem] theorem in116 : infoOf Tryz.prog 116 = some (1, 8) := by kernel_rfl
@[go_sem] theorem ze116 : zeroV Tryz.prog 116 = some (.t .nilf) := by kernel_rfl
@[go_sem] theorem kd117 : kdOf Tryz.prog 117 = .fn := by kernel_rfl
@[go_sem] theorem ty117 : tyOf Tryz.prog 117 = some (false, 1) := by kernel_rfl
@[go_sem] theorem in117 : infoOf Tryz.prog 117 = some (1, 8) := by kernel_rfl
@[go_sem] theorem ze117 : zeroV Tryz.prog 117 = some (.t .nilf) := by kernel_rfl
@[go_sem] theorem kd118 : kdOf Tryz.prog 118 = .fn := by kernel_rfl
@[go_sem] theorem ty118 : tyOf Tryz.prog 118 = some (false, 1) := by kernel_rfl
@[go_sem] theorem in118 : infoOf Tryz.prog 118 = some (1, 8) := by kernel_rfl
@[go_sem] theorem ze118 : zeroV Tryz.prog 118 = some (.t .nilf) := by kernel_rfl
@[go_sem] theorem kd119 : kdOf Tryz.prog 119 = .fn := by kernel_rfl
@[go_sem] theorem ty119 : tyOf Tryz.prog 119 = some (false, 1) := by kernel_rfl
@[go_sem] theorem in119 : infoOf Tryz.prog 119 = some (1, 8) := by kernel_rfl
@[go_sem] theorem ze119 : zeroV Tryz.prog 119 = some (.t .nilf) := by kernel_rfl
@[go_sem] theorem kd120 : kdOf Tryz.prog 120 = .fn := by kernel_rfl
@[go_sem] theorem ty120 : tyOf Tryz.prog 120 = some (false, 1) := by kernel_rfl
@[go_sem] theorem in120 : infoOf Tryz.prog 120 = some (1, 8) := by kernel_rfl
@[go_sem] theorem ze120 : zeroV Tryz.prog 120 = some (.t .nilf) := by kernel_rfl
@[go_sem] theorem kd121 : kdOf Tryz.prog 121 = .fn := by kernel_rfl
@[go_sem] theorem ty121 : tyOf Tryz.prog 121 = some (false, 1) := by kernel_rfl
@[go_sem] theorem in121 : infoOf Tryz.prog 121 = some (1, 8) := by kernel_rfl
@[go_sem] theorem ze121 : zeroV Tryz.prog 121 = some (.t .nilf) := by kernel_rfl
@[go_sem] theorem kd122 : kdOf Tryz.prog 122 = .fn := by kernel_rfl
@[go_sem] theorem ty122 : tyOf Tryz.prog 122 = some (false, 1) := by kernel_rfl
@[go_sem] theorem in122 : infoOf Tryz.prog 122 = some (1, 8) := by kernel_rfl
@[go_sem] theorem ze122 : zeroV Tryz.prog 122 = some (.t .nilf) := by kernel_rfl
@[go_sem] theorem kd123 : kdOf Tryz.prog 123 = .fn := by kernel_rfl
@[go_sem] theorem ty123 : tyOf Tryz.prog 123 = some (false, 1) := by kernel_rfl
@[go_sem] theorem in123 : infoOf Tryz.prog 123 = some (1, 8) := by kernel_rfl
@[go_sem] theorem ze123 : zeroV Tryz.prog 123 = some (.t .nilf) := by kernel_rfl
@[go_sem] theorem kd124 : kdOf Tryz.prog 124 = .fn := by kernel_rfl
@[go_sem] theorem ty124 : tyOf Tryz.prog 124 = some (false, 1) := by kernel_rfl
@[go_sem] theorem in124 : infoOf Tryz.prog 124 = some (1, 8) := by kernel_rfl
@[go_sem] theorem ze124 : zeroV Tryz.prog 124 = some (.t .nilf) := by kernel_rfl
@[go_sem] theorem kd125 : kdOf Tryz.prog 125 = .other := by kernel_rfl
@[go_sem] theorem ty125 : tyOf Tryz.prog 125 = some (false, 1) := by kernel_rfl
@[go_sem] theorem in125 : infoOf Tryz.prog 125 = some (1, 0) := by kernel_rfl
@[go_sem] theorem kd126 : kdOf Tryz.prog 126 = .fn := by kernel_rfl
@[go_sem] theorem ty126 : tyOf Tryz.prog 126 = some (false, 1) := by kernel_rfl
@[go_sem] theorem in126 : infoOf Tryz.prog 126 = some (1, 8) := by kernel_rfl
@[go_sem] theorem ze126 : zeroV Tryz.prog 126 = some (.t .nilf) := by kernel_rfl
@[go_sem] theorem kd127 : kdOf Tryz.prog 127 = .other := by kernel_rfl
@[go_sem] theorem ty127 : tyOf Tryz.prog 127 = some (false, 1) := by kernel_rfl
@[go_sem] theorem in127 : infoOf Tryz.prog 127 = some (1, 0) := by kernel_rfl
@[go_sem] theorem kd128 : kdOf Tryz.prog 128 = .fn := by kernel_rfl
@[go_sem] theorem ty128 : tyOf Tryz.prog 128 = some (false, 1) := by kernel_rfl
@[go_sem] theorem in128 : infoOf Tryz.prog 128 = some (1, 8) := by kernel_rfl
@[go_sem] theorem ze128 : zeroV Tryz.prog 128 = some (.t .nilf) := by kernel_rfl
@[go_sem] theorem kd129 : kdOf Tryz.prog 129 = .fn := by kernel_rfl
@[go_sem] theorem ty129 : tyOf Tryz.prog 129 = some (false, 1) := by kernel_rfl
@[go_sem] theorem in129 : infoOf Tryz.prog 129 = some (1, 8) := by kernel_rfl
@[go_sem] theorem ze129 : zeroV Tryz.prog 129 = some (.t .nilf) := by kernel_rfl
@[go_sem] theorem kd130 : kdOf Tryz.prog 130 = .fn := by kernel_rfl
@[go_sem] theorem ty130 : tyOf Tryz.prog 130 = some (false, 1) := by kernel_rfl
@[go_sem] theorem in130 : infoOf Tryz.prog 130 = some (1, 8) := by kernel_rfl
@[go_sem] theorem ze130 : zeroV Tryz.prog 130 = some (.t .nilf) := by kernel_rfl
@[go_sem] theorem kd131 : kdOf Tryz.prog 131 = .fn := by kernel_rfl
@[go_sem] theorem ty131 : tyOf Tryz.prog 131 = some (false, 1) := by kernel_rfl
@[go_sem] theorem in131 : infoOf Tryz.prog 131 = some (1, 8) := by kernel_rfl
@[go_sem] theorem ze131 : zeroV Tryz.prog 131 = some (.t .nilf) := by kernel_rfl
@[go_sem] theorem kd132 : kdOf Tryz.prog 132 = .fn := by kernel_rfl
@[go_sem] theorem ty132 : tyOf Tryz.prog 132 = some (false, 1) := by kernel_rfl
@[go_sem] theorem in132 : infoOf Tryz.prog 132 = some (1, 8) := by kernel_rfl
@[go_sem] theorem ze132 : zeroV Tryz.prog 132 = some (.t .nilf) := by kernel_rfl
@[go_sem] theorem kd133 : kdOf Tryz.prog 133 = (.sl 4) := by kernel_rfl
@[go_sem] theorem ty133 : tyOf Tryz.prog 133 = some (false, 1) := by kernel_rfl
@[go_sem] theorem in133 : infoOf Tryz.prog 133 = some (1, 24) := by kernel_rfl
@[go_sem] theorem ze133 : zeroV Tryz.prog 133 = some (.ex []) := by kernel_rfl
@[go_sem] theorem kd134 : kdOf Tryz.prog 134 = .fn := by kernel_rfl
@[go_sem] theorem ty134 : tyOf Tryz.prog 134 = some (false, 1) := by kernel_rfl
@[go_sem] theorem in134 : infoOf Tryz.prog 134 = some (1, 8) := by kernel_rfl
@[go_sem] theorem ze134 : zeroV Tryz.prog 134 = some (.t .nilf) := by kernel_rfl
@[go_sem] theorem kd135 : kdOf Tryz.prog 135 = .fn := by kernel_rfl
@[go_sem] theorem ty135 : tyOf Tryz.prog 135 = some (false, 1) := by kernel_rfl
@[go_sem] theorem in135 : infoOf Tryz.prog 135 = some (1, 8) := by kernel_rfl
@[go_sem] theorem ze135 : zeroV Tryz.prog 135 = some (.t .nilf) := by kernel_rfl
@[go_sem] theorem kd136 : kdOf Tryz.prog 136 = .fn := by kernel_rfl
@[go_sem] theorem ty136 : tyOf Tryz.prog 136 = some (false, 1) := by kernel_rfl
@[go_sem] theorem in136 : infoOf Tryz.prog 136 = some (1, 8) := by kernel_rfl
@[go_sem] theorem ze136 : zeroV Tryz.prog 136 = some (.t .nilf) := by kernel_rfl
@[go_sem] theorem kd137 : kdOf Tryz.prog 137 = .fn := by kernel_rfl
@[go_sem] theorem ty137 : tyOf Tryz.prog 137 = some (false, 1) := by kernel_rfl
@[go_sem] theorem in137 : infoOf Tryz.prog 137 = some (1, 8) := by kernel_rfl
@[go_sem] theorem ze137 : zeroV Tryz.prog 137 = some (.t .nilf) := by kernel_rfl
@[go_sem] theorem kd138 : kdOf Tryz.prog 138 = .fn := by kernel_rfl
@[go_sem] theorem ty138 : tyOf Tryz.prog 138 = some (false, 1) := by kernel_rfl
@[go_sem] theorem in138 : infoOf Tryz.prog 138 = some (1, 8) := by kernel_rfl
@[go_sem] theorem ze138 : zeroV Tryz.prog 138 = some (.t .nilf) := by kernel_rfl
@[go_sem] theorem kd139 : kdOf Tryz.prog 139 = .fn := by kernel_rfl
@[go_sem] theorem ty139 : tyOf Tryz.prog 139 = some (false, 1) := by kernel_rfl
@[go_sem] theorem in139 : infoOf Tryz.prog 139 = some (1, 8) := by kernel_rfl
@[go_sem] theorem ze139 : zeroV Tryz.prog 139 = some (.t .nilf) := by kernel_rfl
@[go_sem] theorem kd140 : kdOf Tryz.prog 140 = .fn := by kernel_rfl
@[go_sem] theorem ty140 : tyOf Tryz.prog 140 = some (false, 1) := by kernel_rfl
@[go_sem] theorem in140 : infoOf Tryz.prog 140 = some (1, 8) := by kernel_rfl
@[go_sem] theorem ze140 : zeroV Tryz.prog 140 = some (.t .nilf) := by kernel_rfl
@[go_sem] theorem kd141 : kdOf Tryz.prog 141 = .fn := by kernel_rfl
@[go_sem] theorem ty141 : tyOf Tryz.prog 141 = some (false, 1) := by kernel_rfl
@[go_sem] theorem in141 : infoOf Tryz.prog 141 = some (1, 8) := by kernel_rfl
@[go_sem] theorem ze141 : zeroV Tryz.prog 141 = some (.t .nilf) := by kernel_rfl
@[go_sem] theorem kd142 : kdOf Tryz.prog 142 = .fn := by kernel_rfl
@[go_sem] theorem ty142 : tyOf Tryz.prog 142 = some (false, 1) := by kernel_rfl
@[go_sem] theorem in142 : infoOf Tryz.prog 142 = some (1, 8) := by kernel_rfl
@[go_sem] theorem ze142 : zeroV Tryz.prog 142 = some (.t .nilf) := by kernel_rfl
@[go_sem] theorem kd143 : kdOf Tryz.prog 143 = .fn := by kernel_rfl
@[go_sem] theorem ty143 : tyOf Tryz.prog 143 = some (false, 1) := by kernel_rfl
@[go_sem] theorem in143 : infoOf Tryz.prog 143 = some (1, 8) := by kernel_rfl
@[go_sem] theorem ze143 : zeroV Tryz.prog 143 = some (.t .nilf) := by kernel_rfl
@[go_sem] theorem kd144 : kdOf Tryz.prog 144 = .fn := by kernel_rfl
@[go_sem] theorem ty144 : tyOf Tryz.prog 144 = some (false, 1) := by kernel_rfl
@[go_sem] theorem in144 : infoOf Tryz.prog 144 = some (1, 8) := by kernel_rfl
@[go_sem] theorem ze144 : zeroV Tryz.prog 144 = some (.t .nilf) := by kernel_rfl
@[go_sem] theorem kd145 : kdOf Tryz.prog 145 = .fn := by kernel_rfl
@[go_sem] theorem ty145 : tyOf Tryz.prog 145 = some (false, 1) := by kernel_rfl
@[go_sem] theorem in145 : infoOf Tryz.prog 145 = some (1, 8) := by kernel_rfl
@[go_sem] theorem ze145 : zeroV Tryz.prog 145 = some (.t .nilf) := by kernel_rfl
@[go_sem] theorem kd146 : kdOf Tryz.prog 146 = .fn := by kernel_rfl
@[go_sem] theorem ty146 : tyOf Tryz.prog 146 = some (false, 1) := by kernel_rfl
@[go_sem] theorem in146 : infoOf Tryz.prog 146 = some (1, 8) := by kernel_rfl
@[go_sem] theorem ze146 : zeroV Tryz.prog 146 = some (.t .nilf) := by kernel_rfl
@[go_sem] theorem kd147 : kdOf Tryz.prog 147 = (.int .u64) := by kernel_rfl
@[go_sem] theorem ty147 : tyOf Tryz.prog 147 = some (false, 1) := by kernel_rfl
@[go_sem] theorem in147 : infoOf Tryz.prog 147 = some (1, 8) := by kernel_rfl
@[go_sem] theorem ze147 : zeroV Tryz.prog 147 = some (.t (.int .u64 0)) := by kernel_rfl
@[go_sem] theorem kd148 : kdOf Tryz.prog 148 = .fn := by kernel_rfl
@[go_sem] theorem ty148 : tyOf Tryz.prog 148 = some (false, 1) := by kernel_rfl
@[go_sem] theorem in148 : infoOf Tryz.prog 148 = some (1, 8) := by kernel_rfl
@[go_sem] theorem ze148 : zeroV Tryz.prog 148 = some (.t .nilf) := by kernel_rfl
@[go_sem] theorem kd149 : kdOf Tryz.prog 149 = .fn := by kernel_rfl
@[go_sem] theorem ty149 : tyOf Tryz.prog 149 = some (false, 1) := by kernel_rfl
@[go_sem] theorem in149 : infoOf Tryz.prog 149 = some (1, 8) := by kernel_rfl
@[go_sem] theorem ze149 : zeroV Tryz.prog 149 = some (.t .nilf) := by kernel_rfl
@[go_sem] theorem kd150 : kdOf Tryz.prog 150 = .fn := by kernel_rfl
@[go_sem] theorem ty150 : tyOf Tryz.prog 150 = some (false, 1) := by kernel_rfl
@[go_sem] theorem in150 : infoOf Tryz.prog 150 = some (1, 8) := by kernel_rfl
@[go_sem] theorem ze150 : zeroV Tryz.prog 150 = some (.t .nilf) := by kernel_rfl
@[go_sem] theorem kd151 : kdOf Tryz.prog 151 = .struct := by kernel_rfl
@[go_sem] theorem ty151 : tyOf Tryz.prog 151 = some (true, 6) := by kernel_rfl
@[go_sem] theorem in151 : infoOf Tryz.prog 151 = some (6, 48) := by kernel_rfl
@[go_sem] theorem ze151 : zeroV Tryz.prog 151 = some (.t (.agg [(.int .i64 0), (.int .i64 0), (.int .i64 0), (.int .i64 0), (.int .i64 0), (.int .i64 0)])) := by kernel_rfl
@[go_sem] theorem fs151 : fldsOf Tryz.prog 151 = some [(0, 1), (1, 1), (2, 1), (3, 1), (4, 1), (5, 1)] := by kernel_rfl
@[go_sem] theorem fl151x0 : fldOf Tryz.prog 151 0 = some (0, 1) := by kernel_rfl
@[go_sem] theorem fl151x1 : fldOf Tryz.prog 151 1 = some (1, 1) := by kernel_rfl
@[go_sem] theorem fl151x2 : fldOf Tryz.prog 151 2 = some (2, 1) := by kernel_rfl
@[go_sem] theorem fl151x3 : fldOf Tryz.prog 151 3 = some (3, 1) := by kernel_rfl
@[go_sem] theorem fl151x4 : fldOf Tryz.prog 151 4 = some (4, 1) := by kernel_rfl
@[go_sem] theorem fl151x5 : fldOf Tryz.prog 151 5 = some (5, 1) := by kernel_rfl
@[go_sem] theorem kd152 : kdOf Tryz.prog 152 = .struct := by kernel_rfl
@[go_sem] theorem ty152 : tyOf Tryz.prog 152 = some (true, 6) := by kernel_rfl
@[go_sem] theorem in152 : infoOf Tryz.prog 152 = some (6, 48) := by kernel_rfl
@[go_sem] theorem ze152 : zeroV Tryz.prog 152 = some (.t (.agg [(.int .i64 0), (.int .i64 0), (.int .i64 0), (.int .i64 0), (.int .i64 0), (.int .i64 0)])) := by kernel_rfl
@[go_sem] theorem fs152 : fldsOf Tryz.prog 152 = some [(0, 1), (1, 1), (2, 1), (3, 1), (4, 1), (5, 1)] := by kernel_rfl
@[go_sem] theorem fl152x0 : fldOf Tryz.prog 152 0 = some (0, 1) := by kernel_rfl
@[go_sem] theorem fl152x1 : fldOf Tryz.prog 152 1 = some (1, 1) := by kernel_rfl
@[go_sem] theorem fl152x2 : fldOf Tryz.prog 152 2 = some (2, 1) := by kernel_rfl
@[go_sem] theorem fl152x3 : fldOf Tryz.prog 152 3 = some (3, 1) := by kernel_rfl
@[go_sem] theorem fl152x4 : fldOf Tryz.prog 152 4 = some (4, 1) := by kernel_rfl
@[go_sem] theorem fl152x5 : fldOf Tryz.prog 152 5 = some (5, 1) := by kernel_rfl
@[go_sem] theorem kd153 : kdOf Tryz.prog 153 = .fn := by kernel_rfl
@[go_sem] theorem ty153 : tyOf Tryz.prog 153 = some (false, 1) := by kernel_rfl
@[go_sem] theorem in153 : infoOf Tryz.prog 153 = some (1, 8) := by kernel_rfl
@[go_sem] theorem ze153 : zeroV Tryz.prog 153 = some (.t .nilf) := by kernel_rfl
@[go_sem] theorem kd154 : kdOf Tryz.prog 154 = .fn := by kernel_rfl
@[go_sem] theorem ty154 : tyOf Tryz.prog 154 = some (false, 1) := by kernel_rfl
@[go_sem] theorem in154 : infoOf Tryz.prog 154 = some (1, 8) := by kernel_rfl
@[go_sem] theorem ze154 : zeroV Tryz.prog 154 = some (.t .nilf) := by kernel_rfl
@[go_sem] theorem kd155 : kdOf Tryz.prog 155 = .fn := by kernel_rfl
@[go_sem] theorem ty155 : tyOf Tryz.prog 155 = some (false, 1) := by kernel_rfl
@[go_sem] theorem in155 : infoOf Tryz.prog 155 = some (1, 8) := by kernel_rfl
@[go_sem] theorem ze155 : zeroV Tryz.prog 155 = some (.t .nilf) := by kernel_rfl
@[go_sem] theorem kd156 : kdOf Tryz.prog 156 = .fn := by kernel_rfl
@[go_sem] theorem ty156 : tyOf Tryz.prog 156 = some (false, 1) := by kernel_rfl
@[go_sem] theorem in156 : infoOf Tryz.prog 156 = some (1, 8) := by kernel_rfl
@[go_sem] theorem ze156 : zeroV Tryz.prog 156 = some (.t .nilf) := by kernel_rfl
@[go_sem] theorem kd157 : kdOf Tryz.prog 157 = .fn := by kernel_rfl
@[go_sem] theorem ty157 : tyOf Tryz.prog 157 = some (false, 1) := by kernel_rfl
@[go_sem] theorem in157 : infoOf Tryz.prog 157 = some (1, 8) := by kernel_rfl
@[go_sem] theorem ze157 : zeroV Tryz.prog 157 = some (.t .nilf) := by kernel_rfl
@[go_sem] theorem kd158 : kdOf Tryz.prog 158 = .fn := by kernel_rfl
@[go_sem] theorem ty158 : tyOf Tryz.prog 158 = some (false, 1) := by kernel_rfl
@[go_sem] theorem in158 : infoOf Tryz.prog 158 = some (1, 8) := by kernel_rfl
@[go_sem] theorem ze158 : zeroV Tryz.prog 158 = some (.t .nilf) := by kernel_rfl
@[go_sem] theorem kd159 : kdOf Tryz.prog 159 = .other := by kernel_rfl
@[go_sem] theorem ty159 : tyOf Tryz.prog 159 = some (false, 1) := by kernel_rfl
@[go_sem] theorem in159 : infoOf Tryz.prog 159 = some (1, 8) := by kernel_rfl
@[go_sem] theorem kd160 : kdOf Tryz.prog 160 = .fn := by kernel_rfl
@[go_sem] theorem ty160 : tyOf Tryz.prog 160 = some (false, 1) := by kernel_rfl
@[go_sem] theorem in160 : infoOf Tryz.prog 160 = some (1, 8) := by kernel_rfl
@[go_sem] theorem ze160 : zeroV Tryz.prog 160 = some (.t .nilf) := by kernel_rfl
@[go_sem] theorem kd161 : kdOf Tryz.prog 161 = .fn := by kernel_rfl
@[go_sem] theorem ty161 : tyOf Tryz.prog 161 = some (false, 1) := by kernel_rfl
@[go_sem] theorem in161 : infoOf Tryz.prog 161 = some (1, 8) := by kernel_rfl
@[go_sem] theorem ze161 : zeroV Tryz.prog 161 = some (.t .nilf) := by kernel_rfl
@[go_sem] theorem kd162 : kdOf Tryz.prog 162 = .other := by kernel_rfl
@[go_sem] theorem ty162 : tyOf Tryz.prog 162 = some (false, 1) := by kernel_rfl
@[go_sem] theorem in162 : infoOf Tryz.prog 162 = some (1, 8) := by kernel_rfl
@[go_sem] theorem ze162 : zeroV Tryz.prog 162 = some (.t .nilp) := by kernel_rfl
@[go_sem] theorem kd163 : kdOf Tryz.prog 163 = .struct := by kernel_rfl
@[go_sem] theorem ty163 : tyOf Tryz.prog 163 = some (true, 22) := by kernel_rfl
@[go_sem] theorem in163 : infoOf Tryz.prog 163 = some (22, 272) := by kernel_rfl
@[go_sem] theorem ze163 : zeroV Tryz.prog 163 = some (.agg [.ex [], .ex [], .ex [], .ex [], .ex [], .t (.int .i64 0), .t (.int .i64 0), .t (.int .i64 0), .t (.int .i64 0), .t (.int .u32 0), .t (.int .u32 0), .t (.int .u32 0), .t (.int .u32 0), .t (.int .i64 0), .t (.int .i64 0), .t (.int .i64 0), .t (.int .i64 0), .ex [], .ex [], .t (.int .u32 0), .t (.int .i64 0), .t (.int .i64 0)]) := by kernel_rfl
@[go_sem] theorem fs163 : fldsOf Tryz.prog 163 = some [(0, 16), (16, 1), (17, 1), (18, 1), (19, 1), (20, 1), (21, 1)] := by kernel_rfl
@[go_sem] theorem fl163x0 : fldOf Tryz.prog 163 0 = some (0, 16) := by kernel_rfl
@[go_sem] theorem fl163x1 : fldOf Tryz.prog 163 1 = some (16, 1) := by kernel_rfl
@[go_sem] theorem fl163x2 : fldOf Tryz.prog 163 2 = some (17, 1) := by kernel_rfl
@[go_sem] theorem fl163x3 : fldOf Tryz.prog 163 3 = some (18, 1) := by kernel_rfl
@[go_sem] theorem fl163x4 : fldOf Tryz.prog 163 4 = some (19, 1) := by kernel_rfl
@[go_sem] theorem fl163x5 : fldOf Tryz.prog 163 5 = some (20, 1) := by kernel_rfl
@[go_sem] theorem fl163x6 : fldOf Tryz.prog 163 6 = some (21, 1) := by kernel_rfl
@[go_sem] theorem kd164 : kdOf Tryz.prog 164 = .struct := by kernel_rfl
@[go_sem] theorem ty164 : tyOf Tryz.prog 164 = some (true, 22) := by kernel_rfl
@[go_sem] theorem in164 : infoOf Tryz.prog 164 = some (22, 272) := by kernel_rfl
@[go_sem] theorem ze164 : zeroV Tryz.prog 164 = some (.agg [.ex [], .ex [], .ex [], .ex [], .ex [], .t (.int .i64 0), .t (.int .i64 0), .t (.int .i64 0), .t (.int .i64 0), .t (.int .u32 0), .t (.int .u32 0), .t (.int .u32 0), .t (.int .u32 0), .t (.int .i64 0), .t (.int .i64 0), .t (.int .i64 0), .t (.int .i64 0), .ex [], .ex [], .t (.int .u32 0), .t (.int .i64 0), .t (.int .i64 0)]) := by kernel_rfl
@[go_sem] theorem fs164 : fldsOf Tryz.prog 164 = some [(0, 16), (16, 1), (17, 1), (18, 1), (19, 1), (20, 1), (21, 1)] := by kernel_rfl
@[go_sem] theorem fl164x0 : fldOf Tryz.prog 164 0 = some (0, 16) := by kernel_rfl
@[go_sem] theorem fl164x1 : fldOf Tryz.prog 164 1 = some (16, 1) := by kernel_rfl
@[go_sem] theorem fl164x2 : fldOf Tryz.prog 164 2 = some (17, 1) := by kernel_rfl
@[go_sem] theorem fl164x3 : fldOf Tryz.prog 164 3 = some (18, 1) := by kernel_rfl
@[go_sem] theorem fl164x4 : fldOf Tryz.prog 164 4 = some (19, 1) := by kernel_rfl
@[go_sem] theorem fl164x5 : fldOf Tryz.prog 164 5 = some (20, 1) := by kernel_rfl
@[go_sem] theorem fl164x6 : fldOf Tryz.prog 164 6 = some (21, 1) := by kernel_rfl
@[go_sem] theorem kd165 : kdOf Tryz.prog 165 = .fn := by kernel_rfl
@[go_sem] theorem ty165 : tyOf Tryz.prog 165 = some (false, 1) := by kernel_rfl
@[go_sem] theorem in165 : infoOf Tryz.prog 165 = some (1, 8) := by kernel_rfl
@[go_sem] theorem ze165 : zeroV Tryz.prog 165 = some (.t .nilf) := by kernel_rfl
@[go_sem] theorem kd166 : kdOf Tryz.prog 166 = .fn := by kernel_rfl
@[go_sem] theorem ty166 : tyOf Tryz.prog 166 = some (false, 1) := by kernel_rfl
@[go_sem] theorem in166 : infoOf Tryz.prog 166 = some (1, 8) := by kernel_rfl
@[go_sem] theorem ze166 : zeroV Tryz.prog 166 = some (.t .nilf) := by kernel_rfl
@[go_sem] theorem kd167 : kdOf Tryz.prog 167 = .fn := by kernel_rfl
@[go_sem] theorem ty167 : tyOf Tryz.prog 167 = some (false, 1) := by kernel_rfl
@[go_sem] theorem in167 : infoOf Tryz.prog 167 = some (1, 8) := by kernel_rfl
@[go_sem] theorem ze167 : zeroV Tryz.prog 167 = some (.t .nilf) := by kernel_rfl
@[go_sem] theorem kd168 : kdOf Tryz.prog 168 = .other := by kernel_rfl
@[go_sem] theorem ty168 : tyOf Tryz.prog 168 = some (false, 1) := by kernel_rfl
@[go_sem] theorem in168 : infoOf Tryz.prog 168 = some (1, 8) := by kernel_rfl
@[go_sem] theorem ze168 : zeroV Tryz.prog 168 = some (.t .nilp) := by kernel_rfl
@[go_sem] theorem kd169 : kdOf Tryz.prog 169 = .fn := by kernel_rfl
@[go_sem] theorem ty169 : tyOf Tryz.prog 169 = some (false, 1) := by kernel_rfl
@[go_sem] theorem in169 : infoOf Tryz.prog 169 = some (1, 8) := by kernel_rfl
@[go_sem] theorem ze169 : zeroV Tryz.prog 169 = some (.t .nilf) := by kernel_rfl
@[go_sem] theorem kd170 : kdOf Tryz.prog 170 = .fn := by kernel_rfl
@[go_sem] theorem ty170 : tyOf Tryz.prog 170 = some (false, 1) := by kernel_rfl
@[go_sem] theorem in170 : infoOf Tryz.prog 170 = some (1, 8) := by kernel_rfl
@[go_sem] theorem ze170 : zeroV Tryz.prog 170 = some (.t .nilf) := by kernel_rfl
@[go_sem] theorem kd171 : kdOf Tryz.prog 171 = .fn := by kernel_rfl
@[go_sem] theorem ty171 : tyOf Tryz.prog 171 = some (false, 1) := by kernel_rfl
@[go_sem] theorem in171 : infoOf Tryz.prog 171 = some (1, 8) := by kernel_rfl
@[go_sem] theorem ze171 : zeroV Tryz.prog 171 = some (.t .nilf) := by kernel_rfl
@[go_sem] theorem kd172 : kdOf Tryz.prog 172 = .struct := by kernel_rfl
@[go_sem] theorem ty172 : tyOf Tryz.prog 172 = some (true, 2) := by kernel_rfl
@[go_sem] theorem in172 : infoOf Tryz.prog 172 = some (2, 24) := by kernel_rfl
@[go_sem] theorem ze172 : zeroV Tryz.prog 172 = some (.t (.agg [(.str ByteArray.empty), (.int .i64 0)])) := by kernel_rfl
@[go_sem] theorem fs172 : fldsOf Tryz.prog 172 = some [(0, 1), (1, 1)] := by kernel_rfl
@[go_sem] theorem fl172x0 : fldOf Tryz.prog 172 0 = some (0, 1) := by kernel_rfl
@[go_sem] theorem fl172x1 : fldOf Tryz.prog 172 1 = some (1, 1) := by kernel_rfl
@[go_sem] theorem kd173 : kdOf Tryz.prog 173 = .struct := by kernel_rfl
@[go_sem] theorem ty173 : tyOf Tryz.prog 173 = some (true, 2) := by kernel_rfl
@[go_sem] theorem in173 : infoOf Tryz.prog 173 = some (2, 24) := by kernel_rfl
@[go_sem] theorem ze173 : zeroV Tryz.prog 173 = some (.t (.agg [(.str ByteArray.empty), (.int .i64 0)])) := by kernel_rfl
@[go_sem] theorem fs173 : fldsOf Tryz.prog 173 = some [(0, 1), (1, 1)] := by kernel_rfl
@[go_sem] theorem fl173x0 : fldOf Tryz.prog 173 0 = some (0, 1) := by kernel_rfl
@[go_sem] theorem fl173x1 : fldOf Tryz.prog 173 1 = some (1, 1) := by kernel_rfl
@[go_sem] theorem kd174 : kdOf Tryz.prog 174 = .fn := by kernel_rfl
@[go_sem] theorem ty174 : tyOf Tryz.prog 174 = some (false, 1) := by kernel_rfl
@[go_sem] theorem in174 : infoOf Tryz.prog 174 = some (1, 8) := by kernel_rfl
@[go_sem] theorem ze174 : zeroV Tryz.prog 174 = some (.t .nilf) := by kernel_rfl
@[go_sem] theorem kd175 : kdOf Tryz.prog 175 = .struct := by kernel_rfl
@[go_sem] theorem ty175 : tyOf Tryz.prog 175 = some (true, 4) := by kernel_rfl
@[go_sem] theorem in175 : infoOf Tryz.prog 175 = some (4, 32) := by kernel_rfl
@[go_sem] theorem ze175 : zeroV Tryz.prog 175 = some (.t (.agg [(.int .i64 0), (.int .i64 0), (.int .i64 0), (.int .i64 0)])) := by kernel_rfl
@[go_sem] theorem fs175 : fldsOf Tryz.prog 175 = some [(0, 1), (1, 1), (2, 1), (3, 1)] := by kernel_rfl
@[go_sem] theorem fl175x0 : fldOf Tryz.prog 175 0 = some (0, 1) := by kernel_rfl
@[go_sem] theorem fl175x1 : fldOf Tryz.prog 175 1 = some (1, 1) := by kernel_rfl
@[go_sem] theorem fl175x2 : fldOf Tryz.prog 175 2 = some (2, 1) := by kernel_rfl
@[go_sem] theorem fl175x3 : fldOf Tryz.prog 175 3 = some (3, 1) := by kernel_rfl
@[go_sem] theorem kd176 : kdOf Tryz.prog 176 = (.sl 175) := by kernel_rfl
@[go_sem] theorem ty176 : tyOf Tryz.prog 176 = some (false, 1) := by kernel_rfl
@[go_sem] theorem in176 : infoOf Tryz.prog 176 = some (1, 24) := by kernel_rfl
@[go_sem] theorem ze176 : zeroV Tryz.prog 176 = some (.ex []) := by kernel_rfl
@[go_sem] theorem kd177 : kdOf Tryz.prog 177 = .fn := by kernel_rfl
@[go_sem] theorem ty177 : tyOf Tryz.prog 177 = some (false, 1) := by kernel_rfl
@[go_sem] theorem in177 : infoOf Tryz.prog 177 = some (1, 8) := by kernel_rfl
@[go_sem] theorem ze177 : zeroV Tryz.prog 177 = some (.t .nilf) := by kernel_rfl
@[go_sem] theorem kd178 : kdOf Tryz.prog 178 = .fn := by kernel_rfl
@[go_sem] theorem ty178 : tyOf Tryz.prog 178 = some (false, 1) := by kernel_rfl
@[go_sem] theorem in178 : infoOf Tryz.prog 178 = some (1, 8) := by kernel_rfl
@[go_sem] theorem ze178 : zeroV Tryz.prog 178 = some (.t .nilf) := by kernel_rfl
@[go_sem] theorem kd179 : kdOf Tryz.prog 179 = .fn := by kernel_rfl
@[go_sem] theorem ty179 : tyOf Tryz.prog 179 = some (false, 1) := by kernel_rfl
@[go_sem] theorem in179 : infoOf Tryz.prog 179 = some (1, 8) := by kernel_rfl
@[go_sem] theorem ze179 : zeroV Tryz.prog 179 = some (.t .nilf) := by kernel_rfl
@[go_sem] theorem kd180 : kdOf Tryz.prog 180 = .fn := by kernel_rfl
@[go_sem] theorem ty180 : tyOf Tryz.prog 180 = some (false, 1) := by kernel_rfl
@[go_sem] theorem in180 : infoOf Tryz.prog 180 = some (1, 8) := by kernel_rfl
@[go_sem] theorem ze180 : zeroV Tryz.prog 180 = some (.t .nilf) := by kernel_rfl
@[go_sem] theorem kd181 : kdOf Tryz.prog 181 = .fn := by kernel_rfl
@[go_sem] theorem ty181 : tyOf Tryz.prog 181 = some (false, 1) := by kernel_rfl
@[go_sem] theorem in181 : infoOf Tryz.prog 181 = some (1, 8) := by kernel_rfl
@[go_sem] theorem ze181 : zeroV Tryz.prog 181 = some (.t .nilf) := by kernel_rfl
@[go_sem] theorem kd182 : kdOf Tryz.prog 182 = (.int .i64) := by kernel_rfl
@[go_sem] theorem ty182 : tyOf Tryz.prog 182 = some (false, 1) := by kernel_rfl
@[go_sem] theorem in182 : infoOf Tryz.prog 182 = some (1, 8) := by kernel_rfl
@[go_sem] theorem ze182 : zeroV Tryz.prog 182 = some (.t (.int .i64 0)) := by kernel_rfl
@[go_sem] theorem kd183 : kdOf Tryz.prog 183 = .other := by kernel_rfl
@[go_sem] theorem ty183 : tyOf Tryz.prog 183 = some (false, 1) := by kernel_rfl
@[go_sem] theorem in183 : infoOf Tryz.prog 183 = some (1, 0) := by kernel_rfl
@[go_sem] theorem kd184 : kdOf Tryz.prog 184 = .fn := by kernel_rfl
@[go_sem] theorem ty184 : tyOf Tryz.prog 184 = some (false, 1) := by kernel_rfl
@[go_sem] theorem in184 : infoOf Tryz.prog 184 = some (1, 8) := by kernel_rfl
@[go_sem] theorem ze184 : zeroV Tryz.prog 184 = some (.t .nilf) := by kernel_rfl
@[go_sem] theorem kd185 : kdOf Tryz.prog 185 = .fn := by kernel_rfl
@[go_sem] theorem ty185 : tyOf Tryz.prog 185 = some (false, 1) := by kernel_rfl
@[go_sem] theorem in185 : infoOf Tryz.prog 185 = some (1, 8) := by kernel_rfl
@[go_sem] theorem ze185 : zeroV Tryz.prog 185 = some (.t .nilf) := by kernel_rfl
@[go_sem] theorem kd186 : kdOf Tryz.prog 186 = .fn := by kernel_rfl
@[go_sem] theorem ty186 : tyOf Tryz.prog 186 = some (false, 1) := by kernel_rfl
@[go_sem] theorem in186 : infoOf Tryz.prog 186 = some (1, 8) := by kernel_rfl
@[go_sem] theorem ze186 : zeroV Tryz.prog 186 = some (.t .nilf) := by kernel_rfl
@[go_sem] theorem kd187 : kdOf Tryz.prog 187 = .fn := by kernel_rfl
@[go_sem] theorem ty187 : tyOf Tryz.prog 187 = some (false, 1) := by kernel_rfl
@[go_sem] theorem in187 : infoOf Tryz.prog 187 = some (1, 8) := by kernel_rfl
@[go_sem] theorem ze187 : zeroV Tryz.prog 187 = some (.t .nilf) := by kernel_rfl
@[go_sem] theorem kd188 : kdOf Tryz.prog 188 = .other := by kernel_rfl
@[go_sem] theorem ty188 : tyOf Tryz.prog 188 = some (false, 1) := by kernel_rfl
@[go_sem] theorem in188 : infoOf Tryz.prog 188 = some (1, 0) := by kernel_rfl
@[go_sem] theorem kd189 : kdOf Tryz.prog 189 = .fn := by kernel_rfl
@[go_sem] theorem ty189 : tyOf Tryz.prog 189 = some (false, 1) := by kernel_rfl
@[go_sem] theorem in189 : infoOf Tryz.prog 189 = some (1, 8) := by kernel_rfl
@[go_sem] theorem ze189 : zeroV Tryz.prog 189 = some (.t .nilf) := by kernel_rfl
@[go_sem] theorem kd190 : kdOf Tryz.prog 190 = .fn := by kernel_rfl
@[go_sem] theorem ty190 : tyOf Tryz.prog 190 = some (false, 1) := by kernel_rfl
@[go_sem] theorem in190 : infoOf Tryz.prog 190 = some (1, 8) := by kernel_rfl
@[go_sem] theorem ze190 : zeroV Tryz.prog 190 = some (.t .nilf) := by kernel_rfl
@[go_sem] theorem kd191 : kdOf Tryz.prog 191 = .fn := by kernel_rfl
@[go_sem] theorem ty191 : tyOf Tryz.prog 191 = some (false, 1) := by kernel_rfl
@[go_sem] theorem in191 : infoOf Tryz.prog 191 = some (1, 8) := by kernel_rfl
@[go_sem] theorem ze191 : zeroV Tryz.prog 191 = some (.t .nilf) := by kernel_rfl
@[go_sem] theorem kd192 : kdOf Tryz.prog 192 = (.sl 173) := by kernel_rfl
@[go_sem] theorem ty192 : tyOf Tryz.prog 192 = some (false, 1) := by kernel_rfl
@[go_sem] theorem in192 : infoOf Tryz.prog 192 = some (1, 24) := by kernel_rfl
@[go_sem] theorem ze192 : zeroV Tryz.prog 192 = some (.ex []) := by kernel_rfl
@[go_sem] theorem kd193 : kdOf Tryz.prog 193 = .fn := by kernel_rfl
@[go_sem] theorem ty193 : tyOf Tryz.prog 193 = some (false, 1) := by kernel_rfl
@[go_sem] theorem in193 : infoOf Tryz.prog 193 = some (1, 8) := by kernel_rfl
@[go_sem] theorem ze193 : zeroV Tryz.prog 193 = some (.t .nilf) := by kernel_rfl
@[go_sem] theorem kd194 : kdOf Tryz.prog 194 = .fn := by kernel_rfl
@[go_sem] theorem ty194 : tyOf Tryz.prog 194 = some (false, 1) := by kernel_rfl
@[go_sem] theorem in194 : infoOf Tryz.prog 194 = some (1, 8) := by kernel_rfl
@[go_sem] theorem ze194 : zeroV Tryz.prog 194 = some (.t .nilf) := by kernel_rfl
@[go_sem] theorem kd195 : kdOf Tryz.prog 195 = .fn := by kernel_rfl
@[go_sem] theorem ty195 : tyOf Tryz.prog 195 = some (false, 1) := by kernel_rfl
@[go_sem] theorem in195 : infoOf Tryz.prog 195 = some (1, 8) := by kernel_rfl
@[go_sem] theorem ze195 : zeroV Tryz.prog 195 = some (.t .nilf) := by kernel_rfl
@[go_sem] theorem kd196 : kdOf Tryz.prog 196 = .other := by kernel_rfl
@[go_sem] theorem ty196 : tyOf Tryz.prog 196 = some (false, 1) := by kernel_rfl
@[go_sem] theorem in196 : infoOf Tryz.prog 196 = some (1, 0) := by kernel_rfl
@[go_sem] theorem kd197 : kdOf Tryz.prog 197 = .fn := by kernel_rfl
@[go_sem] theorem ty197 : tyOf Tryz.prog 197 = some (false, 1) := by kernel_rfl
@[go_sem] theorem in197 : infoOf Tryz.prog 197 = some (1, 8) := by kernel_rfl
@[go_sem] theorem ze197 : zeroV Tryz.prog 197 = some (.t .nilf) := by kernel_rfl
@[go_sem] theorem kd198 : kdOf Tryz.prog 198 = .fn := by kernel_rfl
@[go_sem] theorem ty198 : tyOf Tryz.prog 198 = some (false, 1) := by kernel_rfl
@[go_sem] theorem in198 : infoOf Tryz.prog 198 = some (1, 8) := by kernel_rfl
@[go_sem] theorem ze198 : zeroV Tryz.prog 198 = some (.t .nilf) := by kernel_rfl
@[go_sem] theorem kd199 : kdOf Tryz.prog 199 = .fn := by kernel_rfl
@[go_sem] theorem ty199 : tyOf Tryz.prog 199 = some (false, 1) := by kernel_rfl
@[go_sem] theorem in199 : infoOf Tryz.prog 199 = some (1, 8) := by kernel_rfl
@[go_sem] theorem ze199 : zeroV Tryz.prog 199 = some (.t .nilf) := by kernel_rfl
@[go_sem] theorem kd200 : kdOf Tryz.prog 200 = .fn := by kernel_rfl
@[go_sem] theorem ty200 : tyOf Tryz.prog 200 = some (false, 1) := by kernel_rfl
@[go_sem] theorem in200 : infoOf Tryz.prog 200 = some (1, 8) := by kernel_rfl
@[go_sem] theorem ze200 : zeroV Tryz.prog 200 = some (.t .nilf) := by kernel_rfl
@[go_sem] theorem kd201 : kdOf Tryz.prog 201 = .other := by kernel_rfl
@[go_sem] theorem ty201 : tyOf Tryz.prog 201 = some (false, 1) := by kernel_rfl
@[go_sem] theorem in201 : infoOf Tryz.prog 201 = some (1, 0) := by kernel_rfl
@[go_sem] theorem kd202 : kdOf Tryz.prog 202 = .fn := by kernel_rfl
@[go_sem] theorem ty202 : tyOf Tryz.prog 202 = some (false, 1) := by kernel_rfl
@[go_sem] theorem in202 : infoOf Tryz.prog 202 = some (1, 8) := by kernel_rfl
@[go_sem] theorem ze202 : zeroV Tryz.prog 202 = some (.t .nilf) := by kernel_rfl
@[go_sem] theorem kd203 : kdOf Tryz.prog 203 = .fn := by kernel_rfl
@[go_sem] theorem ty203 : tyOf Tryz.prog 203 = some (false, 1) := by kernel_rfl
@[go_sem] theorem in203 : infoOf Tryz.prog 203 = some (1, 8) := by kernel_rfl
@[go_sem] theorem ze203 : zeroV Tryz.prog 203 = some (.t .nilf) := by kernel_rfl
@[go_sem] theorem kd204 : kdOf Tryz.prog 204 = (.int .u64) := by kernel_rfl
@[go_sem] theorem ty204 : tyOf Tryz.prog 204 = some (false, 1) := by kernel_rfl
@[go_sem] theorem in204 : infoOf Tryz.prog 204 = some (1, 8) := by kernel_rfl
@[go_sem] theorem ze204 : zeroV Tryz.prog 204 = some (.t (.int .u64 0)) := by kernel_rfl
@[go_sem] theorem kd205 : kdOf Tryz.prog 205 = .fn := by kernel_rfl
@[go_sem] theorem ty205 : tyOf Tryz.prog 205 = some (false, 1) := by kernel_rfl
@[go_sem] theorem in205 : infoOf Tryz.prog 205 = some (1, 8) := by kernel_rfl
@[go_sem] theorem ze205 : zeroV Tryz.prog 205 = some (.t .nilf) := by kernel_rfl
@[go_sem] theorem kd206 : kdOf Tryz.prog 206 = .fn := by kernel_rfl
@[go_sem] theorem ty206 : tyOf Tryz.prog 206 = some (false, 1) := by kernel_rfl
@[go_sem] theorem in206 : infoOf Tryz.prog 206 = some (1, 8) := by kernel_rfl
@[go_sem] theorem ze206 : zeroV Tryz.prog 206 = some (.t .nilf) := by kernel_rfl
@[go_sem] theorem kd207 : kdOf Tryz.prog 207 = .fn := by kernel_rfl
@[go_sem] theorem ty207 : tyOf Tryz.prog 207 = some (false, 1) := by kernel_rfl
@[go_sem] theorem in207 : infoOf Tryz.prog 207 = some (1, 8) := by kernel_rfl
@[go_sem] theorem ze207 : zeroV Tryz.prog 207 = some (.t .nilf) := by kernel_rfl
@[go_sem] theorem kd208 : kdOf Tryz.prog 208 = .other := by kernel_rfl
@[go_sem] theorem ty208 : tyOf Tryz.prog 208 = some (false, 1) := by kernel_rfl
@[go_sem] theorem in208 : infoOf Tryz.prog 208 = some (1, 8) := by kernel_rfl
@[go_sem] theorem ze208 : zeroV Tryz.prog 208 = some (.t .nilp) := by kernel_rfl
@[go_sem] theorem kd209 : kdOf Tryz.prog 209 = .fn := by kernel_rfl
@[go_sem] theorem ty209 : tyOf Tryz.prog 209 = some (false, 1) := by kernel_rfl
@[go_sem] theorem in209 : infoOf Tryz.prog 209 = some (1, 8) := by kernel_rfl
@[go_sem] theorem ze209 : zeroV Tryz.prog 209 = some (.t .nilf) := by kernel_rfl
@[go_sem] theorem kd210 : kdOf Tryz.prog 210 = .fn := by kernel_rfl
@[go_sem] theorem ty210 : tyOf Tryz.prog 210 = some (false, 1) := by kernel_rfl
@[go_sem] theorem in210 : infoOf Tryz.prog 210 = some (1, 8) := by kernel_rfl
@[go_sem] theorem ze210 : zeroV Tryz.prog 210 = some (.t .nilf) := by kernel_rfl
@[go_sem] theorem kd211 : kdOf Tryz.prog 211 = .fn := by kernel_rfl
@[go_sem] theorem ty211 : tyOf Tryz.prog 211 = some (false, 1) := by kernel_rfl
@[go_sem] theorem in211 : infoOf Tryz.prog 211 = some (1, 8) := by kernel_rfl
@[go_sem] theorem ze211 : zeroV Tryz.prog 211 = some (.t .nilf) := by kernel_rfl
@[go_sem] theorem kd212 : kdOf Tryz.prog 212 = .fn := by kernel_rfl
@[go_sem] theorem ty212 : tyOf Tryz.prog 212 = some (false, 1) := by kernel_rfl
@[go_sem] theorem in212 : infoOf Tryz.prog 212 = some (1, 8) := by kernel_rfl
@[go_sem] theorem ze212 : zeroV Tryz.prog 212 = some (.t .nilf) := by kernel_rfl
@[go_sem] theorem kd213 : kdOf Tryz.prog 213 = .fn := by kernel_rfl
@[go_sem] theorem ty213 : tyOf Tryz.prog 213 = some (false, 1) := by kernel_rfl
@[go_sem] theorem in213 : infoOf Tryz.prog 213 = some (1, 8) := by kernel_rfl
@[go_sem] theorem ze213 : zeroV Tryz.prog 213 = some (.t .nilf) := by kernel_rfl
@[go_sem] theorem kd214 : kdOf Tryz.prog 214 = .fn := by kernel_rfl
@[go_sem] theorem ty214 : tyOf Tryz.prog 214 = some (false, 1) := by kernel_rfl
@[go_sem] theorem in214 : infoOf Tryz.prog 214 = some (1, 8) := by kernel_rfl
@[go_sem] theorem ze214 : zeroV Tryz.prog 214 = some (.t .nilf) := by kernel_rfl
@[go_sem] theorem kd215 : kdOf Tryz.prog 215 = .fn := by kernel_rfl
@[go_sem] theorem ty215 : tyOf Tryz.prog 215 = some (false, 1) := by kernel_rfl
@[go_sem] theorem in215 : infoOf Tryz.prog 215 = some (1, 8) := by kernel_rfl
@[go_sem] theorem ze215 : zeroV Tryz.prog 215 = some (.t .nilf) := by kernel_rfl
@[go_sem] theorem kd216 : kdOf Tryz.prog 216 = .fn := by kernel_rfl
@[go_sem] theorem ty216 : tyOf Tryz.prog 216 = some (false, 1) := by kernel_rfl
@[go_sem] theorem in216 : infoOf Tryz.prog 216 = some (1, 8) := by kernel_rfl
@[go_sem] theorem ze216 : zeroV Tryz.prog 216 = some (.t .nilf) := by kernel_rfl
@[go_sem] theorem kd217 : kdOf Tryz.prog 217 = .fn := by kernel_rfl
@[go_sem] theorem ty217 : tyOf Tryz.prog 217 = some (false, 1) := by kernel_rfl
@[go_sem] theorem in217 : infoOf Tryz.prog 217 = some (1, 8) := by kernel_rfl
@[go_sem] theorem ze217 : zeroV Tryz.prog 217 = some (.t .nilf) := by kernel_rfl
@[go_sem] theorem kd218 : kdOf Tryz.prog 218 = .fn := by kernel_rfl
@[go_sem] theorem ty218 : tyOf Tryz.prog 218 = some (false, 1) := by kernel_rfl
@[go_sem] theorem in218 : infoOf Tryz.prog 218 = some (1, 8) := by kernel_rfl
@[go_sem] theorem ze218 : zeroV Tryz.prog 218 = some (.t .nilf) := by kernel_rfl
@[go_sem] theorem kd219 : kdOf Tryz.prog 219 = .other := by kernel_rfl
@[go_sem] theorem ty219 : tyOf Tryz.prog 219 = some (false, 1) := by kernel_rfl
@[go_sem] theorem in219 : infoOf Tryz.prog 219 = some (1, 8) := by kernel_rfl
@[go_sem] theorem ze219 : zeroV Tryz.prog 219 = some (.t .nilp) := by kernel_rfl
@[go_sem] theorem kd220 : kdOf Tryz.prog 220 = .fn := by kernel_rfl
@[go_sem] theorem ty220 : tyOf Tryz.prog 220 = some (false, 1) := by kernel_rfl
@[go_sem] theorem in220 : infoOf Tryz.prog 220 = some (1, 8) := by kernel_rfl
@[go_sem] theorem ze220 : zeroV Tryz.prog 220 = some (.t .nilf) := by kernel_rfl
@[go_sem] theorem kd221 : kdOf Tryz.prog 221 = .fn := by kernel_rfl
@[go_sem] theorem ty221 : tyOf Tryz.prog 221 = some (false, 1) := by kernel_rfl
@[go_sem] theorem in221 : infoOf Tryz.prog 221 = some (1, 8) := by kernel_rfl
@[go_sem] theorem ze221 : zeroV Tryz.prog 221 = some (.t .nilf) := by kernel_rfl
@[go_sem] theorem kd222 : kdOf Tryz.prog 222 = .fn := by kernel_rfl
@[go_sem] theorem ty222 : tyOf Tryz.prog 222 = some (false, 1) := by kernel_rfl
@[go_sem] theorem in222 : infoOf Tryz.prog 222 = some (1, 8) := by kernel_rfl
@[go_sem] theorem ze222 : zeroV Tryz.prog 222 = some (.t .nilf) := by kernel_rfl
@[go_sem] theorem kd223 : kdOf Tryz.prog 223 = .other := by kernel_rfl
@[go_sem] theorem ty223 : tyOf Tryz.prog 223 = some (false, 1) := by kernel_rfl
@[go_sem] theorem in223 : infoOf Tryz.prog 223 = some (1, 8) := by kernel_rfl
@[go_sem] theorem kd224 : kdOf Tryz.prog 224 = .fn := by kernel_rfl
@[go_sem] theorem ty224 : tyOf Tryz.prog 224 = some (false, 1) := by kernel_rfl
@[go_sem] theorem in224 : infoOf Tryz.prog 224 = some (1, 8) := by kernel_rfl
@[go_sem] theorem ze224 : zeroV Tryz.prog 224 = some (.t .nilf) := by kernel_rfl
@[go_sem] theorem kd225 : kdOf Tryz.prog 225 = .fn := by kernel_rfl
@[go_sem] theorem ty225 : tyOf Tryz.prog 225 = some (false, 1) := by kernel_rfl
@[go_sem] theorem in225 : infoOf Tryz.prog 225 = some (1, 8) := by kernel_rfl
@[go_sem] theorem ze225 : zeroV Tryz.prog 225 = some (.t .nilf) := by kernel_rfl
@[go_sem] theorem kd226 : kdOf Tryz.prog 226 = .struct := by kernel_rfl
@[go_sem] theorem ty226 : tyOf Tryz.prog 226 = some (true, 4) := by kernel_rfl
@[go_sem] theorem in226 : infoOf Tryz.prog 226 = some (4, 40) := by kernel_rfl
@[go_sem] theorem ze226 : zeroV Tryz.prog 226 = some (.t (.agg [.nilp, .nilp, .nilp, (.str ByteArray.empty)])) := by kernel_rfl
@[go_sem] theorem fs226 : fldsOf Tryz.prog 226 = some [(0, 1), (1, 1), (2, 1), (3, 1)] := by kernel_rfl
@[go_sem] theorem fl226x0 : fldOf Tryz.prog 226 0 = some (0, 1) := by kernel_rfl
@[go_sem] theorem fl226x1 : fldOf Tryz.prog 226 1 = some (1, 1) := by kernel_rfl
@[go_sem] theorem fl226x2 : fldOf Tryz.prog 226 2 = some (2, 1) := by kernel_rfl
@[go_sem] theorem fl226x3 : fldOf Tryz.prog 226 3 = some (3, 1) := by kernel_rfl
@[go_sem] theorem kd227 : kdOf Tryz.prog 227 = .struct := by kernel_rfl
@[go_sem] theorem ty227 : tyOf Tryz.prog 227 = some (true, 4) := by kernel_rfl
@[go_sem] theorem in227 : infoOf Tryz.prog 227 = some (4, 40) := by kernel_rfl
@[go_sem] theorem ze227 : zeroV Tryz.prog 227 = some (.t (.agg [.nilp, .nilp, .nilp, (.str ByteArray.empty)])) := by kernel_rfl
@[go_sem] theorem fs227 : fldsOf Tryz.prog 227 = some [(0, 1), (1, 1), (2, 1), (3, 1)] := by kernel_rfl
@[go_sem] theorem fl227x0 : fldOf Tryz.prog 227 0 = some (0, 1) := by kernel_rfl
@[go_sem] theorem fl227x1 : fldOf Tryz.prog 227 1 = some (1, 1) := by kernel_rfl
@[go_sem] theorem fl227x2 : fldOf Tryz.prog 227 2 = some (2, 1) := by kernel_rfl
@[go_sem] theorem fl227x3 : fldOf Tryz.prog 227 3 = some (3, 1) := by kernel_rfl
@[go_sem] theorem kd228 : kdOf Tryz.prog 228 = (.arr 0 16) := by kernel_rfl
@[go_sem] theorem ty228 : tyOf Tryz.prog 228 = some (true, 0) := by kernel_rfl
@[go_sem] theorem in228 : infoOf Tryz.prog 228 = some (0, 0) := by kernel_rfl
@[go_sem] theorem ze228 : zeroV Tryz.prog 228 = some (.t (.agg [])) := by kernel_rfl
@[go_sem] theorem kd229 : kdOf Tryz.prog 229 = .struct := by kernel_rfl
@[go_sem] theorem ty229 : tyOf Tryz.prog 229 = some (true, 0) := by kernel_rfl
@[go_sem] theorem in229 : infoOf Tryz.prog 229 = some (0, 0) := by kernel_rfl
@[go_sem] theorem ze229 : zeroV Tryz.prog 229 = some (.t (.agg [])) := by kernel_rfl
@[go_sem] theorem fs229 : fldsOf Tryz.prog 229 = some [(0, 0)] := by kernel_rfl
@[go_sem] theorem fl229x0 : fldOf Tryz.prog 229 0 = some (0, 0) := by kernel_rfl
@[go_sem] theorem kd230 : kdOf Tryz.prog 230 = .struct := by kernel_rfl
@[go_sem] theorem ty230 : tyOf Tryz.prog 230 = some (true, 0) := by kernel_rfl
@[go_sem] theorem in230 : infoOf Tryz.prog 230 = some (0, 0) := by kernel_rfl
@[go_sem] theorem ze230 : zeroV Tryz.prog 230 = some (.t (.agg [])) := by kernel_rfl
@[go_sem] theorem fs230 : fldsOf Tryz.prog 230 = some [(0, 0)] := by kernel_rfl
@[go_sem] theorem fl230x0 : fldOf Tryz.prog 230 0 = some (0, 0) := by kernel_rfl
@[go_sem] theorem kd231 : kdOf Tryz.prog 231 = .fn := by kernel_rfl
@[go_sem] theorem ty231 : tyOf Tryz.prog 231 = some (false, 1) := by kernel_rfl
@[go_sem] theorem in231 : infoOf Tryz.prog 231 = some (1, 8) := by kernel_rfl
@[go_sem] theorem ze231 : zeroV Tryz.prog 231 = some (.t .nilf) := by kernel_rfl
@[go_sem] theorem kd232 : kdOf Tryz.prog 232 = (.int .u8) := by kernel_rfl
@[go_sem] theorem ty232 : tyOf Tryz.prog 232 = some (false, 1) := by kernel_rfl
@[go_sem] theorem in232 : infoOf Tryz.prog 232 = some (1, 1) := by kernel_rfl
@[go_sem] theorem ze232 : zeroV Tryz.prog 232 = some (.t (.int .u8 0)) := by kernel_rfl
@[go_sem] theorem kd233 : kdOf Tryz.prog 233 = (.int .u8) := by kernel_rfl
@[go_sem] theorem ty233 : tyOf Tryz.prog 233 = some (false, 1) := by kernel_rfl
@[go_sem] theorem in233 : infoOf Tryz.prog 233 = some (1, 1) := by kernel_rfl
@[go_sem] theorem ze233 : zeroV Tryz.prog 233 = some (.t (.int .u8 0)) := by kernel_rfl
@[go_sem] theorem kd234 : kdOf Tryz.prog 234 = .fn := by kernel_rfl
@[go_sem] theorem ty234 : tyOf Tryz.prog 234 = some (false, 1) := by kernel_rfl
@[go_sem] theorem in234 : infoOf Tryz.prog 234 = some (1, 8) := by kernel_rfl
@[go_sem] theorem ze234 : zeroV Tryz.prog 234 = some (.t .nilf) := by kernel_rfl
@[go_sem] theorem kd235 : kdOf Tryz.prog 235 = .other := by kernel_rfl
@[go_sem] theorem ty235 : tyOf Tryz.prog 235 = some (false, 1) := by kernel_rfl
@[go_sem] theorem in235 : infoOf Tryz.prog 235 = some (1, 8) := by kernel_rfl
@[go_sem] theorem ze235 : zeroV Tryz.prog 235 = some (.t .nilp) := by kernel_rfl
@[go_sem] theorem kd236 : kdOf Tryz.prog 236 = (.int .i32) := by kernel_rfl
@[go_sem] theorem ty236 : tyOf Tryz.prog 236 = some (false, 1) := by kernel_rfl
@[go_sem] theorem in236 : infoOf Tryz.prog 236 = some (1, 4) := by kernel_rfl
@[go_sem] theorem ze236 : zeroV Tryz.prog 236 = some (.t (.int .i32 0)) := by kernel_rfl
@[go_sem] theorem kd237 : kdOf Tryz.prog 237 = (.int .i32) := by kernel_rfl
@[go_sem] theorem ty237 : tyOf Tryz.prog 237 = some (false, 1) := by kernel_rfl
@[go_sem] theorem in237 : infoOf Tryz.prog 237 = some (1, 4) := by kernel_rfl
@[go_sem] theorem ze237 : zeroV Tryz.prog 237 = some (.t (.int .i32 0)) := by kernel_rfl
@[go_sem] theorem kd238 : kdOf Tryz.prog 238 = .struct := by kernel_rfl
@[go_sem] theorem ty238 : tyOf Tryz.prog 238 = some (true, 11) := by kernel_rfl
@[go_sem] theorem in238 : infoOf Tryz.prog 238 = some (11, 48) := by kernel_rfl
@[go_sem] theorem ze238 : zeroV Tryz.prog 238 = some (.t (.agg [(.int .u64 0), (.int .u64 0), (.int .u32 0), (.int .u8 0), (.int .u8 0), (.int .u8 0), (.int .u8 0), .nilf, .nilp, (.int .i32 0), (.int .i32 0)])) := by kernel_rfl
@[go_sem] theorem fs238 : fldsOf Tryz.prog 238 = some [(0, 1), (1, 1), (2, 1), (3, 1), (4, 1), (5, 1), (6, 1), (7, 1), (8, 1), (9, 1), (10, 1)] := by kernel_rfl
@[go_sem] theorem fl238x0 : fldOf Tryz.prog 238 0 = some (0, 1) := by kernel_rfl
@[go_sem] theorem fl238x1 : fldOf Tryz.prog 238 1 = some (1, 1) := by kernel_rfl
@[go_sem] theorem fl238x2 : fldOf Tryz.prog 238 2 = some (2, 1) := by kernel_rfl
@[go_sem] theorem fl238x3 : fldOf Tryz.prog 238 3 = some (3, 1) := by kernel_rfl
@[go_sem] theorem fl238x4 : fldOf Tryz.prog 238 4 = some (4, 1) := by kernel_rfl
@[go_sem] theorem fl238x5 : fldOf Tryz.prog 238 5 = some (5, 1) := by kernel_rfl
@[go_sem] theorem fl238x6 : fldOf Tryz.prog 238 6 = some (6, 1) := by kernel_rfl
@[go_sem] theorem fl238x7 : fldOf Tryz.prog 238 7 = some (7, 1) := by kernel_rfl
@[go_sem] theorem fl238x8 : fldOf Tryz.prog 238 8 = some (8, 1) := by kernel_rfl
@[go_sem] theorem fl238x9 : fldOf Tryz.prog 238 9 = some (9, 1) := by kernel_rfl
@[go_sem] theorem fl238x10 : fldOf Tryz.prog 238 10 = some (10, 1) := by kernel_rfl
@[go_sem] theorem kd239 : kdOf Tryz.prog 239 = .struct := by kernel_rfl
@[go_sem] theorem ty239 : tyOf Tryz.prog 239 = some (true, 11) := by kernel_rfl
@[go_sem] theorem in239 : infoOf Tryz.prog 239 = some (11, 48) := by kernel_rfl
@[go_sem] theorem ze239 : zeroV Tryz.prog 239 = some (.t (.agg [(.int .u64 0), (.int .u64 0), (.int .u32 0), (.int .u8 0), (.int .u8 0), (.int .u8 0), (.int .u8 0), .nilf, .nilp, (.int .i32 0), (.int .i32 0)])) := by kernel_rfl
@[go_sem] theorem fs239 : fldsOf Tryz.prog 239 = some [(0, 1), (1, 1), (2, 1), (3, 1), (4, 1), (5, 1), (6, 1), (7, 1), (8, 1), (9, 1), (10, 1)] := by kernel_rfl
@[go_sem] theorem fl239x0 : fldOf Tryz.prog 239 0 = some (0, 1) := by kernel_rfl
@[go_sem] theorem fl239x1 : fldOf Tryz.prog 239 1 = some (1, 1) := by kernel_rfl
@[go_sem] theorem fl239x2 : fldOf Tryz.prog 239 2 = some (2, 1) := by kernel_rfl
@[go_sem] theorem fl239x3 : fldOf Tryz.prog 239 3 = some (3, 1) := by kernel_rfl
@[go_sem] theorem fl239x4 : fldOf Tryz.prog 239 4 = some (4, 1) := by kernel_rfl
@[go_sem] theorem fl239x5 : fldOf Tryz.prog 239 5 = some (5, 1) := by kernel_rfl
@[go_sem] theorem fl239x6 : fldOf Tryz.prog 239 6 = some (6, 1) := by kernel_rfl
@[go_sem] theorem fl239x7 : fldOf Tryz.prog 239 7 = some (7, 1) := by kernel_rfl
@[go_sem] theorem fl239x8 : fldOf Tryz.prog 239 8 = some (8, 1) := by kernel_rfl
@[go_sem] theorem fl239x9 : fldOf Tryz.prog 239 9 = some (9, 1) := by kernel_rfl
@[go_sem] theorem fl239x10 : fldOf Tryz.prog 239 10 = some (10, 1) := by kernel_rfl
@[go_sem] theorem kd240 : kdOf Tryz.prog 240 = .other := by kernel_rfl
@[go_sem] theorem ty240 : tyOf Tryz.prog 240 = some (false, 1) := by kernel_rfl
@[go_sem] theorem in240 : infoOf Tryz.prog 240 = some (1, 8) := by kernel_rfl
@[go_sem] theorem ze240 : zeroV Tryz.prog 240 = some (.t .nilp) := by kernel_rfl
end Go.Sim
